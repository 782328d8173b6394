/- A part of the proof. -/
import Derived.Deep.CutRange
import Derived.Test.YtikdaeddbkopeaaGreatRV1
import Derived.Test.YtikdaeddbkopeaaGreatRV6
import Derived.Test.YtikdaeddbkopeaaGreatRV7
set_option linter.unusedVariables false
set_option linter.unusedSimpArgs false
set_option maxRecDepth 100000
set_option maxHeartbeats 16000000
open Go.Proofs.Tryz
open And renaming intro → al
open Array renaming getElem?_eq_some_iff → a9
open Bool renaming false → X, true → O
open Go renaming Calls → U, Value → I, World → W, run_loadVar_row → a7, wpList_load_row → aM, wp_at_zero → aQ, wp_at_succ → aR, TypeId → bM, loadVar → cL, wpList_append_own_at → dI, wp_store_row → eC, results_none → gT, Ending → jK, execOp → nO, maxLen → sV
open Go.Ending renaming returned → ai
open Go.Instr renaming sureAddr → uS
open Go.IntKind renaming i64 → H, i64 → ab
open Go.IntWalk renaming i64_in → dh
open Go.Lib renaming hid → N, hid → aj
open Go.Obj renaming cells → ag
open Go.Proofs.Tryz renaming underlying34 → aK, prog → ao, underlying67 → cF, underlying26 → iU, underlying35 → lI
open Go.Result renaming andThen_ok → bC
open Go.RowKit renaming Below → D
open Go.RowKit.Below renaming heap_setCell → jL
open Go.Sem renaming run_bind → cD, run_pure → dF
open Go.Value renaming int → V, int → LD, oneCell' → aB, bool → ah, int → aa, pointer → ae, slice → af
open Go.WideShapes renaming add_plain → gZ
open Go.World renaming ownsRow_nil → bW
open Go.World.ownsRow renaming cellAt → ig
open List renaming getElem?_eq_some_iff → aC, getElem?_eq_getElem → aD, mem_cons → aL, mem_of_getElem? → aU, setIfInBounds_toArray → ak, getElem_cons_zero → an, getElem_cons_succ → ar, getElem_toArray → au, set_cons_zero → ay, set_cons_succ → az, length_append → bE, not_mem_nil → be, mem_cons_of_mem → cM, getD_eq_getElem?_getD → dJ, length_take → dg, range → eF, set_nil → eM, replicate → fV, length_cons → ku, take_length → nP, length_map → qH, take_add_one → qy, map_cons → s8
open Nat renaming le_trans → aF, zero_le → aN, lt_of_lt_of_le → aZ, le_refl → aq, zero_add → ea, le_of_lt → ed
open Option renaming none → Y, some → J, isSome_some → cZ
open Option.some renaming inj → aP
open Or renaming inl → jI
open Prod.mk renaming injEq → ly
open True renaming intro → bd
namespace Go.Proofs.YtikdaeddbkopeaaGreatR
section
open Go.RowKit
attribute [local go_sem ↓] aQ aR
theorem dZ(l m:List Acc):bV (l++m)=bV l++bV m:=by simp[bV]
theorem sP:∀(l:List Acc) (k:Nat) (a:Acc),l[k]? =J a->(bV l)[k*4]? =J (V H a.kind)/\(bV l)[k*4+1]? =J (V H a.cell)/\(bV l)[k*4+2]? =J (V H a.rl)/\(bV l)[k*4+3]? =J (V H a.new)
 | [],k,a,h=>by simp at h
 | b :: l,0,a,h=>by simp at h;subst h;simp[bV]
 | b :: l,k+1,a,h=>by
  simp at h;have:=sP l k a h;rw[show (k+1)*4=k*4+1+1+1+1 from by omega]
  simpa[bV] using this
theorem pS{w:W}{base cap n:Nat}{G:Option Addr}{l:List Acc}(h:w.ownsRow base 67 4 (.slice G n cap) n (bV l))(z:l.length=n):jP w w.heap.size G l:=by
 intro q;rcases h.2 with⟨c,b⟩|⟨g,s,y,c,_⟩
 ·omega
 injection c with c _ f;subst c f;have o:g<w.heap.size:=by
  rcases h.2 with⟨b,_⟩|⟨A,t,x,b,_,i,_⟩
  ·cases b
  injection b with b _ _;injection b with b;injection b with b;subst b;exact(a9.1 i).1
 refine⟨g,0,Z,o,λk a j=>?_⟩;have u:k<l.length:=(aC.1 j).1;obtain⟨c,b,f,i⟩:=sP l k a j;have e:∀(d:Nat) (v:I),d<4->(bV l)[k*4+d]? =J v->w.cell? ⟨g,0+k*4+d,Y⟩=J v:=λd v hd m=>by
  rw[ea,ig h (k*4+d) M];exact m
 exact⟨e 0 _ M c,e 1 _ M b,e 2 _ M f,e 3 _ M i⟩
def zE(l:Ly)(k:Nat):Acc:=⟨2,nodeAt l (k+3) 7,0,if (k:Int)+3=l.c.nodes then 0 else(k:Int)+4⟩
def lg(l:Ly)(k:Nat):List Acc:=(eF k).map (zE l)
theorem uz(l:Ly)(k:Nat):lg l (k+1)=lg l k++[zE l k]:=by simp[lg,List.range_succ]
def qP(l:Ly):List Acc:=lg l (l.c.nodes-2).toNat++[⟨2,l.free,0,dL 3 X 0⟩]
theorem sd(l:Ly):qP l=lg l (l.c.nodes-2).toNat++[⟨2,l.free,0,dL 3 X 0⟩]:=Z
theorem pD:(Tryz.prog.info? 67).map (λi=>(i.zero,i.size,i.bytes))=J (J (.agg #[V H 0,V H 0,V H 0,V H 0]),4,32):=zK
theorem Dx:∃i,oH ao 102 67 i (.agg #[V H 0,V H 0,V H 0,V H 0]) 4 32:=oH.of underlying102 pD Z zD
theorem pC(w:W)(a:Array I):∀(j:Nat) (u:I),a.toList[j]? =J u->(w.alloc (ag a 67)).cell? ((⟨w.heap.size,0,Y⟩:Addr).add j)=J u:=by
 intro j u b;rw[gZ,ea,(Bk.made w 67 a).cell j]
 simpa using b
def InitRel(w:W)(l:Ly)(a b c:I)(wr:W):Prop:=
 ∃k:Nat,(k:Int)+2<=l.c.nodes/\c=V H (k+3:Nat)/\a=V H (if k=0 then 0 else 3)/\D w.heap.size w wr/\Bk wr w.heap.size 34 (lyC l)/\wr.ownsRow w.heap.size 67 4 b k (bV (lg l k))
def sU(b:List Acc)(w:W)(e:jK)(a:W):Prop:=∃A c,e=ai (.slice A b.length c)/\jP a a.heap.size A b/\D w.heap.size w a
theorem Nx(l:Ly)(w:W)(f:eu l)(h1:3<=l.c.nodes)(D:l.c.nodes<=1000):U ao 70 #[lyV l,V H 3] w (sU (qP l) w):=by
 have k0:=Bk.made w 34 (lyC l);have sy:=bA w (ag (lyC l) 34);obtain⟨i0,yx,sf,qk,sW⟩:=info_parts pD;obtain⟨inf,BD⟩:=Dx;go_enter func70,ntmps70;go_wp2_with fail;generalize w.alloc (ag (lyC l) 34)=w1 at *;go_loopw [5,6,7] (λv5 v6 qd wr=>InitRel w l v5 v6 qd wr) (λ_ _ qd _=>(l.c.nodes.toNat+1)-(intOf qd).toNat)
 case atStart=>exact⟨0,M,Z,Z,sy,k0,bW _ _ _ _⟩
 obtain⟨k,hk,rfl,rfl,t,a,B⟩:=hrel;obtain⟨kk,J⟩:∃kk:Int,((k+3:Nat):Int)=kk:=⟨_,Z⟩;obtain⟨G,qf⟩:∃z:Int,(if k=0 then 0 else 3:Int)=z:=⟨_,Z⟩;rw[J,qf];have b1:3<=kk/\kk<=1001:=M;have qa:=a.cell 1;simp at qa;by_cases fH:kk<=l.c.nodes
 ·have g1:decide (kk<=l.c.nodes)=O:=zP;have HO:=N B;have F:=N f;have x:=N J;have yu:k<1000:=M;clear B f J qf;rcases Classical.em (kk=l.c.nodes)with g|g
  ·have g2:(kk==l.c.nodes)=O:=by simp;exact g
   have g3:decide (kk=l.c.nodes)=O:=by simp;exact g
   have P:=N g;clear g;go_wp2_with (refine aM Z 34 (.tmp 2) Z w.heap.size Z 34 (lyC l) (0,0) _ a aK Z zK ?_);refine(dE l kk 7 _ F.out M).mono ?_;rintro e A ⟨rfl,j⟩;obtain⟨b,s⟩:=nM (nodeAt l kk 7);rw[s];have qg:=N s;clear s;have C:=aE t j;have qh:=(a.aw j).alloc (ag #[V H 2,V H b,V H 0,V H 0] 67);have c:=W.ownsRow.alloc (j7 HO.out j) (ag #[V H 2,V H b,V H 0,V H 0] 67);have d:=aA C (ag #[V H 2,V H b,V H 0,V H 0] 67);clear t j qa;go_wp2_with (at_builtin;go_must (refine dI _ rfl (.tmp 26) (.tmp 32) _ rfl w.heap.size 67 i0 _ 4 32 underlying102 yx sf qk sW rfl M u6 k (bV (lg l k)) rfl c ⟨A.heap.size,0,Y⟩ 1 1 [V H 2,V H b,V H 0,V H 0] rfl rfl (pC A _) (by simp[aB]) (by simp only[sV];omega) M (by simp;have:=C.size;omega) ?_;intro qc w5 L y _ _));have qe:=cV c y;refine⟨⟨k+1,by have:=x.out;omega,by have:=x.out;go_num,zS,bO d c y d.size (aq _),qh.dy qe zD,?_⟩,by simp[intOf];omega⟩;rw[uz,dZ];have e:zE l k=⟨2,b,0,0⟩:=by
    have h1:=x.out;have D:=P.out;have Q:=qg.out;have T:(k:Int)+3=kk:=M;unfold zE;rw[T,Q,if_pos D]
   rw[e];exact L
  have g2:(kk==l.c.nodes)=X:=by simp;exact g
  have g3:decide (kk=l.c.nodes)=X:=by simp;exact g
  have P:=N g;clear g;go_wp2_with (refine aM Z 34 (.tmp 2) Z w.heap.size Z 34 (lyC l) (0,0) _ a aK Z zK ?_);refine(dE l kk 7 _ F.out M).mono ?_;rintro e A ⟨rfl,j⟩;obtain⟨b,s⟩:=nM (nodeAt l kk 7);rw[s];have qg:=N s;clear s;have C:=aE t j;have qh:=(a.aw j).alloc (ag #[V H 2,V H b,V H 0,V H (kk+1)] 67);have c:=W.ownsRow.alloc (j7 HO.out j) (ag #[V H 2,V H b,V H 0,V H (kk+1)] 67);have d:=aA C (ag #[V H 2,V H b,V H 0,V H (kk+1)] 67);clear t j qa;go_wp2_with (at_builtin;go_must (refine dI _ rfl (.tmp 26) (.tmp 32) _ rfl w.heap.size 67 i0 _ 4 32 underlying102 yx sf qk sW rfl M u6 k (bV (lg l k)) rfl c ⟨A.heap.size,0,Y⟩ 1 1 [V H 2,V H b,V H 0,V H (kk+1)] rfl rfl (pC A _) (by simp[aB]) (by simp only[sV];omega) M (by simp;have:=C.size;omega) ?_;intro qc w5 L y _ _));have qe:=cV c y;refine⟨⟨k+1,by have:=x.out;omega,by have:=x.out;go_num,zS,bO d c y d.size (aq _),qh.dy qe zD,?_⟩,by simp[intOf];omega⟩;rw[uz,dZ];have e:zE l k=⟨2,b,0,(kk+1)⟩:=by
   have h1:=x.out;have D:=P.out;have Q:=qg.out;have T:(k:Int)+3=kk:=M;unfold zE;rw[T,Q,if_neg D];congr 1;omega
  rw[e];exact L
 have g1:decide (kk<=l.c.nodes)=X:=zP;go_upto_region 12 with fail;refine aH (S:=λm=>Bk m w.heap.size 34 (lyC l)) (E:=λ_=>X) zK ?_;replace a:=a.drew;replace t:=t.drew;replace B:wr.drew.ownsRow w.heap.size 67 4 u6 k (bV (lg l k)):=B;clear qa;generalize wr.drew=w3 at *;refine cO (i:=0) (oi:=_) (v:=u6) Z zK zK zK zK (λ_ _ _ h=>h) (jI ⟨by rfl,?_⟩) a ?_
 ·intro m u;(try simp only[au,an]);go_simp
 (try simp only[au,an,Act.put,ak,ay,az]);refine cO (i:=1) (oi:=_) (v:=ae (some ⟨w.heap.size,12,Y⟩)) Z zK zK zK zK (λ_ _ _ h=>h) (jI ⟨by rfl,?_⟩) a ?_
 ·intro m u;(try simp only[au,ar,an]);go_simp
 (try simp only[au,ar,an,Act.put,ak,ay,az]);refine cO (i:=2) (oi:=_) (v:=V H l.free) Z zK zK zK zK (λ_ _ _ h=>h) (jI ⟨by rfl,?_⟩) a ?_
 ·intro m u;have s1:=u.cell 12;(try simp at s1);(try simp only[au,ar,an]);go_simp
 (try simp only[au,ar,an,Act.put,ak,ay,az]);refine cO (i:=3) (oi:=_) (v:=V H G) Z zK zK zK zK (λ_ _ _ h=>h) (jI ⟨by rfl,?_⟩) a ?_
 ·intro m u;(try simp only[au,ar,an]);go_simp
 (try simp only[au,ar,an,Act.put,ak,ay,az]);refine cO (i:=4) (oi:=_) (v:=.agg #[V H G,ah X,V H 0]) Z zK zK zK zK (λ_ _ _ h=>h) (jI ⟨by rfl,?_⟩) a ?_
 ·intro m u;(try simp only[au,ar,an]);go_simp
 (try simp only[au,ar,an,Act.put,ak,ay,az]);refine wOq 5 (λK q=>?_);go_simp;refine(gk G X 0 _).mono ?_;rintro e qb ⟨rfl,d⟩;obtain⟨pk,hpk⟩:=nM (dL G X 0);rw[hpk];refine q.out _ _ (λ_=>a.aw d) ?_;clear q K;(try simp only[au,ar,an,Act.put,ak,ay,az]);refine cO (i:=6) (oi:=_) (v:=.agg #[V H 2,V H l.free,V H 0,V H pk]) rfl zK zK zK zK (λ_ _ _ h=>h) (jI ⟨by rfl,?_⟩) (a.aw d) ?_
 ·intro m u;(try simp only[au,ar,an]);go_simp
 (try simp only[au,ar,an,Act.put,ak,ay,az]);have ha:Bk (qb.alloc (ag #[V H 2,V H l.free,V H 0,V H pk] 67)) qb.heap.size 67 #[V H 2,V H l.free,V H 0,V H pk]:=Bk.made _ _ _;have c:=W.ownsRow.alloc (j7 B d) (ag #[V H 2,V H l.free,V H 0,V H pk] 67);have oQ:=aA d (ag #[V H 2,V H l.free,V H 0,V H pk] 67);have R:=aE t oQ;have k5:=(a.aw d).alloc (ag #[V H 2,V H l.free,V H 0,V H pk] 67);refine wOq 7 (λK q=>?_);go_simp;refine q.out _ _ (λ_=>k5) ?_;clear q K;(try simp only[au,ar,an,Act.put,ak,ay,az]);generalize qb.alloc (ag #[V H 2,V H l.free,V H 0,V H pk] 67)=w5 at *;generalize qb.heap.size=ga at *;refine eG (i:=8) (o:=_) zK Z (λK q=>?_);rw[if_pos (by rfl)];refine dX BD (.tmp 35) (.tmp 42) Z w.heap.size u6 k (bV (lg l k)) Z c (some ⟨ga,0,Y⟩) 1 1 _ Z (mK ha Z ha.lt) (by simp[aB]) M M R.size (λqc w6 pq fT=>?_);have LO:=bO R c fT R.size (aq _);have k6:=k5.dy (cV c fT) zD;refine q.out _ _ (λ_=>k6) ?_;clear q K;(try simp only[au,ar,an,Act.put,ak,ay,az]);refine cO (i:=9) (oi:=_) (v:=qc) Z zK zK zK zK (λ_ _ _ h=>h) (jI ⟨by rfl,?_⟩) k6 ?_
 ·intro m u;go_simp
 refine aG zK ?_ _;(try simp only[au,ar,an,Act.put,ak,ay,az]);obtain⟨qj,cA,rfl⟩:=bJ pq;have hN:(l.c.nodes-2).toNat=k:=M;have qi:(qP l).length=k+1:=by rw[sd,hN];simp[lg]
 have sX:jP w6 w6.heap.size qj (qP l):=by
  refine pS (base:=w.heap.size) (cap:=cA) (n:=k+1) ?_ qi;rw[sd,hN,dZ];have e:dL 3 X 0=pk:=by
   rw[<- hpk,<- qf,if_neg M]
  rw[e];exact pq
 go_wp2;go_ret;exact⟨qj,cA,by rw[qi];rfl,sX,LO⟩
end
section
open Go.RowKit
variable {A:Option Addr} {d v v0 v1 v2 v3 v4:I} {a ty:bM} {w2:W} {b base g who:Nat} {y:fz} {es:List EvW}
def pH(w w':W):Prop:=∀(g:Nat) (cs:Array I) (t:bM) (a:Nat × Nat),w.heap[g]? =J (ag cs t a)->(t=75\/t=3\/t=52)->w'.heap[g]? =J (ag cs t a)
section
variable {w w':W}
theorem eB.r(h:eB a w w')(i:a≠75)(d:a≠3)(c:a≠52):pH w w':=λg cs t f b j=>h g cs t f b (by
 rcases j with rfl|rfl|rfl
 ·exact λe=>i e.symm
 ·exact λe=>d e.symm
 exact λe=>c e.symm)
theorem CC(b:D w.heap.size w w'):pH w w':=λg cs t c a _=>(b.block g (a9.1 a).1).trans a
theorem pH.trans(h:pH w w')(c:pH w' w2):pH w w2:=λg cs t a d b=>c g cs t a (h g cs t a d b) b
theorem jZ{sz n:Nat}{e:bM}{xs:List I}(h:w.ownsRow base e sz v n xs)(j:pH w w')(ne:e=75\/e=3\/e=52):w'.ownsRow base e sz v n xs:=by
 rcases h.2 with a|⟨g,f,b,a,i,c,d⟩
 ·exact⟨h.1,.inl a⟩
 exact⟨h.1,.inr ⟨g,f,b,a,i,j g b e (0,0) c ne,d⟩⟩
theorem bI.qO{g:cq}(h:bI w v g)(y:pH w w'):bI w' v g:=by
 obtain⟨G,c,s,u,q⟩:=h;refine⟨G,c,s,u,λn=>?_⟩;obtain⟨b,o,cs,e,z,d,j⟩:=q n;have a:=y b cs 52 (0,0) d (.inr (.inr Z));have m:∀i,w'.cell? ⟨b,i,Y⟩=w.cell? ⟨b,i,Y⟩:=λi=>by
  rw[cell_of_row w b i cs 52 (0,0) d,cell_of_row w' b i cs 52 (0,0) a]
 exact⟨b,o,cs,e,(a9.1 a).1,a,λk r f=>⟨(m _).trans (j k r f).1,(m _).trans (j k r f).2⟩⟩
end
theorem Ay(l:List (Int × Bool)):∀(k:Nat) (r:Int × Bool),l[k]? =J r->(gh l)[k*2]? =J (V H r.1)/\(gh l)[k*2+1]? =J (.bool r.2):=by
 induction l with
 | nil=>intro k r h;simp at h
 | cons a l b=>
  intro k r h;have e:gh (a :: l)=[V H a.1,.bool a.2]++gh l:=Z;cases k with
  | zero=>simp at h;subst h;simp[e]
  | succ k=>
   obtain⟨c,d⟩:=b k r (by simpa using h);rw[e,show (k+1)*2=2+k*2 by omega];refine⟨?_,?_⟩
   ·rw[List.getElem?_append_right zS];simpa using c
   rw[show 2+k*2+1=2+(k*2+1)by omega,List.getElem?_append_right zS];simpa using d
theorem Kt{w:W}{cap:Nat}{G:Option Addr}{log:Log}(h:jD w base (.slice G log.length cap) log):gH w w.heap.size G log:=by
 intro m;obtain⟨o,e⟩:=Src.own h (aq w.heap.size);rcases e with⟨_,n,_⟩|⟨g,of,rfl,d,c⟩
 ·omega
 refine⟨g,of,Z,d,λk r j=>?_⟩;obtain⟨f,i⟩:=Ay log k r j;have b:=c _ _ f;have a:=c _ _ i;first
  | exact⟨b,a⟩
  | (rw[gZ]at b a;exact⟨b,a⟩)
def jm(l:List Nat):List Int:=l.map λ(n:Nat)=>(n:Int)
theorem tc(l:List Nat):(jm l).length=l.length:=qH _
abbrev evC(e:EvW):Array I:=#[V H e.who,V H e.who,V H e.a.kind,V H e.a.cell,V H e.a.rl,V H e.a.new,V H e.r.1,.bool e.r.2]
def mP(l:List EvW):List I:=l.flatMap λe=>(evC e).toList
theorem A8(l:List EvW)(e:EvW):mP (l++[e])=mP l++(evC e).toList:=by simp[mP]
abbrev cB(c:cd):Array I:=#[V H c.who,V H c.op.kind,V H c.op.obj,V H c.op.a,V H c.op.b,V H c.val,.bool c.is,V H c.first,V H c.last,V H c.bc]
def cj(l:List cd):List I:=l.flatMap λc=>(cB c).toList
theorem jz(l:List cd)(c:cd):cj (l++[c])=cj l++(cB c).toList:=by simp[cj]
structure JS (w:W) (cs:Array I) (k:Nat) (x:fz):Prop where
 at_:cs[k*5]? =J (V H x.pos)
 log:∃G c,cs[k*5+1]? =J (.slice G x.log.length c)/\jD w 0 (.slice G x.log.length c) x.log
 steps:∃G c,cs[k*5+2]? =J (.slice G x.steps.length c)/\aX w 0 (.slice G x.steps.length c) (jm x.steps)
 gone:∃gv,cs[k*5+3]? =J gv/\bI w gv x.gone
 made:cs[k*5+4]? =J (V H x.made)
structure pE (w:W) (gs:Nat) (ss:List fz) (cs:Array I):Prop where
 row:Bk w gs 46 cs
 size:cs.size=ss.length*5
 at_:∀k x,ss[k]? =J x->JS w cs k x
section
variable {w w':W} {gs k:Nat} {cs:Array I} {x:fz} {ss:List fz}
theorem JS.qO(h:JS w cs k x)(a:pH w w'):JS w' cs k x:=by
 obtain⟨n,⟨G,c,q,e⟩,⟨i,b,j,f⟩,⟨m,g,o⟩,d⟩:=h;exact⟨n,⟨G,c,q,jZ e a (.inl Z)⟩,⟨i,b,j,jZ f a (.inr (.inl Z))⟩,⟨m,g,o.qO a⟩,d⟩
theorem pE.kept(h:pE w gs ss cs)(c:pH w w')(b:w'.heap[gs]? =w.heap[gs]?):pE w' gs ss cs:=
 ⟨b.trans h.row,h.size,λk x a=>(h.at_ k x a).qO c⟩
abbrev rS(cs:Array I)(who:Nat)(v0 v1 v2 v3 v4:I):Array I:=((((cs.setIfInBounds (who*5) v0).setIfInBounds (who*5+1) v1).setIfInBounds (who*5+2) v2).setIfInBounds (who*5+3) v3).setIfInBounds (who*5+4) v4
abbrev ni(w:W)(gs who:Nat)(v0 v1 v2 v3 v4:I):W:=((((w.setCell ⟨gs,who*5,Y⟩ v0).setCell ⟨gs,who*5+1,Y⟩ v1).setCell ⟨gs,who*5+2,Y⟩ v2).setCell ⟨gs,who*5+3,Y⟩ v3).setCell ⟨gs,who*5+4,Y⟩ v4
theorem Hz(h:Bk w gs 46 cs)(who:Nat)(v0 v1 v2 v3 v4:I):Bk (ni w gs who v0 v1 v2 v3 v4) gs 46 (rS cs who v0 v1 v2 v3 v4):=
 ((((h.stored _ _).stored _ _).stored _ _).stored _ _).stored _ _
theorem lF(h:Bk w gs 46 cs)(who:Nat)(v0 v1 v2 v3 v4:I):eB 46 w (ni w gs who v0 v1 v2 v3 v4):=
 ((((bX h _ _).trans (bX (h.stored _ _) _ _)).trans (bX ((h.stored _ _).stored _ _) _ _)).trans (bX (((h.stored _ _).stored _ _).stored _ _) _ _)).trans (bX ((((h.stored _ _).stored _ _).stored _ _).stored _ _) _ _)
theorem pE.set(h:pE w gs ss cs)(o:who<ss.length)(e0:v0=V H y.pos)(f:∃G c,v1= .slice G y.log.length c/\jD w 0 v1 y.log)(m:∃G c,v2= .slice G y.steps.length c/\aX w 0 v2 (jm y.steps))(L:bI w v3 y.gone)(J:v4=V H y.made):
  pE (ni w gs who v0 v1 v2 v3 v4) gs (ss.set who y) (rS cs who v0 v1 v2 v3 v4):=by
 have n:=h.size;have d:=(lF h.row who v0 v1 v2 v3 v4).r zD zD zD;refine⟨Hz h.row who v0 v1 v2 v3 v4,by simp[n],λk x a=>?_⟩;have K:who*5+4<cs.size:=M;by_cases e:k=who
 ·subst e;rw[List.getElem?_set_self o]at a;injection a with a;subst a;obtain⟨G,c,f,u⟩:=f;obtain⟨g,j,m,D⟩:=m;subst e0 f m J;refine⟨?_,⟨G,c,?_,jZ u d (.inl Z)⟩,⟨g,j,?_,jZ D d (.inr (.inl Z))⟩,⟨v3,?_,L.qO d⟩,?_⟩<;>simp[rS,Array.getElem?_setIfInBounds,n]<;>omega
 rw[List.getElem?_set_ne M]at a;obtain⟨v,⟨G,c,A,E⟩,⟨g,j,I,F⟩,⟨s,q,z⟩,C⟩:=(h.at_ k x a).qO d;have b:∀i,i<5->(rS cs who v0 v1 v2 v3 v4)[k*5+i]? =cs[k*5+i]?:=λi hi=>by
  simp only[rS];rw[Array.getElem?_setIfInBounds_ne M,Array.getElem?_setIfInBounds_ne M,Array.getElem?_setIfInBounds_ne M,Array.getElem?_setIfInBounds_ne M,Array.getElem?_setIfInBounds_ne M]
 exact⟨(b 0 M).trans v,⟨G,c,(b 1 M).trans A,E⟩,⟨g,j,(b 2 M).trans I,F⟩,⟨s,(b 3 M).trans q,z⟩,(b 4 M).trans C⟩
end
abbrev vE(l:Ly)(mv:I)(gs S:Nat)(ev cv:I):Array I:=#[V H l.c.aO,V H l.c.nodes,V H l.c.buckets,V H l.c.slots,V H l.c.tasks,V H l.c.cells,V H l.c.maps,V H l.c.stacks,V H l.c.chans,V H l.done,V H l.count,V H l.era,V H l.free,V H l.alive,V H l.owner,V H l.resv,V H l.deque,V H l.ring,V H l.task,V H l.cell,V H l.map,V H l.stack,V H l.chan,V H l.node,V H l.size,mv,af (J ⟨gs,0,Y⟩) S S,ev,cv,ah X,ah X]
theorem tab_lay(l:Ly)(mv:I)(gs S:Nat)(ev cv:I):∀(j:Nat) (v:I),(lyC l)[j]? =J v->(vE l mv gs S ev cv)[j]? =J v:=by
 have:vE l mv gs S ev cv=lyC l++#[mv,af (J ⟨gs,0,Y⟩) S S,ev,cv,ah X,ah X]:=Z;intro j v h;rw[this,Array.getElem?_append_left (a9.1 h).1];exact h
structure kj (w:W) (B gt gs:Nat) (l:Ly) (mv ev cv:I) (t:cY):Prop where
 bt:B<=gt
 bs:B<=gs
 tab:Bk w gt 42 (vE l mv gs t.aO.length ev cv)
 aO:∃cs,pE w gs t.aO cs
 mem:∃g c,mv=af (J ⟨g,0,Y⟩) t.m.length c/\aX w 0 mv t.m
 ev:w.ownsRow B 79 8 ev t.events.length (mP t.events)
 calls:w.ownsRow B 56 10 cv t.calls.length (cj t.calls)
def kn(w:W)(B gt:Nat)(l:Ly)(t:cY):Prop:=∃gs mv ev cv,kj w B gt gs l mv ev cv t
section
variable {w w':W} {B gt gs:Nat} {l:Ly} {mv ev cv:I} {t:cY}
theorem kj.aw(h:kj w B gt gs l mv ev cv t)(a:D w.heap.size w w'):kj w' B gt gs l mv ev cv t:=by
 obtain⟨g,c,e,ho⟩:=h.mem;obtain⟨cs,b⟩:=h.aO;exact⟨h.bt,h.bs,h.tab.aw a,⟨cs,b.kept (CC a) (a.block gs b.row.lt)⟩,⟨g,c,e,aY ho a⟩,aY h.ev a,aY h.calls a⟩
theorem kn.aw(h:kn w B gt l t)(a:D w.heap.size w w'):kn w' B gt l t:=by
 obtain⟨gs,mv,ev,cv,h⟩:=h;exact⟨gs,mv,ev,cv,h.aw a⟩
theorem kj.lay(h:kj w B gt gs l mv ev cv t):∀(j:Nat) (v:I),(lyC l)[j]? =J v->w.cell? ⟨gt,0+j,Y⟩=J v:=λj v a=>by
 rw[ea,h.tab.cell j];exact tab_lay l mv gs _ ev cv j v a
theorem kj.turned{cs':Array I}{b f:I}(h:kj w B gt gs l mv ev cv t)(a:eB 42 w w')(k:Bk w' gt 42 (vE l b gs t.aO.length d f)){t':cY}(j:t'.aO=t.aO)(m:∃g c,b=af (J ⟨g,0,Y⟩) t'.m.length c/\aX w 0 b t'.m)(n:w.ownsRow B 79 8 d t'.events.length (mP t'.events))(o:w.ownsRow B 56 10 f t'.calls.length (cj t'.calls)):kj w' B gt gs l b d f t':=by
 obtain⟨g,c,e,ho⟩:=m;obtain⟨cs,i⟩:=h.aO;refine⟨h.bt,h.bs,by rw[j];exact k,⟨cs,by rw[j];exact i.kept (a.r zD zD zD) (by rw[i.row];exact a _ _ _ _ i.row zD)⟩,⟨g,c,e,bY ho a zD⟩,bY n a zD,bY o a zD⟩
theorem kj.setMem(h:kj w B gt gs l mv ev cv t){c:Nat}{m:List Int}(ho:aX w 0 (af (J ⟨g,0,Y⟩) m.length c) m):kj (w.setCell ⟨gt,25,Y⟩ (af (J ⟨g,0,Y⟩) m.length c)) B gt gs l (af (J ⟨g,0,Y⟩) m.length c) ev cv { t with m:=m }:=
 h.turned (cs':=#[]) (bX h.tab _ _) (h.tab.stored 25 _) Z ⟨g,c,Z,ho⟩ h.ev h.calls
theorem kj.Mn(h:kj w B gt gs l mv ev cv t)(d:who<t.aO.length)(e0:v0=V H y.pos)(f:∃G c,v1= .slice G y.log.length c/\jD w 0 v1 y.log)(i:∃G c,v2= .slice G y.steps.length c/\aX w 0 v2 (jm y.steps))(j:bI w v3 y.gone)(m:v4=V H y.made):
  kj (ni w gs who v0 v1 v2 v3 v4) B gt gs l mv ev cv { t with aO:=t.aO.set who y }:=by
 obtain⟨cs,b⟩:=h.aO;have a:=lF b.row who v0 v1 v2 v3 v4;obtain⟨g,c,e,ho⟩:=h.mem;exact⟨h.bt,h.bs,by rw[List.length_set];exact h.tab.dy a zD,⟨_,b.set d e0 f i j m⟩,⟨g,c,e,bY ho a zD⟩,bY h.ev a zD,bY h.calls a zD⟩
theorem kj.aside{i:Nat}{c:Array I}(h:kj w B gt gs l mv ev cv t)(A:Bk w b ty c)(y:ty≠79)(n:ty≠56)(d:ty≠3)(m:ty≠75)(j:ty≠52)(f:gt≠b)(s:gs≠b)(u:I):kj (w.setCell ⟨b,i,Y⟩ u) B gt gs l mv ev cv t:=by
 obtain⟨g,q,v,z⟩:=h.mem;obtain⟨cs,o⟩:=h.aO;have a:=bX A i u;exact⟨h.bt,h.bs,(jL w ⟨b,i,Y⟩ u gt f).trans h.tab,⟨cs,o.kept (a.r m d j) (jL w ⟨b,i,Y⟩ u gs s)⟩,⟨g,q,v,bY z a (λe=>d e.symm)⟩,bY h.ev a (λe=>y e.symm),bY h.calls a (λe=>n e.symm)⟩
theorem kj.grownE(h:kj w B gt gs l mv ev cv t)(j:w.grownBy w' ev.ownBlock)(ho:w'.ownsRow B 79 8 d es.length (mP es)):kj (w'.setCell ⟨gt,27,Y⟩ d) B gt gs l mv d cv { t with events:=es }:=by
 have b:=cV h.ev j;obtain⟨g,c,e,m⟩:=h.mem;obtain⟨cs,f⟩:=h.aO;have i:=h.tab.dy b zD;have a:=bX i 27 d;refine⟨h.bt,h.bs,i.stored 27 _,⟨cs,f.kept ((b.r zD zD zD).trans (a.r zD zD zD)) ?_⟩,⟨g,c,e,bY (bY m b zD) a zD⟩,bY ho a zD,bY (bY h.calls b zD) a zD⟩;rw[f.row];exact a _ _ _ _ (b _ _ _ _ f.row zD) zD
theorem kj.grownC(h:kj w B gt gs l mv ev cv t)(j:w.grownBy w' cv.ownBlock){es:List cd}(ho:w'.ownsRow B 56 10 d es.length (cj es)):kj (w'.setCell ⟨gt,28,Y⟩ d) B gt gs l mv ev d { t with calls:=es }:=by
 have b:=cV h.calls j;obtain⟨g,c,e,m⟩:=h.mem;obtain⟨cs,f⟩:=h.aO;have i:=h.tab.dy b zD;have a:=bX i 28 d;refine⟨h.bt,h.bs,i.stored 28 _,⟨cs,f.kept ((b.r zD zD zD).trans (a.r zD zD zD)) ?_⟩,⟨g,c,e,bY (bY m b zD) a zD⟩,bY (bY h.ev b zD) a zD,bY ho a zD⟩;rw[f.row];exact a _ _ _ _ (b _ _ _ _ f.row zD) zD
end
structure jk (B:Nat) (w w':W):Prop where
 below:D B w w'
 kept:∀(g:Nat) (cs:Array I) (ty:bM) (fr:Nat × Nat),w.heap[g]? =J (ag cs ty fr)->(ty≠42/\ty≠46/\ty≠79/\ty≠56)->w'.heap[g]? =J (ag cs ty fr)
section
variable {w w':W} {B gt gs:Nat}
theorem jk.refl(B:Nat)(w:W):jk B w w:=⟨bS,λ_ _ _ _ h _=>h⟩
theorem jk.trans(h:jk B w w')(k:jk B w' w2):jk B w w2:=⟨h.below.trans k.below,λg cs b a c n=>k.kept g cs b a (h.kept g cs b a c n) n⟩
theorem jk.aT(b:D w.heap.size w w')(c:B<=w.heap.size):jk B w w':=⟨b.mono c,λg cs d e a _=>by rw[b.block g (a9.1 a).1];exact a⟩
theorem jk.rZ(f:D B w w')(h:eB a w w')(c:a=42\/a=46\/a=79\/a=56):jk B w w':=⟨f,λg cs d e b n=>h g cs d e b (by
 rcases c with rfl|rfl|rfl|rfl
 ·exact n.1
 ·exact n.2.1
 ·exact n.2.2.1
 exact n.2.2.2)⟩
theorem jk.aw{cs:Array I}(h:jk B w w')(k:Bk w g ty cs)(n:ty≠42/\ty≠46/\ty≠79/\ty≠56):Bk w' g ty cs:=h.kept g cs ty (0,0) k n
theorem jk.set(a:B<=b){cs:Array I}(k:Bk w b ty cs)(c:ty=42\/ty=46\/ty=79\/ty=56)(i:Nat)(u:I):jk B w (w.setCell ⟨b,i,Y⟩ u):=.rZ ((D.refl B w).setCell (p:=⟨b,i,Y⟩) a u) (bX k i u) c
end
def qU(w:W)(B:Nat)(A:Option Addr)(l:List Opr):Prop:=
 0<l.length->∃b o,A=J ⟨b,o,Y⟩/\b<B/\∀k a,l[k]? =J a->w.cell? ⟨b,o+k*4,Y⟩=J (V H a.kind)/\w.cell? ⟨b,o+k*4+1,Y⟩=J (V H a.obj)/\w.cell? ⟨b,o+k*4+2,Y⟩=J (V H a.a)/\w.cell? ⟨b,o+k*4+3,Y⟩=J (V H a.b)
theorem qU.below{w w':W}{B:Nat}{l:List Opr}(h:qU w B A l)(d:D B w w'):qU w' B A l:=by
 intro f;obtain⟨b,o,e,c,j⟩:=h f;refine⟨b,o,e,c,λk a m=>?_⟩;obtain⟨n,q,g,i⟩:=j k a m;exact⟨(d.cell (p:=⟨b,_,Y⟩) c).trans n,(d.cell (p:=⟨b,_,Y⟩) c).trans q,(d.cell (p:=⟨b,_,Y⟩) c).trans g,(d.cell (p:=⟨b,_,Y⟩) c).trans i⟩
theorem qU.more{w:W}{B a:Nat}{l:List Opr}(h:qU w B A l)(d:B<=a):qU w a A l:=by
 intro c;obtain⟨b,o,e,g,f⟩:=h c;exact⟨b,o,e,aZ g d,f⟩
def lj(w:W)(B:Nat)(A:Option Addr)(l:List (List Opr)):Prop:=
 0<l.length->∃b o,A=J ⟨b,o,Y⟩/\b<B/\∀k a,l[k]? =J a->∃d c,w.cell? ⟨b,o+k,Y⟩=J (.slice d a.length c)/\qU w B d a
theorem lj.below{w w':W}{B:Nat}{l:List (List Opr)}(h:lj w B A l)(f:D B w w'):lj w' B A l:=by
 intro g;obtain⟨b,o,e,d,j⟩:=h g;refine⟨b,o,e,d,λk a m=>?_⟩;obtain⟨i,c,n,q⟩:=j k a m;exact⟨i,c,(f.cell (p:=⟨b,_,Y⟩) d).trans n,q.below f⟩
theorem lj.more{w:W}{B f:Nat}{l:List (List Opr)}(h:lj w B A l)(d:B<=f):lj w f A l:=by
 intro g;obtain⟨b,o,e,i,m⟩:=h g;refine⟨b,o,e,aZ i d,λk a n=>?_⟩;obtain⟨j,c,q,s⟩:=m k a n;exact⟨j,c,q,s.more d⟩
def yF(w:W)(B:Nat)(A:Option Addr)(l:List Nat):Prop:=
 0<l.length->∃b o,A=J ⟨b,o,Y⟩/\b<B/\∀k t,l[k]? =J t->w.cell? ⟨b,o+k,Y⟩=J (.int .u8 (t:Nat))/\t<256
theorem yF.below{w w':W}{B:Nat}{l:List Nat}(h:yF w B A l)(f:D B w w'):yF w' B A l:=by
 intro d;obtain⟨b,o,e,c,g⟩:=h d;refine⟨b,o,e,c,λk a i=>?_⟩;obtain⟨j,m⟩:=g k a i;exact⟨(f.cell (p:=⟨b,_,Y⟩) c).trans j,m⟩
theorem yF.more{w:W}{B a:Nat}{l:List Nat}(h:yF w B A l)(d:B<=a):yF w a A l:=by
 intro c;obtain⟨b,o,e,g,f⟩:=h c;exact⟨b,o,e,aZ g d,f⟩
abbrev cI(A:Option Addr)(n c:Nat)(T:Option Addr)(m d a b e:Nat):Array I:=#[.slice A n c,.slice T m d,.int .u8 a,.int .u8 b,.int .u8 e]
end
section
open Go.ChangeShapes Go.WideShapes Go.ChangeAt Go.RowKit Go.Joins Go.Deep
section
variable {H:Type} {enc:bM × I->H} {W:World} {base b0:Nat} {spare:Nat->Bool} {held:Bool} {v:I} {d:DataW H} {p:List MemPlace}
theorem arr4{α:Type}{l:List α}{a b c d:α}(hl:l.length=4)(h0:l[0]? =J a)(h1:l[1]? =J b)(h2:l[2]? =J c)(h3:l[3]? =J d):l=[a,b,c,d]:=by
 match l,hl with
 | [x,y,z,u],_=>simp at h0 h1 h2 h3;simp[h0,h1,h2,h3]
theorem MY{fuel:Nat}{cs:List I}{x:DataW H × List MemPlace}(hl:cs.length=4)(h:DataW.trod enc ao W b0 spare held fuel 54 cs=J x):∃o:Opr,cs=[.int .i64 o.kind,.int .i64 o.obj,.int .i64 o.a,.int .i64 o.b]:=by
 obtain⟨k,h0,_⟩:=vb underlying54 zK zK h 0 _ Z underlying3;obtain⟨c,h1,_⟩:=vb underlying54 zK zK h 1 _ Z underlying3;obtain⟨o,h2,_⟩:=vb underlying54 zK zK h 2 _ Z underlying3;obtain⟨n,h3,_⟩:=vb underlying54 zK zK h 3 _ Z underlying3;exact⟨⟨k,c,o,n⟩,arr4 hl h0 h1 h2 h3⟩
theorem AL{α:Type} [Inhabited α] {n:Nat} {P:Nat->α->Prop} (h:∀k,k<n->∃a,P k a):∃l:List α,l.length=n/\∀k a,l[k]? =J a->P k a:=by
 have hex:∀k,∃a,k<n->P k a:=λk=>by
  by_cases hk:k<n
  ·obtain⟨a,ha⟩:=h k hk;exact⟨a,λ_=>ha⟩
  ·exact⟨default,λhh=>absurd hh hk⟩
 refine⟨(eF n).map λk=>Classical.choose (hex k),zS,λk a ha=>?_⟩;have hkn:k<n:=by
  have:=(aC.1 ha).1
  simpa using this
 have hspec:=Classical.choose_spec (hex k) hkn;have e:Classical.choose (hex k)=a:=by
  rw[List.getElem?_map,List.getElem?_range hkn]at ha
  simpa using ha
 rwa [e]at hspec
instance:Inhabited Opr:=⟨⟨0,0,0,0⟩⟩
theorem Co{fuel:Nat}{A:Option Addr}{n cap:Nat}{x:DataW H × List MemPlace}(hf:DataW.trod enc ao W b0 spare held fuel 47 [.slice A n cap]=J x):
  ∃l:List Opr,l.length=n/\qU W W.heap.size A l:=by
 obtain⟨_,hs⟩:=ti (sz:=4) underlying47 zK M hf;by_cases hn:0<n
 ·obtain⟨b,o,rfl,hb,hk⟩:=hs hn;obtain⟨l,hl,hP⟩:=AL (α:=Opr) (n:=n) (P:=λk op=>(W.cell? ⟨b,o+k*4,Y⟩=J (.int .i64 op.kind)/\W.cell? ⟨b,o+k*4+1,Y⟩=J (.int .i64 op.obj)/\W.cell? ⟨b,o+k*4+2,Y⟩=J (.int .i64 op.a)/\W.cell? ⟨b,o+k*4+3,Y⟩=J (.int .i64 op.b))/\True) (by
   intro k hkn;obtain⟨cs,m,y,hl,hc,hr⟩:=hk k hkn;obtain⟨op,rfl⟩:=MY hl hr;exact⟨op,⟨hc 0 M,hc 1 M,hc 2 M,hc 3 M⟩,trivial⟩)
  exact⟨l,hl,λ_=>⟨b,o,Z,hb,λk op NO=>(hP k op NO).1⟩⟩
 ·obtain rfl:n=0:=M;exact⟨[],Z,λh=>absurd h zS⟩
theorem yg{fuel:Nat}{A:Option Addr}{n cap:Nat}{x:DataW H × List MemPlace}(hf:DataW.trod enc ao W b0 spare held fuel 22 [.slice A n cap]=J x):
  ∃l:List (List Opr),l.length=n/\lj W W.heap.size A l:=by
 obtain⟨_,hs⟩:=ti (sz:=1) underlying22 zK M hf;by_cases hn:0<n
 ·obtain⟨b,o,rfl,hb,hk⟩:=hs hn;obtain⟨l,hl,hP⟩:=AL (α:=List Opr) (n:=n) (P:=λk ops=>(∃A' c,W.cell? ⟨b,o+k,Y⟩=J (.slice A' ops.length c)/\qU W W.heap.size A' ops)/\True) (by
   intro k hkn;obtain⟨cs,m,y,hl,hc,hr⟩:=hk k hkn;obtain⟨v,rfl⟩:∃v,cs=[v]:=by
    match cs,hl with
    | [v],_=>exact⟨v,Z⟩
   obtain⟨A',n',c',rfl⟩:=o9 underlying47 hr;obtain⟨ops,h1,h2⟩:=Co hr;subst h1;have:=hc 0 M;rw[Nat.mul_one,Nat.add_zero]at this;exact⟨ops,⟨A',c',this,h2⟩,trivial⟩)
  exact⟨l,hl,λ_=>⟨b,o,Z,hb,λk ops NO=>(hP k ops NO).1⟩⟩
 ·obtain rfl:n=0:=M;exact⟨[],Z,λh=>absurd h zS⟩
theorem BS{fuel:Nat}{A:Option Addr}{n cap:Nat}{x:DataW H × List MemPlace}(hf:DataW.trod enc ao W b0 spare held fuel 23 [.slice A n cap]=J x):
  ∃l:List Nat,l.length=n/\yF W W.heap.size A l:=by
 obtain⟨_,hs⟩:=ti (sz:=1) underlying23 zK M hf;by_cases hn:0<n
 ·obtain⟨b,o,rfl,hb,hk⟩:=hs hn;obtain⟨l,hl,hP⟩:=AL (α:=Nat) (n:=n) (P:=λk t=>W.cell? ⟨b,o+k,Y⟩=J (.int .u8 (t:Nat))/\t<256) (by
   intro k hkn;obtain⟨cs,m,y,hl,hc,hr⟩:=hk k hkn;obtain⟨v,rfl⟩:∃v,cs=[v]:=by
    match cs,hl with
    | [v],_=>exact⟨v,Z⟩
   obtain⟨z,hz,_,hw⟩:=DataW.trod_int underlying5 hr;simp at hz;subst hz;have hbz:=bounds_u8 hw;have:=hc 0 M;rw[Nat.mul_one,Nat.add_zero]at this;refine⟨z.toNat,?_,M⟩;rw[this];simp;omega)
  exact⟨l,hl,λ_=>⟨b,o,Z,hb,λk t ht=>hP k t ht⟩⟩
 ·obtain rfl:n=0:=M;exact⟨[],Z,λh=>absurd h zS⟩
theorem arr5{α:Type}{l:List α}(hl:l.length=5):∃a b c d e,l=[a,b,c,d,e]:=by
 match l,hl with
 | [a,b,c,d,e],_=>exact⟨a,b,c,d,e,Z⟩
theorem o_wplay(hv:I.okWide ao W .any base 26 v)(h:DataW.Trod enc ao W 0 (λ_=>O) O 26 v d p):
  ∃(X:Option Addr) (n c:Nat) (T:Option Addr) (m e s0 s1 s2:Nat) (want:List (List Opr)) (turns:List Nat),v= .agg (cI X n c T m e s0 s1 s2)/\want.length=n/\turns.length=m/\lj W W.heap.size X want/\yF W W.heap.size T turns/\s0<256/\s1<256/\s2<256:=by
 obtain⟨cs,rfl,rI⟩:=okWide_struct iU hv;obtain⟨fuel,hf⟩:=h;have hc:Tryz.prog.cellsOf 26=5:=zK;have hcW:Tryz.prog.cellsOf 22=1:=zK;have hcT:Tryz.prog.cellsOf 23=1:=zK;have hcS:Tryz.prog.cellsOf 24=3:=zK;have hcU:Tryz.prog.cellsOf 5=1:=zK;have LN:DataW.trod enc ao W 0 (λ_=>O) O fuel 26 cs.toList=J (d,p):=by simpa[I.cells] using hf
 obtain⟨a,b,c0,c1,c2,N5⟩:=arr5 (l:=cs.toList) (by simp[rI,hc]);rw[N5]at LN;obtain⟨xs,k,_,_,_,hxl,hg⟩:=DataW.trod_struct iU LN;have hx3:xs.length=3:=hxl;have g0:DataW.trod enc ao W 0 (λ_=>O) O k 22 (([a,b,c0,c1,c2].drop 0).take (Tryz.prog.cellsOf 22))=xs[0]?:=hg 0 _ Z;have g1:DataW.trod enc ao W 0 (λ_=>O) O k 23 (([a,b,c0,c1,c2].drop 1).take (Tryz.prog.cellsOf 23))=xs[1]?:=hg 1 _ Z;have g2:DataW.trod enc ao W 0 (λ_=>O) O k 24 (([a,b,c0,c1,c2].drop 2).take (Tryz.prog.cellsOf 24))=xs[2]?:=hg 2 _ Z;rw[hcW,aD M]at g0;rw[hcT,aD M]at g1;rw[hcS,aD M]at g2;simp only[List.drop_zero,List.drop_succ_cons,List.take_succ_cons,List.take_zero]at g0 g1 g2;obtain⟨X,n,c,rfl⟩:=o9 underlying22 g0;obtain⟨T,m,e,rfl⟩:=o9 underlying23 g1;obtain⟨want,a1,a2⟩:=yg g0;obtain⟨turns,b1,b2⟩:=BS g1;obtain⟨z0,h0,w0⟩:=Bn underlying24 underlying5 hcU Z g2 0 M;obtain⟨z1,h1,w1⟩:=Bn underlying24 underlying5 hcU Z g2 1 M;obtain⟨z2,h2,w2⟩:=Bn underlying24 underlying5 hcU Z g2 2 M;have q0:=bounds_u8 w0;have q1:=bounds_u8 w1;have q2:=bounds_u8 w2;simp at h0 h1 h2;subst h0 h1 h2;obtain⟨y0,rfl⟩:∃y:Nat,z0=(y:Int):=⟨z0.toNat,M⟩;obtain⟨y1,rfl⟩:∃y:Nat,z1=(y:Int):=⟨z1.toNat,M⟩;obtain⟨y2,rfl⟩:∃y:Nat,z2=(y:Int):=⟨z2.toNat,M⟩;refine⟨X,n,c,T,m,e,y0,y1,y2,want,turns,?_,a1,b1,a2,b2,M,M,M⟩;rw[<- Array.toArray_toList (xs:=cs),N5]
end
end
section
open Go.RowKit
attribute [local go_sem ↓] aQ aR
theorem lY(a:W)(b n c:Nat)(G:Option Addr)(L:List Acc)(cell v:Int)(w:W)(f:Bk w b 102 #[.slice G n c])(C:D a.heap.size a w)(y:w.ownsRow a.heap.size 67 4 (.slice G n c) n (bV L))(A:a.heap.size<=b)(U:n<=1000):
  Calls ao 80 #[aa H cell,aa H v,ptr b] w λe h=>e=ai (.tuple #[])/\∃s m,Bk h b 102 #[.slice s (n+1) m]/\h.ownsRow a.heap.size 67 4 (.slice s (n+1) m) (n+1) (bV (L++[⟨2,cell,0,v⟩]))/\D a.heap.size a h/\
   ∀g t cs,Bk w g t cs->t≠67->g≠b->Bk h g t cs:=by
 obtain⟨qb,M,B,z,F⟩:=info_parts pD;have q0:=f.cell 0;simp at q0;have T:=f.lt;have l:=W.ownsRow.alloc y (ag #[aa H 2,aa H cell,aa H 0,aa H v] 67);have q:a.heap.size<=(w.alloc (ag #[aa H 2,aa H cell,aa H 0,aa H v] 67)).heap.size:=by have:=f.lt;simp;omega
 have I:=f.alloc (ag #[aa H 2,aa H cell,aa H 0,aa H v] 67);have qa:=aA C (ag #[aa H 2,aa H cell,aa H 0,aa H v] 67);have V:=aj y;have qd:=aj f;go_enter func80,ntmps80;go_wp2_with (at_builtin;go_must (refine dI _ Z (.tmp 5) (.tmp 9) _ Z a.heap.size 67 qb _ 4 32 underlying102 M B z F Z zO (.slice G n c) n (bV L) Z l ⟨w.heap.size,0,Y⟩ 1 1 [aa H 2,aa H cell,aa H 0,aa H v] Z Z (pC w _) (by simp[aB]) (by simp only[sV];omega) zO q ?_;intro P Q o x _ _;obtain⟨i,j,rfl⟩:=bJ o;have u:=cV l x;have d:=I.dy u zD;have S:=d.free 0;have qc:=d.lt;have J:=d.cell 0;simp at J));have K:=d.stored 0 (.slice i (n+1) j);have O:=bY o (bX d 0 (.slice i (n+1) j)) zD;refine bodyPost_end (gT Z _ _ _) Z ⟨Z,i,j,K,by rw[dZ];exact O,bu (bO qa l x q (aq _)) A _,?_⟩;intro g t cs k N E;exact((k.alloc _).dy u N).other (p:=⟨b,0,Y⟩) E _
def jV(l:Ly)(m n:Int):List Acc:=[⟨2,nodeAt l n 0,0,0⟩,⟨2,nodeAt l n 1,0,0⟩,⟨2,nodeAt l n 2,0,0⟩,⟨2,nodeAt l n 6,0,1⟩,⟨2,ft l m 0,0,1⟩,⟨2,ft l m 1,0,0⟩,⟨2,dM l m 0,0,dL n X 0⟩]
theorem Ke(l:Ly)(m n:Int)(w:W)(f:eu l)(S:0<=n/\n<=1000)(Q:0<=m/\m<=8):U ao 68 #[lyV l,aa ab m,aa ab n] w (sU (jV l m n) w):=by
 have b:=(Bk.made w 34 (lyC l)).alloc (ag #[af Y 0 0] 102);have c:=Bk.new (w.alloc (ag (lyC l) 34)) (g:=w.heap.size+1) zS 102 #[af Y 0 0];have d:=aA (bA w (ag (lyC l) 34)) (ag #[af Y 0 0] 102);have h:((w.alloc (ag (lyC l) 34)).alloc (ag #[af Y 0 0] 102)).ownsRow w.heap.size 67 4 (af Y 0 0) 0 (bV []):=bW _ _ _ _;have F:=aj f;have A:=aj (al S Q);go_enter func68,ntmps68;go_upto_region 3 with fail;generalize (w.alloc (ag (lyC l) 34)).alloc (ag #[af Y 0 0] 102)=w1 at *;obtain⟨u,E⟩:=nM (w.heap.size+1);rw[E]at c ⊢;have i:=aj E;go_wp2_with (refine aM Z 34 (.tmp 3) Z w.heap.size Z 34 (lyC l) (0,0) _ b aK Z zK ?_);refine(dE l n 0 _ F.out (by have:=A.out;omega)).mono ?_;rintro e x ⟨rfl,a⟩;obtain⟨t,K⟩:=nM (nodeAt l n 0);rw[K];replace b:=b.aw a;replace c:=c.aw a;replace h:=aY h a;replace d:=aE d a;go_wp2_with fail;refine(lY w u 0 _ _ [] t 0 _ c d h (by have:=i.out;omega) zD).mono ?_;rintro e s ⟨rfl,V,cc0,k,q,j,o⟩;replace b:=o _ _ _ b zD (by have:=i.out;omega);have c:=k;have h:=q;have d:=j;go_wp2_with (refine aM rfl 34 (.tmp 3) rfl w.heap.size rfl 34 (lyC l) (0,0) _ b aK rfl zK ?_);refine(dE l n 1 _ F.out (by have:=A.out;omega)).mono ?_;rintro e x ⟨rfl,a⟩;obtain⟨v,qa⟩:=nM (nodeAt l n 1);rw[qa];replace b:=b.aw a;replace c:=c.aw a;replace h:=aY h a;replace d:=aE d a;go_wp2_with fail;refine(lY w u 1 _ _ ([]++[⟨2,t,0,0⟩]) v 0 _ c d h (by have:=i.out;omega) zD).mono ?_;rintro e s ⟨rfl,qg,qc,k,q,j,o⟩;replace b:=o _ _ _ b zD (by have:=i.out;omega);have c:=k;have h:=q;have d:=j;go_wp2_with (refine aM rfl 34 (.tmp 3) rfl w.heap.size rfl 34 (lyC l) (0,0) _ b aK rfl zK ?_);refine(dE l n 2 _ F.out (by have:=A.out;omega)).mono ?_;rintro e x ⟨rfl,a⟩;obtain⟨y,C⟩:=nM (nodeAt l n 2);rw[C];replace b:=b.aw a;replace c:=c.aw a;replace h:=aY h a;replace d:=aE d a;go_wp2_with fail;refine(lY w u 2 _ _ (([]++[⟨2,t,0,0⟩])++[⟨2,v,0,0⟩]) y 0 _ c d h (by have:=i.out;omega) zD).mono ?_;rintro e s ⟨rfl,qf,qe,k,q,j,o⟩;replace b:=o _ _ _ b zD (by have:=i.out;omega);have c:=k;have h:=q;have d:=j;go_wp2_with (refine aM rfl 34 (.tmp 3) rfl w.heap.size rfl 34 (lyC l) (0,0) _ b aK rfl zK ?_);refine(dE l n 6 _ F.out (by have:=A.out;omega)).mono ?_;rintro e x ⟨rfl,a⟩;obtain⟨z,H⟩:=nM (nodeAt l n 6);rw[H];replace b:=b.aw a;replace c:=c.aw a;replace h:=aY h a;replace d:=aE d a;go_wp2_with fail;refine(lY w u 3 _ _ ((([]++[⟨2,t,0,0⟩])++[⟨2,v,0,0⟩])++[⟨2,y,0,0⟩]) z 1 _ c d h (by have:=i.out;omega) zD).mono ?_;rintro e s ⟨rfl,T,cc3,k,q,j,o⟩;replace b:=o _ _ _ b zD (by have:=i.out;omega);have c:=k;have h:=q;have d:=j;go_wp2_with (refine aM rfl 34 (.tmp 3) rfl w.heap.size rfl 34 (lyC l) (0,0) _ b aK rfl zK ?_);refine(pU l m 0 _ F.out).mono ?_;rintro e x ⟨rfl,a⟩;obtain⟨B,L⟩:=nM (ft l m 0);rw[L];replace b:=b.aw a;replace c:=c.aw a;replace h:=aY h a;replace d:=aE d a;go_wp2_with fail;refine(lY w u 4 _ _ (((([]++[⟨2,t,0,0⟩])++[⟨2,v,0,0⟩])++[⟨2,y,0,0⟩])++[⟨2,z,0,1⟩]) B 1 _ c d h (by have:=i.out;omega) zD).mono ?_;rintro e s ⟨rfl,G4,qd,k,q,j,o⟩;replace b:=o _ _ _ b zD (by have:=i.out;omega);have c:=k;have h:=q;have d:=j;go_wp2_with (refine aM rfl 34 (.tmp 3) rfl w.heap.size rfl 34 (lyC l) (0,0) _ b aK rfl zK ?_);refine(pU l m 1 _ F.out).mono ?_;rintro e x ⟨rfl,a⟩;obtain⟨G,I⟩:=nM (ft l m 1);rw[I];replace b:=b.aw a;replace c:=c.aw a;replace h:=aY h a;replace d:=aE d a;go_wp2_with fail;refine(lY w u 5 _ _ ((((([]++[⟨2,t,0,0⟩])++[⟨2,v,0,0⟩])++[⟨2,y,0,0⟩])++[⟨2,z,0,1⟩])++[⟨2,B,0,1⟩]) G 0 _ c d h (by have:=i.out;omega) zD).mono ?_;rintro e s ⟨rfl,G5,cc5,k,q,j,o⟩;replace b:=o _ _ _ b zD (by have:=i.out;omega);have c:=k;have h:=q;have d:=j;go_wp2_with (refine aM rfl 34 (.tmp 3) rfl w.heap.size rfl 34 (lyC l) (0,0) _ b aK rfl zK ?_);refine(ox l m 0 _ F.out).mono ?_;rintro e x ⟨rfl,a⟩;obtain⟨O,D⟩:=nM (dM l m 0);rw[D];replace b:=b.aw a;replace c:=c.aw a;replace h:=aY h a;replace d:=aE d a;go_wp2_with fail;refine(gk n X 0 _).mono ?_;rintro e w3 ⟨rfl,a⟩;replace b:=b.aw a;replace c:=c.aw a;replace h:=aY h a;replace d:=aE d a;go_wp2_with fail;refine(lY w u 6 _ _ (((((([]++[⟨2,t,0,0⟩])++[⟨2,v,0,0⟩])++[⟨2,y,0,0⟩])++[⟨2,z,0,1⟩])++[⟨2,B,0,1⟩])++[⟨2,G,0,0⟩]) O (dL n X 0) _ c d h (by have:=i.out;omega) zD).mono ?_;rintro e s ⟨rfl,J,qb,k,q,j,o⟩;replace b:=o _ _ _ b zD (by have:=i.out;omega);have c:=k;have h:=q;have d:=j;have P:jP s s.heap.size J (jV l m n):=by
  subst K qa C H L I D;exact pS (n:=7) h Z
 have N:=c.cell 0;have ll:=c.lt;simp at N;go_wp2_with fail;go_ret;exact⟨J,qb,Z,P,d⟩
def om(l:Ly)(n:Int)(k:Nat):List Acc:=(eF k).map λ(i:Nat)=>⟨2,nodeAt l n i,0,0⟩
theorem CZ(l:Ly)(n:Int)(k:Nat):om l n (k+1)=om l n k++[⟨2,nodeAt l n (k:Nat),0,0⟩]:=by simp[om,List.range_succ]
def mj(l:Ly)(c n:Int):List Acc:=om l n 6++[⟨2,et l c,0,dL n X 0⟩,⟨2,eN l c,0,dL n X 0⟩]
def GiRel(w:W)(l:Ly)(n:Int)(b a:I)(wr:W):Prop:=
 ∃k:Nat,k<=6/\a=V H (k:Nat)/\D w.heap.size w wr/\Bk wr w.heap.size 34 (lyC l)/\wr.ownsRow w.heap.size 67 4 b k (bV (om l n k))
def giT:Nat->Nat|3=>38|5=>40|8=>43|10=>45|_=>46
def giP:Nat->List Nat|5=>[3]|10=>[8]|11=>[5,10]|_=>[]
def giR(l:Ly)(c a:Int)(i:Nat)(val:Nat->Option I)(v:I)(w:W):Prop:=match i with
 | 3=>v=V H (et l c)
 | 5=>v= .agg #[V H 2,V H (et l c),V H 0,V H a]
 | 8=>v=V H (eN l c)
 | 10=>v= .agg #[V H 2,V H (eN l c),V H 0,V H a]
 | 11=>∃g,v=af (J ⟨g,0,Y⟩) 2 2/\Bk w g 67 #[V H 2,V H (et l c),V H 0,V H a,V H 2,V H (eN l c),V H 0,V H a]
 | _=>True
theorem Od{l:Ly}{c b:Int}(i:Nat)(val d:Nat->Option I)(v:I)(a w2:W)(_:∀j u,val j=J u->d j=J u)(e:D a.heap.size a w2)(h:giR l c b i val v a):giR l c b i d v w2:=by
 unfold giR at h ⊢;split at h<;>first|exact h|(obtain⟨g,f,k⟩:=h;exact⟨g,f,k.aw e⟩)
theorem K0(l:Ly)(c n:Int)(w:World)(f:eu l)(hn:0<=n/\n<=1000)(X:0<=et l c)(h1:0<=nodeAt l n 0):Calls ao 69 #[lyV l,V H c,V H n] w (sU (mj l c n) w):=by
 have t:=Bk.made w 34 (lyC l);have B:=bA w (ag (lyC l) 34);obtain⟨i0,yx,sf,tP,sW⟩:=info_parts pD;have F:=aj f;have qf:=aj hn;clear f hn;go_enter func69,ntmps69;go_wp2_with (refine aM Z 34 (.tmp 3) Z w.heap.size Z 34 (lyC l) (0,0) _ t aK Z zK ?_);generalize w.alloc (ag (lyC l) 34)=w1 at *;refine(sx l c _ F.out).mono ?_;rintro e y ⟨rfl,a⟩;obtain⟨d0,hd0⟩:=nM (et l c);rw[hd0]at X ⊢;have g0:decide (d0<0)=false:=zP;replace t:=t.aw a;replace B:=aE B a;clear a;go_wp2_with (refine split.fZ rfl 34 (.tmp 3) rfl w.heap.size rfl 34 (lyC l) (0,0) _ t aK rfl zK ?_);refine(dE l n 0 _ F.out (by have:=qf.out;omega)).mono ?_;rintro e w3 ⟨rfl,a⟩;obtain⟨d1,CS⟩:=nM (nodeAt l n 0);rw[CS]at h1 ⊢;have g1:decide (d1<0)=false:=zP;replace t:=t.aw a;replace B:=aE B a;clear a;go_wp2_with fail;go_loopw [7,20] (λv7 qc wr=>GiRel w l n v7 qc wr) (λ_ qc _=>6-(intOf qc).toNat)
 case atStart=>exact⟨0,M,Z,B,t,bW _ _ _ _⟩
 obtain⟨k,hk,rfl,x,d,m⟩:=hrel;by_cases fH:k<6
 ·have g2:decide ((k:Int)<6)=true:=zP;have HO:=aj m;clear m g0 g1;go_wp2_with (refine aM Z 34 (.tmp 3) Z w.heap.size Z 34 (lyC l) (0,0) _ d aK Z zK ?_);refine(dE l n k _ F.out (by have:=qf.out;omega)).mono ?_;rintro e C ⟨rfl,a⟩;obtain⟨qb,hd7⟩:=nM (nodeAt l n (k:Nat));rw[hd7];have k2:=(d.aw a).alloc (ag #[V H 2,V H qb,V H 0,V H 0] 67);have z:=World.ownsRow.alloc (aY HO.out a) (ag #[V H 2,V H qb,V H 0,V H 0] 67);have A4:=aE x a;have tT:=aA A4 (ag #[V H 2,V H qb,V H 0,V H 0] 67);clear a x;go_wp2_with (at_builtin;go_must (refine dI _ rfl (.tmp 23) (.tmp 29) _ rfl w.heap.size 67 i0 _ 4 32 underlying102 yx sf tP sW rfl M u7 k (bV (om l n k)) rfl z ⟨C.heap.size,0,Y⟩ 1 1 [V H 2,V H qb,V H 0,V H 0] rfl rfl (pC C _) (by simp[aB]) (by simp only[sV];omega) M (by simp;have:=A4.size;omega) ?_;intro v9 w5 hrow4 hgrow4 _ _));have T:=cV z hgrow4;refine⟨⟨k+1,M,by go_num,bO tT z hgrow4 tT.size (aq _),k2.dy T zD,?_⟩,by simp[intOf];omega⟩;rw[CZ,dZ,hd7];exact hrow4
 have g2:decide ((k:Int)<6)=false:=zP;obtain rfl:k=6:=M;obtain⟨G,Q,rfl⟩:=bJ m;clear hd0 CS X h1 g0 g1;obtain⟨inf,BD⟩:=Dx;go_wp2_with fail;refine(gk n false 0 _).mono ?_;rintro e C ⟨rfl,a⟩;obtain⟨D,hpk⟩:=nM (dL n false 0);rw[hpk];replace d:=d.aw a;replace m:=aY m a;replace x:=aE x a;clear a t B g2;go_upto_region 10 with fail;refine aH (S:=λg=>Bk g w.heap.size 34 (lyC l)) (E:=λ_=>false) zK ?_;replace d:=d.drew;replace x:=x.drew;replace m:C.drew.ownsRow w.heap.size 67 4 (.slice G 6 Q) 6 (bV (om l n 6)):=m;generalize C.drew=w5 at *;refine cO (i:=0) (oi:=_) (v:=.slice G 6 Q) rfl zK zK zK zK (λ_ _ _ h=>h) (jI ⟨by rfl,?_⟩) d ?_
 ·intro g q;(try simp only[au,ar,an]);go_simp
 (try simp only[au,ar,an,Act.put,ak,ay,az]);refine cO (i:=1) (oi:=_) (v:=.agg (lyC l)) Z zK zK zK zK (λ_ _ _ h=>h) (jI ⟨by rfl,?_⟩) d ?_
 ·intro g q;(try simp only[au,ar,an]);simp only[nO,Instr.loadAt,uS,cD,dF,bC];rw[show (Act.eval _ (Operand.tmp 3))=I.pointer (J ⟨w.heap.size,0,Y⟩)from Z];simp only[Instr.loadAt,uS,cD,dF,bC,a7 g w.heap.size 34 34 (lyC l) (0,0) _ q aK Z zK]
 (try simp only[au,ar,an,Act.put,ak,ay,az]);refine cO (i:=2) (oi:=_) (v:=V H c) Z zK zK zK zK (λ_ _ _ h=>h) (jI ⟨by rfl,?_⟩) d ?_
 ·intro g q;(try simp only[au,ar,an]);go_simp
 (try simp only[au,ar,an,Act.put,ak,ay,az]);refine cO (i:=4) (oi:=_) (v:=V H D) Z zK zK zK zK (λ_ _ _ h=>h) (jI ⟨by rfl,?_⟩) d ?_
 ·intro g q;(try simp only[au,ar,an]);go_simp
 (try simp only[au,ar,an,Act.put,ak,ay,az]);refine cO (i:=6) (oi:=_) (v:=.agg (lyC l)) Z zK zK zK zK (λ_ _ _ h=>h) (jI ⟨by rfl,?_⟩) d ?_
 ·intro g q;(try simp only[au,ar,an]);simp only[nO,Instr.loadAt,uS,cD,dF,bC];rw[show (Act.eval _ (Operand.tmp 3))=I.pointer (J ⟨w.heap.size,0,Y⟩)from Z];simp only[Instr.loadAt,uS,cD,dF,bC,a7 g w.heap.size 34 34 (lyC l) (0,0) _ q aK Z zK]
 (try simp only[au,ar,an,Act.put,ak,ay,az]);refine cO (i:=7) (oi:=_) (v:=V H c) Z zK zK zK zK (λ_ _ _ h=>h) (jI ⟨by rfl,?_⟩) d ?_
 ·intro g q;(try simp only[au,ar,an]);go_simp
 (try simp only[au,ar,an,Act.put,ak,ay,az]);refine cO (i:=9) (oi:=_) (v:=V H D) Z zK zK zK zK (λ_ _ _ h=>h) (jI ⟨by rfl,?_⟩) d ?_
 ·intro g q;(try simp only[au,ar,an]);go_simp
 (try simp only[au,ar,an,Act.put,ak,ay,az]);refine eh (U:=[3,5,8,10,11]) (tmp:=giT) (pre:=giP) (R:=giR l c D) zK (λ_ _=>Z) (λy h=>d.aw h) Od (λi hi=>?_) 2 (λqa w7 A O=>?_)
 ·simp only[aL,be,or_false]at hi;rcases hi with rfl|rfl|rfl|rfl|rfl
  ·refine⟨_,Z,λqa y K a s b=>?_⟩;simp only[giP,ba]at b ⊢;go_simp;refine(sx l c y F.out).mono ?_;rintro e w8 ⟨rfl,qe⟩;exact b _ _ rfl qe
  ·refine⟨_,Z,λqa y K a s b=>?_⟩;obtain⟨v,e,rfl⟩:=s 3 (by simp[giP]);simp only[giP,ba,e,giT]at b ⊢;go_simp;exact b _ _ Z bS
  ·refine⟨_,Z,λqa y K a s b=>?_⟩;simp only[giP,ba]at b ⊢;go_simp;refine(BZ l c y F.out).mono ?_;rintro e w8 ⟨rfl,qe⟩;exact b _ _ rfl qe
  ·refine⟨_,Z,λqa y K a s b=>?_⟩;obtain⟨v,e,rfl⟩:=s 8 (by simp[giP]);simp only[giP,ba,e,giT]at b ⊢;go_simp;exact b _ _ Z bS
  refine⟨_,Z,λqa y K a s b=>?_⟩;obtain⟨v,e,rfl⟩:=s 5 (by simp[giP]);obtain⟨v,e',rfl⟩:=s 10 (by simp[giP]);simp only[giP,ba,e,e',giT]at b ⊢;go_simp;exact b _ _ ⟨_,Z,Bk.made _ _ _⟩ (aA bS _)
 obtain⟨v3,e3,rfl⟩:=A 3 zS;obtain⟨v5,W,rfl⟩:=A 5 zS;obtain⟨v8,e8,rfl⟩:=A 8 zS;obtain⟨v10,uN,rfl⟩:=A 10 zS;obtain⟨v11,JD,P,rfl,ha⟩:=A 11 zS;have CL:Src w7 w7.heap.size 4 (J ⟨P,0,Y⟩) 2 2 [V H 2,V H (et l c),V H 0,V H D,V H 2,V H (eN l c),V H 0,V H D]:=
  ⟨Z,.inr ⟨P,0,Z,ha.lt,λj u hu=>by rw[ea,ha.cell j];simpa using hu⟩⟩
 replace d:=d.aw O;have z:=aY m O;have N:=aE x O;simp only[giT,ba,dj,e3,W,e8,uN,JD,cZ,if_true];clear A e3 W e8 uN JD m x;refine eG (i:=12) (o:=_) zK Z (λK b=>?_);rw[if_pos (by rfl)];refine dX BD (.tmp 35) (.tmp 46) Z w.heap.size (.slice G 6 Q) 6 (bV (om l n 6)) Z z (J ⟨P,0,Y⟩) 2 2 _ Z CL (by simp[aB]) M M N.size (λv9 w6 pq qg=>?_);have hbf:=bO N z qg N.size (aq _);have T:=cV z qg;have k6:=d.dy T zD;refine b.out _ _ (λ_=>k6) ?_;clear b K;obtain⟨L,qd,rfl⟩:=bJ pq;refine cO (i:=13) (oi:=_) (v:=.slice L (6+2) qd) Z zK zK zK zK (λ_ _ _ h=>h) (jI ⟨by rfl,?_⟩) k6 ?_
 ·intro g q;(try simp only[au,ar,an]);go_simp
 (try simp only[au,ar,an,Act.put,ak,ay,az]);refine aG zK ?_ _;have sX:jP w6 w6.heap.size L (mj l c n):=by
  refine pS (base:=w.heap.size) (cap:=qd) (n:=8) ?_ Z;unfold mj;rw[dZ,hpk];exact pq
 go_wp2;go_ret;exact⟨L,qd,Z,sX,hbf⟩
theorem OM(d:Nat)(A:Option Addr)(c:Nat)(zs:List Int)(n:Nat)(k:Int)(w:W)(g:Bk w d 37 #[.slice A n c])(s:zs.length=n)(h:eT w w.heap.size A zs)(l:0<=k)(u:k<n):
  U ao 29 #[V H k,ptr d] w (gy (zs.getD k.toNat 0) w):=by
 obtain⟨j,rfl⟩:∃j:Nat,k=j:=⟨k.toNat,M⟩;have g0:decide ((j:Int)<0)=X:=zS;have v:decide ((n:Int)<=j)=X:=zP;obtain⟨x,a⟩:∃x,zs[j]? =J x:=⟨_,aD M⟩;have e:zs.getD (j:Int).toNat 0=x:=by simp[a]
 rw[e];obtain⟨b,o,f,m,i⟩:=h M;have q:=i j x a;subst f;have t:(j:Int)<n:=M;have q0:=g.cell 0;simp at q0;go_enter func29,ntmps29;go_wp2;go_ret;exact⟨Z,bS⟩
def xu(l:Ly)(m:List Int):Int:=m.getD l.free.toNat 0
def AM(l:Ly)(m:List Int)(a:Int):Int:=m.getD (nodeAt l a 7).toNat 0
def kV(k:Int->Int):List Int->Prop
 | []=>True
 | a :: r=>k a=r.headD 0/\kV k r
def toldOf(N:Nat)(L:List Int):Array I:=((eF (N+1)).map λ(a:Nat)=>I.bool (decide ((a:Int)∈L))).toArray
theorem kV.drop{f:Int->Int}:∀ {L:List Int},kV f L->∀k,kV f (L.drop k)
 | _,h,0=>h
 | [],_,_+1=>trivial
 | _ :: _,h,k+1=>kV.drop h.2 k
def lenOf:I->Nat
 | .slice _ n _=>n
 | _=>0
theorem LZ(N:Nat)(L:List Int)(a:Nat)(h:a<=N):(toldOf N L).setIfInBounds a (ah O)=toldOf N (L++[(a:Int)]):=by
 apply Array.ext
 ·simp[toldOf]
 intro i b c;simp[toldOf];by_cases e:a=i
 ·subst e;simp
 have:¬((i:Int)=a):=M;simp[e,this]
theorem lN{w:W}(v:I):∀(j:Nat) (u:I),[v][j]? =J u->(w.alloc (ag #[v] 3)).cell? ((⟨w.heap.size,0,Y⟩:Addr).add j)=J u:=by
 intro j u a;rw[gZ,ea,(Bk.made w 3 #[v]).cell j]
 simpa using a
def LsRel(w:W)(a d b N:Nat)(l:Ly)(c:Array I)(L:List Int)(f e:I)(wr:W):Prop:=
 ∃k:Nat,k<=L.length/\e=V H ((L.drop k).headD 0)/\D w.heap.size w wr/\Bk wr a 34 (lyC l)/\Bk wr d 37 c/\Bk wr b 4 (toldOf N (L.take k))/\aX wr w.heap.size f (L.take k)
theorem Lp:(Tryz.prog.info? 4).map (λi=>(i.zero,i.size,i.bytes))=J (J (ah X),1,1):=zK
theorem vR(w:W)(N:Nat)(h:N<=1000000):(Instr.makeSlice 85 (V H N) (V H N)).run ao w= .ok (af (J ⟨w.heap.size,0,Y⟩) N N) (w.alloc (ag (madeCells #[ah X] (N*1)) 4)):=nV underlying85 Lp w N h M
theorem L1(N:Nat):madeCells #[I.bool X] ((N+1)*1)=toldOf N []:=by
 apply Array.ext
 ·simp[toldOf,madeCells]
 intro i a b;simp[toldOf,madeCells,Nat.mod_one]
theorem Nm(l:Ly)(A:Option Addr)(c n:Nat)(zs:List Int)(L:List Int)(w:W)(f:eu l)(w0:1<=l.c.nodes/\l.c.nodes<=40)(h:eT w w.heap.size A zs)(hn:zs.length=n)(hfr:0<=l.free/\l.free<n)(Q:∀a,1<=a/\a<=l.c.nodes->0<=nodeAt l a 7/\nodeAt l a 7<n)(ry:idxOf (xu l zs)=L.headD 0)(S:kV (AM l zs) L)(R:∀a∈L,1<=a/\a<=l.c.nodes)(M:L.Nodup)(CY:L.length<=1000):
  U ao 12 #[lyV l,.agg #[.slice A n c]] w λe w'=>∃B d,e=ai (.slice B L.length d)/\aX w' w.heap.size (.slice B L.length d) L/\D w.heap.size w w':=by
 have i:=(Bk.made w 34 (lyC l)).alloc (ag #[.slice A n c] 37);have m:=Bk.new (w.alloc (ag (lyC l) 34)) (g:=w.heap.size+1) zS 37 #[.slice A n c];have o:=aA (bA w (ag (lyC l) 34)) (ag #[.slice A n c] 37);have F:=aj f;have z:=aj (al h hn);have HP:=aj (al Q (al ry (al S (al R M))));have hmax:∀(w:W) (ts:Array bM) (t:bM),(Builtin.max_ ts t #[V H l.c.nodes,V H 0]).run ao w= .ok (V H l.c.nodes) w:=λw ts t=>by
  rw[run_max_int2];split<;>first|rfl|(congr 2;omega)
 have HW0:=aj w0;go_enter func12,ntmps12;go_upto_region 2 with fail;generalize (w.alloc (ag (lyC l) 34)).alloc (ag #[.slice A n c] 37)=qb at *;obtain⟨N,hN⟩:∃N:Nat,l.c.nodes=N:=⟨l.c.nodes.toNat,by have:=HW0.out;omega⟩;have hN6:1<=N/\N<=40:=by have:=HW0.out;omega
 have v:=i.cell 1;have q12:=i.cell 12;simp at v q12;rw[hN]at v hmax;have z0:=i.lt;have zM:=m.lt;have qi:=aj hN;go_wp2_with (refine oL Z _ _ Z (N+1) _ Z Z (vR _ (N+1) zO) ?_);have u:=Bk.made qb 4 (madeCells #[ah X] (N+1));have e0:=L1 N;rw[Nat.mul_one]at e0;rw[e0]at u;try rw[e0]
 replace i:=i.alloc (ag (toldOf N []) 4);replace m:=m.alloc (ag (toldOf N []) 4);replace o:=aA o (ag (toldOf N []) 4);generalize qb.alloc (ag (toldOf N []) 4)=w2 at *;have KV:w.heap.size<=qb.heap.size:=zO;generalize qb.heap.size=q at *;have BI:Hid (w.heap.size<=q):=aj KV;refine(OM (w.heap.size+1) A c zs n l.free _ m z.out.2 (by have:=z.out.1.below o;exact this.more o.size) hfr.1 hfr.2).mono ?_;rintro e w3 ⟨rfl,b⟩;rw[show zs.getD l.free.toNat 0=xu l zs from rfl];replace i:=i.aw b;replace m:=m.aw b;replace u:=u.aw b;replace o:=aE o b;obtain⟨E,N1⟩:=nM (xu l zs);rw[N1];go_wp2_with fail;refine(gL E _).mono ?_;rintro e w4 ⟨rfl,b⟩;replace i:=i.aw b;replace m:=m.aw b;replace u:=u.aw b;replace o:=aE o b;have hx:E%65536=L.headD 0:=by rw[<- N1];exact HP.out.2.1
 rw[hx];generalize (E / 65536%2==1)=z1;generalize E / 131072%268435456=z2;obtain⟨hd,zR⟩:=nM (L.headD 0);rw[zR];have HHD:=aj zR;have KW:∀w:W,(Instr.field 81 (.agg #[V H hd,.bool z1,V H z2]) 0).run ao w= .ok (V H hd) w:=λw=>by kernel_rfl
 go_wp2_with fail;go_loopw [7,8] (λP v8 wr=>LsRel w w.heap.size (w.heap.size+1) q N l #[.slice A n c] L P v8 wr) (λP _ _=>L.length-lenOf P)
 case atStart=>exact⟨0,aN _,by rw[<- HHD.out];rfl,o,i,m,u,bW _ _ _ _⟩
 obtain⟨k,hk,rfl,b,I,uL,s,qa⟩:=hrel;obtain⟨G,qf,rfl⟩:=bJ qa;have v:=I.cell 1;simp at v;rw[qi.out]at v;by_cases fH:k<L.length;rotate_left
 ·have hkL:k=L.length:=zO;subst hkL;have e0:(L.drop L.length).headD 0=0:=zS;rw[e0,nP];rw[nP]at qa s;have HO:=aj qa;go_wp2;go_ret;exact⟨G,qf,Z,HO.out,b⟩
 obtain⟨a,y⟩:∃a,L[k]? =some a:=⟨_,aD fH⟩;obtain⟨Q,ry,S,R,M⟩:=HP.out;have CS:L.drop k=a :: L.drop (k+1):=sB y;have har:=R a (aU y);have CO:AM l zs a=(L.drop (k+1)).headD 0:=by
  have:kV (AM l zs) (L.drop k):=S.drop k;rw[CS]at this;exact this.1
 have NQ:¬a∈L.take k:=by
  intro hm;obtain⟨j,qe⟩:=List.getElem?_of_mem hm;have hjl:=(aC.1 qe).1;rw[dg]at hjl;rw[List.getElem?_take_of_lt zO]at qe;have:=(List.getElem?_inj zO M).1 (qe.trans y.symm);omega
 obtain⟨x,rfl⟩:∃x:Nat,a=x:=⟨a.toNat,zO⟩;have hxN:1<=x/\x<=N:=by have:=qi.out;omega
 have xm:(L.drop k).headD 0=x:=by rw[CS];rfl
 have J:=Q x har;have sh:L.take (k+1)=L.take k++[(x:Int)]:=by rw[qy,y];rfl
 have q6:wr.cell? ⟨q,x,Y⟩=some (ah X):=by
  rw[s.cell x];have:x<N+1:=zO;simp[toldOf,NQ,this]
 have f6:=s.free x;have l6:=s.lt;rw[xm];have kB2:=s.stored x (ah O);rw[LZ N (L.take k) x hxN.2,<- sh]at kB2;have ne1:=bk_ne I s zD;have ne2:=bk_ne uL s zD;have k2:=I.other (p:=⟨q,x,Y⟩) ne1 (ah O);have kM2:=uL.other (p:=⟨q,x,Y⟩) ne2 (ah O);have C:aX (wr.setCell ⟨q,x,Y⟩ (ah O)) w.heap.size (.slice G (L.take k).length qf) (L.take k):=bY qa (bX s x (ah O)) zD;have qh:D w.heap.size w (wr.setCell ⟨q,x,Y⟩ (ah O)):=bu b BI.out _;have qR:(L.take k).length=k:=by rw[dg];omega
 unfold aX at C;rw[qR]at C ⊢;obtain⟨nx,oV⟩:=nM (nodeAt l x 7);rw[oV]at J;have LB:=aj oV;have qd:=aj (al y (al CO (al sh qR)));have g1:decide ((1:Int)<=x)=O:=zP;have g2:decide ((x:Int)<=N)=O:=zP;have g3:decide ((x:Int)<N+1)=O:=zP;have g4:(x:Int)<N+1:=zO;go_upto_region 7 with fail;generalize wr.setCell ⟨q,x,Y⟩ (ah O)=w5 at *;obtain⟨i0,yx,sf,tP,sW⟩:=info_parts iM;have qc:=W.ownsRow.alloc C (ag #[V H x] 3);have oQ:=aA qh (ag #[V H x] 3);have qg:=bA w5 (ag #[V H x] 3);have HO:=aj C;go_upto_region 8 with (at_builtin;go_must (refine dI _ Z (.tmp 41) (.tmp 43) _ Z w.heap.size 3 i0 _ 1 8 lI yx sf tP sW Z zO (.slice G k qf) k (ints (L.take k)) Z qc ⟨w5.heap.size,0,Y⟩ 1 1 [V H x] Z Z (lN _) (by simp[aB]) (by simp only[sV];omega) zO (by simp;have:=qh.size;omega) ?_;intro v9 w6 hrow4 hgrow4 _ _));have K:=cV qc hgrow4;have k6:=(k2.aw qg).dy K zD;have kM6:=(kM2.aw qg).dy K zD;have kB6:=(kB2.aw qg).dy K zD;have yA:=bO oQ qc hgrow4 oQ.size (aq _);have HR4:=aj hrow4;go_wp2_with (refine aM Z 34 (.tmp 2) Z w.heap.size Z 34 (lyC l) (0,0) _ k6 aK Z zK ?_);refine(dE l x 7 _ F.out zO).mono ?_;rintro e w7 ⟨rfl,b⟩;rw[LB.out];have k7:=k6.aw b;have kM7:=kM6.aw b;have kB7:=kB6.aw b;have T:=aE yA b;have HR7:=aj (aY HR4.out b);go_wp2_with fail;refine(OM (w.heap.size+1) A c zs n nx _ kM7 z.out.2 (by have:=z.out.1.below T;exact this.more T.size) J.1 J.2).mono ?_;rintro e w8 ⟨rfl,b⟩;have k8:=k7.aw b;have kM8:=kM7.aw b;have kB8:=kB7.aw b;have CW:=aE T b;have HR8:=aj (aY HR7.out b);have hv:zs.getD nx.toNat 0=(L.drop (k+1)).headD 0:=by rw[<- qd.out.2.1,<- LB.out];rfl
 rw[hv];obtain⟨nn,LI⟩:=nM ((L.drop (k+1)).headD 0);rw[LI];have I1:=aj LI;go_wp2_with fail;obtain⟨G9,c9,rfl⟩:=bJ HR8.out;refine⟨⟨k+1,fH,by rw[I1.out],CW,k8,kM8,kB8,?_⟩,by simp only[lenOf];omega⟩;have h:=HR8.out;unfold aX;rw[qd.out.2.2.1,bE,qd.out.2.2.2]
 simpa[ints] using h
end
section
variable {c:Loc} {n:Int}
theorem z7{f k:Int->Int}:∀ {L:List Int},(∀a∈L,k a=f a)->Chn f L->kV k L
 | [],_,_=>trivial
 | [a],h,hc=>⟨(h a zS).trans hc,trivial⟩
 | a :: b :: r,h,hc=>⟨(h a zS).trans hc.1,z7 (λx c=>h x (cM _ c)) hc.2⟩
section
variable {S N:Nat} {m:List Int} {sm:Sm} {g:Gh}
theorem Jq(R:Bt S N m sm)(b:1<=S)(d:S<=3)(a:rF S c):m.getD (adr (lyW S) c).toNat 0=sm c:=by
 rw[mQ b d a,dJ,R.cl c a];rfl
theorem AI(a:1<=S)(b:S<=3){i:Int}(h:1<=n/\n<=40)(hi:0<=i/\i<8):nodeAt (lyW S) n i=16+12*S+(n-1)*8+i:=mQ a b (c:=.nd n i) ⟨h.1,h.2,hi.1,hi.2⟩
structure ListOk (l:Ly) (zs L:List Int):Prop where
 fr:0<=l.free/\l.free<zs.length
 nd:∀a,1<=a/\a<=l.c.nodes->0<=nodeAt l a 7/\nodeAt l a 7<zs.length
 idx:idxOf (xu l zs)=L.headD 0
 ch:kV (AM l zs) L
 in_:∀a∈L,1<=a/\a<=l.c.nodes
 nod:L.Nodup
 ln:L.length<=40
theorem tJ:∀(n:Nat) (L:List Int),L.Nodup->(∀a∈L,1<=a/\a<=n)->L.length<=n
 | 0,[],_,_=>aq _
 | 0,a :: L,_,h=>by have:=h a zS;omega
 | n+1,L,hd,h=>by
  by_cases c:((n+1:Nat):Int)∈L
  ·have d:=tJ n (L.erase ((n+1:Nat):Int)) (hd.erase _) λa b=>by
    have f:=(hd.mem_erase_iff).1 b;have i:=h a f.2;have j:=f.1;omega
   rw[List.length_erase_of_mem c]at d;omega
  have d:=tJ n L hd λa b=>by
   have i:=h a b;have j:a≠((n+1:Nat):Int):=λe=>c (e ▸ b);omega
  omega
theorem list_ok(G:Gl sm g)(R:Bt S N m sm)(e:1<=S)(d:S<=3):ListOk (lyW S) m g.fl:=by
 obtain⟨o,l,t,u,v,s,n,q,h⟩:=Cv e d;have f:∀a∈g.fl,1<=a/\a<=40:=λa b=>⟨((G.fmem a).1 b).1,((G.fmem a).1 b).2.1⟩;refine⟨by rw[l,R.len];omega,?_,?_,z7 ?_ G.fch,?_,G.fnd,tJ 40 _ G.fnd f⟩
 ·intro a b;rw[h]at b;have k:a<=40:=b.2;rw[AI e d ⟨b.1,k⟩ zD,R.len];omega
 ·have:xu (lyW S) m=sm .free:=Jq R e d (c:=.free) trivial;rw[this,G.fw];have j:0<=g.fl.headD 0/\g.fl.headD 0<=40:=by
   cases i:g.fl with
   | nil=>exact⟨Int.le_refl _,zD⟩
   | cons a r=>have:=f a (by rw[i];simp);exact⟨by simp;omega,by simp;omega⟩
  exact gw _ _ _ j.1 M
 ·intro a b;have:=f a b;exact Jq R e d (c:=.nd a 7) ⟨this.1,this.2,zD,zD⟩
 intro a b;rw[h];exact f a b
theorem M6(G:Gl sm g)(f:1<=S)(e:S<=3)(d:rF S c)(ho:mz g c)(j:n∈g.fl):¬(nodeAt (lyW S) n 0<=adr (lyW S) c/\adr (lyW S) c<nodeAt (lyW S) n 0+7):=by
 obtain⟨a,b,h⟩:=(G.fmem n).1 j;rw[AI f e ⟨a,b⟩ zD,mQ f e d];cases c with
 | nd x i=>
  obtain⟨u,t,l,o⟩:=d;have k:=ho.2.2.2.2;simp only[jG];rintro⟨s,q⟩;have:x=n:=M;subst this;exact k M h
 | _=>simp only[rF,jG]at d ⊢;omega
end
def kZ(l:Ly):List Acc:=jV l 0 1++mj l 0 2++qP l++[⟨2,l.era,0,1⟩]
def accT(a:Acc):Int × Int × Int × Int:=(a.kind,a.cell,a.rl,a.new)
theorem Dy:∀l c:List Acc,l.map accT=c.map accT->l=c
 | [],[],_=>rfl
 | [],b :: c,h=>by simp at h
 | a :: l,[],h=>by simp at h
 | a :: l,b :: c,h=>by
  simp only[s8,List.cons.injEq]at h;rw[Dy l c h.2];obtain⟨k,f,d,j⟩:=a;obtain⟨o,n,e,i⟩:=b;simp only[accT,ly]at h;obtain⟨⟨rfl,rfl,rfl,rfl⟩,-⟩:=h;rfl
theorem Jo{S:Nat}(a:1<=S)(b:S<=3):kZ (lyW S)=initW.map (mx (lyW S)):=by
 have:S=1\/S=2\/S=3:=M;refine Dy _ _ ?_;rcases this with rfl|rfl|rfl<;>decide+kernel
theorem qT:∀(l:List Acc) (zs:List Int),eE zs l=l.foldl (λm a=>a.make m) zs
 | [],_=>rfl
 | a :: l,zs=>qT l (a.make zs)
theorem m0_all{S:Nat}(a:1<=S)(b:S<=3):eE (fV (336+12*S) 0) (kZ (lyW S))=m0 S:=by
 rw[Jo a b,qT,List.foldl_map];unfold m0;rfl
theorem err0{S:Nat}(a:1<=S)(b:S<=3):iz (fV (336+12*S) 0) (kZ (lyW S))=0:=by
 have:S=1\/S=2\/S=3:=M;rcases this with rfl|rfl|rfl<;>decide+kernel
end
section
open Go.RowKit
attribute [local go_sem ↓] aQ aR
theorem uH:∀(l:List Acc) (j:Nat) (u:I),(bV l)[j]? =J u->∃(k:Nat) (a:Acc),l[k]? =J a/\((j=k*4/\u=V H a.kind)\/(j=k*4+1/\u=V H a.cell)\/(j=k*4+2/\u=V H a.rl)\/(j=k*4+3/\u=V H a.new))
 | [],j,u,h=>by simp[bV]at h
 | a :: l,j,u,h=>by
  have e:bV (a :: l)=V H a.kind :: V H a.cell :: V H a.rl :: V H a.new :: bV l:=Z;rw[e]at h
  match j,h with
  | 0,h=>exact⟨0,a,Z,.inl ⟨Z,by simpa using h.symm⟩⟩
  | 1,h=>exact⟨0,a,Z,.inr (.inl ⟨Z,by simpa using h.symm⟩)⟩
  | 2,h=>exact⟨0,a,Z,.inr (.inr (.inl ⟨Z,by simpa using h.symm⟩))⟩
  | 3,h=>exact⟨0,a,Z,.inr (.inr (.inr ⟨Z,by simpa using h.symm⟩))⟩
  | j+4,h=>
   obtain⟨k,r,d,c⟩:=uH l j u (by simpa using h);refine⟨k+1,r,by simpa using d,?_⟩;rcases c with⟨c,b⟩|⟨c,b⟩|⟨c,b⟩|⟨c,b⟩
   ·exact .inl ⟨M,b⟩
   ·exact .inr (.inl ⟨M,b⟩)
   ·exact .inr (.inr (.inl ⟨M,b⟩))
   exact .inr (.inr (.inr ⟨M,b⟩))
theorem Bp(l:List Acc):(bV l).length=l.length*4:=by
 induction l with
 | nil=>rfl
 | cons a l b=>show ([LD .i64 a.kind,V H a.cell,V H a.rl,V H a.new]++bV l).length=_;rw[bE,b];simp;omega
theorem oF(l:List Acc):∀v∈bV l,v.oneCell'=O:=by
 intro v b;simp only[bV,List.mem_flatMap]at b;obtain⟨r,_,a⟩:=b;simp at a;rcases a with rfl|rfl|rfl|rfl<;>rfl
theorem tm{w:W}{A:Option Addr}{l:List Acc}(h:jP w w.heap.size A l)(f:0<l.length):∃b o,A=J ⟨b,o,Y⟩/\∀(j:Nat) (u:I),(bV l)[j]? =J u->w.cell? ((⟨b,o,Y⟩:Addr).add j)=J u:=by
 obtain⟨b,o,e,t,n⟩:=h f;refine⟨b,o,e,λj u m=>?_⟩;rw[gZ];obtain⟨k,a,s,g⟩:=uH l j u m;obtain⟨q,c,i,d⟩:=n k a s;rcases g with⟨rfl,rfl⟩|⟨rfl,rfl⟩|⟨rfl,rfl⟩|⟨rfl,rfl⟩
 ·exact q
 ·exact c
 ·exact i
 exact d
def oA1(l:Ly):Nat->List Acc
 | 0=>[]
 | _=>jV l 0 1
def oA2(l:Ly):Nat->List Acc
 | 0=>jV l 0 1
 | _=>jV l 0 1++mj l 0 2
def OiR(w:W)(l:Ly)(f:Nat->List Acc)(v3 a:I)(wr:W):Prop:=
 ∃k:Nat,k<=1/\a=V H (k:Nat)/\D w.heap.size w wr/\Bk wr w.heap.size 34 (lyC l)/\wr.ownsRow w.heap.size 67 4 v3 (f k).length (bV (f k))
theorem Kv(l:Ly)(w:World)(f:eu l)(R:l.c.maps=1)(hc:l.c.chans=1)(W:3<=l.c.nodes)(X:l.c.nodes<=1000)(qc:0<=et l 0)(t:0<=nodeAt l 2 0):U ao 44 #[lyV l] w (sU (kZ l) w):=by
 have P:=Bk.made w 34 (lyC l);have qd:=bA w (ag (lyC l) 34);obtain⟨qa,L,C,y,qb⟩:=info_parts pD;have F:=aj f;have K:=aj (al qc (al t (al W X)));have B:=aj (al R hc);have i:(w.alloc (ag (lyC l) 34)).cell? ⟨w.heap.size,6,Y⟩=some (V H 1):=by rw[P.cell 6];show some (LD .i64 l.c.maps)=_;rw[R]
 have hil:(qP l).length<=1000:=by rw[sd];simp[lg];omega
 clear f R hc W X qc t;go_enter func44,ntmps44;go_wp2_with fail;generalize w.alloc (ag (lyC l) 34)=w1 at *;go_loopw [3,9] (λO c wr=>OiR w l (oA1 l) O c wr) (λ_ c _=>1-(intOf c).toNat)
 case atStart=>exact⟨0,zO,Z,qd,P,bW _ _ _ _⟩
 obtain⟨k,hk,rfl,M,q,J⟩:=hrel;clear i P qd;rcases (show k=0\/k=1 by omega)with rfl|rfl
 ·go_wp2_with (refine aM Z 34 (.tmp 1) Z w.heap.size Z 34 (lyC l) (0,0) _ q aK Z zK ?_);refine(Ke l 0 1 _ F.out zD zD).mono ?_;rintro e S ⟨A,x,rfl,j,a⟩;obtain⟨u,v,rfl,s⟩:=tm j (by simp[jV]);have d:=q.aw a;have g:=aY J a;have b:=aE M a;clear j a M J q;go_wp2_with (at_builtin;go_must (refine dI _ rfl (.tmp 12) (.tmp 17) _ rfl w.heap.size 67 qa _ 4 32 underlying102 L C y qb rfl zO u3 0 (bV []) rfl g ⟨u,v,Y⟩ 7 x (bV (jV l 0 1)) rfl rfl s (oF _) (by simp only[sV];omega) zO b.size ?_;intro c D m h _ _));have T:=cV g h;exact⟨⟨1,zO,rfl,bO b g h b.size (aq _),d.dy T zD,m⟩,by simp[intOf]⟩
 rw[show ((1:Nat):Int)=1 from Z];have o:=q.cell 8;simp at o;rw[B.out.2]at o;go_wp2_with fail;go_loopw [3,23] (λO c wr=>OiR w l (oA2 l) O c wr) (λ_ c _=>1-(intOf c).toNat)
 case atStart=>exact⟨0,zO,Z,M,q,J⟩
 obtain⟨k,hk,rfl,z,d,N⟩:=hrel;clear o q M J;rcases (show k=0\/k=1 by omega)with rfl|rfl
 ·have i:=d.cell 6;simp at i;rw[B.out.1]at i;go_wp2_with (refine aM Z 34 (.tmp 1) Z w.heap.size Z 34 (lyC l) (0,0) _ d aK Z zK ?_);clear i;refine(K0 l 0 2 _ F.out zD K.out.1 K.out.2.1).mono ?_;rintro e S ⟨A,x,rfl,j,a⟩;obtain⟨u,v,rfl,s⟩:=tm j (by simp[mj]);have E:=d.aw a;have g:=aY N a;have b:=aE z a;clear j a z N d;go_wp2_with (at_builtin;go_must (refine dI _ rfl (.tmp 26) (.tmp 35) _ rfl w.heap.size 67 qa _ 4 32 underlying102 L C y qb rfl zO u3 7 (bV (jV l 0 1)) rfl g ⟨u,v,Y⟩ 8 x (bV (mj l 0 2)) rfl rfl s (oF _) (by simp only[sV];omega) zO b.size ?_;intro c D m h _ _));have T:=cV g h;exact⟨⟨1,zO,rfl,bO b g h b.size (aq _),E.dy T zD,by rw[<- dZ]at m;exact m⟩,by simp[intOf]⟩
 rw[show ((1:Nat):Int)=1 from Z];have i:=d.cell 6;have o:=d.cell 8;simp at i o;rw[B.out.1]at i;rw[B.out.2]at o;go_wp2_with (refine aM Z 34 (.tmp 1) Z w.heap.size Z 34 (lyC l) (0,0) _ d aK Z zK ?_);clear i o;refine(Nx l _ F.out K.out.2.2.1 K.out.2.2.2).mono ?_;rintro e S ⟨A,x,rfl,j,a⟩;have qe:0<(qP l).length:=by rw[sd];simp
 obtain⟨u,v,rfl,s⟩:=tm j qe;have E:=d.aw a;have g:=aY N a;have b:=aE z a;have G:S.ownsRow w.heap.size 67 4 u3 15 (bV (jV l 0 1++mj l 0 2)):=g;clear j a z N d g;obtain⟨n,t⟩:=nM ((qP l).length);rw[t]at hil ⊢;clear qe;go_upto_region 13 with (at_builtin;go_must (refine dI _ Z (.tmp 38) (.tmp 48) _ Z w.heap.size 67 qa _ 4 32 underlying102 L C y qb Z zO u3 15 (bV (jV l 0 1++mj l 0 2)) Z G ⟨u,v,Y⟩ n x (bV (qP l)) Z (by rw[Bp,t]) s (oF _) (by simp only[sV];omega) zO b.size ?_;intro c D m h _ _));have hbf:=bO b G h b.size (aq _);have k4:=E.dy (cV G h) zD;rw[<- dZ]at m;have q11:=k4.cell 11;simp at q11;have hown5:=World.ownsRow.alloc m (ag #[V H 2,V H l.era,V H 0,V H 1] 67);have Q:=aA hbf (ag #[V H 2,V H l.era,V H 0,V H 1] 67);clear G s h b E;go_wp2_with (at_builtin;go_must (refine dI _ Z (.tmp 50) (.tmp 54) _ Z w.heap.size 67 qa _ 4 32 underlying102 L C y qb Z zO c (15+n) (bV (jV l 0 1++mj l 0 2++qP l)) Z hown5 ⟨D.heap.size,0,Y⟩ 1 1 [V H 2,V H l.era,V H 0,V H 1] Z Z (pC D _) (by simp[aB]) (by simp only[sV];omega) zO Q.size ?_;intro v10 w6 hrow6 hgrow6 _ _));obtain⟨GA,cA2,rfl⟩:=bJ hrow6;have qf:(kZ l).length=15+n+1:=by simp[kZ,jV,mj,om,t];omega
 go_ret;refine⟨GA,cA2,by rw[qf];rfl,pS (base:=w.heap.size) (cap:=cA2) (n:=15+n+1) ?_ qf,bO Q hown5 hgrow6 Q.size (aq _)⟩;unfold kZ;rw[dZ];exact hrow6
variable {w:W} {n:Nat}
theorem can_W{S:Nat}(a:1<=S)(b:S<=3):(cfW S).can:=by
 refine⟨⟨λj c=>?_,show Ci 2=O by decide+kernel⟩,show (1:Int)+1<=40 by decide,show (40:Int)<=1000 by decide⟩;have:j=0\/j=1\/j=2\/j=3\/j=4\/j=5\/j=6\/j=7:=M;rcases this with rfl|rfl|rfl|rfl|rfl|rfl|rfl|rfl<;>simp only[Cf.Cb,cfW]<;>omega
theorem all_nT(A B:Option Addr)(M c d n k:Nat)(zs:List Int)(l:List Acc)(w:W)(g:zs.length=n)(i:l.length=k)(h:M<=w.heap.size)(e:my w M A n c zs)(b:jP w w.heap.size B l)(f:n<=1000000)(a:l.length<=1000000):
  U ao 42 #[pj A n c,.slice B k d] w (By M zs l w):=by
 subst g i;exact all_any A B M c d zs l w h e b f a
theorem Ij{A:Option Addr}{c:Nat}{zs:List Int}(h:my w 0 A n c zs)(e:0<n):∃g,A=J ⟨g,0,Y⟩/\aX w 0 (af (J ⟨g,0,Y⟩) n c) zs:=by
 rcases h.2 with a|a
 ·obtain⟨b,o,_,f,_⟩:=a.2 e;omega
 obtain⟨g,i,d,_,_⟩:=W.ownsRow.form a (by rw[h.1];exact e);injection d with d _ _;subst d;exact⟨g,Z,a⟩
def wbT:Nat->Nat|4=>21|6=>23|7=>24|8=>16|9=>25|10=>26|11=>27|12=>5|14=>6|15=>7|_=>38
def wbP:Nat->List Nat|7=>[4,6]|8=>[7]|9=>[8]|10=>[8]|11=>[8]|13=>[7,9,12]|14=>[10]|15=>[11]|_=>[]
def wbR(B N S:Nat)(l:Ly)(i:Nat)(val:Nat->Option I)(v:I)(w:W):Prop:=
 match i with
 | 4=>val 7=Y->∃g,v=pj (J ⟨g,0,Y⟩) N N/\aX w 0 (af (J ⟨g,0,Y⟩) N N) (fV N 0)
 | 6=>val 7=Y->∃A c,v= .slice A (kZ l).length c/\jP w w.heap.size A (kZ l)
 | 7=>∃g c r,v= .tuple #[pj (J ⟨g,0,Y⟩) N c,r,V H 0]/\aX w 0 (af (J ⟨g,0,Y⟩) N c) (m0 S)
 | 8=>∃a b c,v= .tuple #[a,b,c]/\val 7=J v
 | 9=>∃b c,val 7=J (.tuple #[v,b,c])
 | 11=>∃a b,val 7=J (.tuple #[a,b,v])
 | 12=>∃g,v=ae (J ⟨g,0,Y⟩)/\B<=g/\(val 13=Y->Bk w g 37 #[af Y 0 0])
 | 13=>∃g A c b d,val 12=J (ae (J ⟨g,0,Y⟩))/\val 7=J (.tuple #[pj A N c,b,d])/\Bk w g 37 #[.slice A N c]
 | 15=>∃a b,val 7=J (.tuple #[a,b,v])
 | _=>True
def wbG(B i:Nat)(a b:W):Prop:=if i=13 then eB 37 a b/\D B a b else D a.heap.size a b
theorem LU(B N S:Nat)(l:Ly)(i j:Nat)(L:i≠j)(val:Nat->Option I)(v u:I)(z w2:World)(hi:val i=J v)(R:val j=Y)(qb:∀p∈wbP j,∃x,val p=J x)(h:wbR B N S l i val v z)(w:wbG B j z w2):wbR B N S l i (upd val j u) v w2:=by
 have y:∀k x,val k=J x->upd val j u k=J x:=λk x q=>by
  simp only[upd];split
  ·rename_i e;subst e;rw[R]at q;cases q
  exact q
 have C:∀k,upd val j u k=Y->val k=Y/\k≠j:=λk q=>by
  simp only[upd]at q;split at q
  ·cases q
  rename_i e;exact⟨q,e⟩
 have H:∀ {b F n:Nat} {v:I} {xs:List I} {t:bM},t≠37->z.ownsRow b t F v n xs->w2.ownsRow b t F v n xs:=by
  intro b F n v xs t T ho;unfold wbG at w;split at w
  ·exact bY ho w.1 T
  exact aY ho w
 have D:j≠13->Below z.heap.size z w2:=λe=>by unfold wbG at w;rwa [if_neg e]at w
 have K:j=13->∃x,val 7=J x:=λe=>qb 7 (by rw[e];simp[wbP]);have O:i=4\/i=6\/i=7\/i=8\/i=9\/i=11\/i=12\/i=13\/i=15\/(i≠4/\i≠6/\i≠7/\i≠8/\i≠9/\i≠11/\i≠12/\i≠13/\i≠15):=zO;rcases O with rfl|rfl|rfl|rfl|rfl|rfl|rfl|rfl|rfl|⟨n1,X,V,n4,W,qd,qc,n8,qe⟩
 ·intro s;obtain⟨g,f,m⟩:=h (C 7 s).1;exact⟨g,f,H zD m⟩
 ·intro s;obtain⟨A,c,f,m⟩:=h (C 7 s).1;have qa:=D λe=>by
   obtain⟨x,G⟩:=K e;rw[(C 7 s).1]at G;cases G
  refine⟨A,c,f,?_⟩;intro M;obtain⟨b,o,e,P,Q⟩:=m.below qa M;exact⟨b,o,e,aZ P qa.size,Q⟩
 ·obtain⟨g,c,r,f,m⟩:=h;exact⟨g,c,r,f,H zD m⟩
 ·obtain⟨a,b,c,f,m⟩:=h;exact⟨a,b,c,f,y _ _ m⟩
 ·obtain⟨b,c,f⟩:=h;exact⟨b,c,y _ _ f⟩
 ·obtain⟨b,c,f⟩:=h;exact⟨b,c,y _ _ f⟩
 ·obtain⟨g,f,m,E⟩:=h;exact⟨g,f,m,λs=>(E (C 13 s).1).aw (D λe=>(C 13 s).2 e.symm)⟩
 ·obtain⟨g,A,c,b,d,f,m,E⟩:=h;exact⟨g,A,c,b,d,y _ _ f,y _ _ m,E.aw (D λe=>L e.symm)⟩
 ·obtain⟨b,c,f⟩:=h;exact⟨b,c,y _ _ f⟩
 unfold wbR;split<;>first|contradiction|trivial
theorem Bl{B:Nat}{a w':W}(b:D B a w)(c:D B w w'):D B a w':=b.trans c
theorem Kk:(Tryz.prog.info? 46).map (λi=>(i.zero,i.size,i.bytes))=J (J (.agg #[V H 0,af Y 0 0,af Y 0 0,af Y 0 0,V H 0]),5,88):=zK
def pa(n:Nat):Array I:=madeCells #[V H 0,af Y 0 0,af Y 0 0,af Y 0 0,V H 0] (n*5)
theorem vQ(w:W)(N:Nat)(h:N<=1000000):
  (Instr.makeSlice 38 (V H N) (V H N)).run ao w= .ok (af (J ⟨w.heap.size,0,Y⟩) N N) (w.alloc (ag (pa N) 46)):=
 nV underlying38 Kk w N h M
theorem Hy{g:Nat}(k:Bk w g 46 (pa n)):pE w g (fV n uu) (pa n):=by
 refine⟨k,by simp[pa,size_madeCells],λi x a=>?_⟩;rw[List.getElem?_replicate]at a;split at a
 ·injection a with a;subst a;rename_i hi;have b:∀d,d<5->(pa n)[i*5+d]? =#[LD .i64 0,af Y 0 0,af Y 0 0,af Y 0 0,V H 0][d]?:=by
   intro d hd;have e:(i*5+d)%5=d:=M;have c:i*5+d<n*5:=M;simp[pa,madeCells,e,c,hd]
  refine⟨(b 0 M).trans Z,⟨Y,0,(b 1 M).trans Z,bW _ _ _ _⟩,⟨Y,0,(b 2 M).trans Z,bW _ _ _ _⟩,⟨_,(b 3 M).trans Z,Y,0,Z,λ_=>⟨Z,Z⟩,λh=>absurd h (by simp[uu])⟩,(b 4 M).trans Z⟩
 cases a
def J2(S:Nat)(w:W)(e:jK)(a:W):Prop:=∃b,e=ai (ae (J ⟨b,0,Y⟩))/\kn a w.heap.size b (lyW S) (jh S)/\D w.heap.size w a
theorem Hg(S:Nat)(C:1<=S)(qe:S<=3)(A T:Option Addr)(cw m d s0 O s2:Nat)(w:W):Calls ao 19 #[.agg (cI A S cw T m d s0 O s2)] w (J2 S w):=by
 have qc:=Bk.made w 26 (cI A S cw T m d s0 O s2);have qd:=bA w (ag (cI A S cw T m d s0 O s2) 26);have L:=uY C qe;obtain⟨e1,e2,e3,e4,e5,e6,n,z,qa⟩:=Cv C qe;have hh:0<=et (lyW S) 0:=L.hd;have va:0<=nodeAt (lyW S) 2 0:=(L.nd 2 zD zD).1;have Iv:=λw=>Kv (lyW S) w L.f (by rw[qa];rfl) (by rw[qa];rfl) (by rw[qa];show (3:Int)<=40;decide) (by rw[qa];show (40:Int)<=1000;decide) hh va;have BF:=m0_all C qe;have A1:=err0 C qe;have hz:(lyW S).size=((336+12*S:Nat):Int):=by rw[z];push_cast;rfl
 have hlen0:(m0 S).length=336+12*S:=by rw[Nj C qe];simp
 have hil:(kZ (lyW S)).length<=1000000:=by rw[Jo C qe,qH];decide
 have hof:∀w,Calls ao 41 #[.agg #[aa H S,aa H 40,aa H 2,aa H 1,aa H 1,aa H 0,aa H 1,aa H 1,aa H 1]] w (OW (lyW S) 0 w):=λw=>of_ok (cfW S) w (can_W C qe);have q0:=qc.cell 0;simp at q0;go_enter func19,ntmps19;go_wp2_with fail;generalize w.alloc (ag (cI A S cw T m d s0 O s2) 26)=w1 at *;refine(hof _).mono ?_;rintro e k ⟨rfl,F⟩;obtain⟨N,hN⟩:∃N:Nat,336+12*S=N:=⟨_,rfl⟩;rw[hN]at BF A1 hz hlen0;have hN1:1<=N/\N<=1000:=M;obtain⟨tb,htb⟩:=nM (jh S);have HT:=aj htb;unfold J2;rw[htb];obtain⟨l,hl⟩:=nM (lyW S);rw[hl]at BF A1 hz Iv hil ⊢;replace qc:=qc.aw F;replace qd:=aE qd F;have HL:=aj hl;go_upto_region 2 with (refine eg rfl 34 (.tmp 3) (.tmp 14) rfl rfl k.heap.size _ _ (lyC l) rfl rfl rfl rfl zK rfl (by simp[aB]) ?_);have kL:=Bk.made k 34 (lyC l);replace qc:=qc.alloc (ag (lyC l) 34);have uM:w.heap.size<=k.heap.size:=qd.size;replace qd:=aA qd (ag (lyC l) 34);generalize k.alloc (ag (lyC l) 34)=qb at *;generalize k.heap.size=gl at *;refine aH (S:=λw'=>D qb.drew.heap.size qb.drew w') (E:=λ_=>X) zK ?_;replace qc:=qc.drew;replace kL:=kL.drew;replace qd:=qd.drew;generalize qb.drew=w4 at *;have hmin:∀(w:W) (ts:Array bM) (t:bM),(Builtin.min_ ts t #[aa H N,aa H 1000]).run ao w= .ok (aa H N) w:=λw ts t=>by
  rw[run_min_int2];split<;>first|rfl|(congr 2;omega)
 have hmax:∀(w:W) (ts:Array bM) (t:bM),(Builtin.max_ ts t #[aa H 0,aa H N]).run ao w= .ok (aa H N) w:=λw ts t=>by
  rw[run_max_int2];split<;>first|rfl|(congr 2;omega)
 refine cO (i:=0) (oi:=_) (v:=ae (J ⟨gl,24,Y⟩)) Z zK zK zK zK (λ_ _ _ h=>h) (jI ⟨by rfl,?_⟩) bS ?_
 ·intro w' qg;(try simp only[au,ar,an]);go_simp
 (try simp only[au,ar,an,Act.put,ak,ay,az]);refine cO (i:=1) (oi:=_) (v:=aa H N) Z zK zK zK zK (λ_ _ _ h=>h) (jI ⟨by rfl,?_⟩) bS ?_
 ·intro w' qg;have O:=(kL.aw qg).cell 24;simp at O;rw[hz]at O;(try simp only[au,ar,an]);go_simp
 (try simp only[au,ar,an,Act.put,ak,ay,az]);refine cO (i:=2) (oi:=_) (v:=aa H N) Z zK zK zK zK (λ_ _ _ h=>h) (jI ⟨by rfl,?_⟩) bS ?_
 ·intro w' qg;(try simp only[au,ar,an]);go_simp
 (try simp only[au,ar,an,Act.put,ak,ay,az]);refine cO (i:=3) (oi:=_) (v:=aa H N) Z zK zK zK zK (λ_ _ _ h=>h) (jI ⟨by rfl,?_⟩) bS ?_
 ·intro w' qg;(try simp only[au,ar,an]);go_simp
 (try simp only[au,ar,an,Act.put,ak,ay,az]);refine cO (i:=5) (oi:=_) (v:=.agg (lyC l)) Z zK zK zK zK (λ_ _ _ h=>h) (jI ⟨by rfl,?_⟩) bS ?_
 ·intro w' qg;(try simp only[au,ar,an]);simp only[nO,Instr.loadAt,uS,cD,dF,bC];rw[show (Act.eval _ (Operand.tmp 3))=I.pointer (J ⟨gl,0,Y⟩)from Z];simp only[Instr.loadAt,uS,cD,dF,bC,a7 w' gl 34 34 (lyC l) (0,0) _ (kL.aw qg) aK Z zK]
 (try simp only[au,ar,an,Act.put,ak,ay,az]);refine jR (U:=[4,6,7,8,9,10,11,12,13,14,15]) (tmp:=wbT) (pre:=wbP) (T:=λk=>D w4.heap.size w4 k) (N:=λ_ _=>True) (G:=wbG w4.heap.size) (R:=wbR w4.heap.size N S l) zK (λ_ _=>Z) (λk h=>h) bS (λi hi k qb C h2=>?_) (λ_ _=>trivial) (λ_ _ _ _ _ _ _ _ _ _=>trivial)
  (λi hi j hj yw val v u k qb hT hvi AV hp hr hg=>LU _ _ _ _ i j yw val v u k qb hvi AV hp hr hg) (λi hi o ho val k K BB kW _ y f=>?_) 0 (λval k x kW=>?_)
 ·unfold wbG at h2;split at h2
  ·exact Bl C h2.2
  exact aE C h2
 ·simp only[aL,be,or_false]at hi;rcases hi with rfl|rfl|rfl|rfl|rfl|rfl|rfl|rfl|rfl|rfl|rfl
  ·obtain rfl:=aP ho;simp only[wbP,ba];go_simp;refine(new_any N _ M).mono ?_;rintro e qb ⟨g,rfl,s,F⟩;exact f _ _ (λ_=>⟨g,rfl,dt s (aN _)⟩) F
  ·obtain rfl:=aP ho;simp only[wbP,ba];go_simp;refine(Iv _).mono ?_;rintro e qb ⟨A,c,rfl,sX,F⟩;exact f _ _ (λ_=>⟨A,c,rfl,sX⟩) F
  ·obtain rfl:=aP ho;obtain⟨v4,e4,r4⟩:=y 4 (by simp[wbP]);obtain⟨g,rfl,s⟩:=r4 BB;obtain⟨v6,e6,r6⟩:=y 6 (by simp[wbP]);obtain⟨A,c,rfl,sX⟩:=r6 BB;simp only[wbP,ba,e4,e6,wbT]at f ⊢;go_simp;refine(all_nT (J ⟨g,0,Y⟩) A 0 N c N (kZ l).length (fV N 0) (kZ l) _ zS Z (aN _) (my.M0 s zS (aN _)) sX M hil).mono ?_;rintro e qb ⟨A',c',R,d,rfl,hM,-,F⟩;unfold jf at hM;rw[if_pos A1]at hM;have he:(fV N (0:Int)).length=N:=zS;rw[BF,he]at hM;obtain⟨g2,rfl,NL⟩:=Ij hM M;refine f _ _ ⟨g2,c',_,by rw[he,A1],NL⟩ F
  ·obtain rfl:=aP ho;obtain⟨v7,n,g,c,r,rfl,s⟩:=y 7 (by simp[wbP]);simp only[wbP,ba,n,wbT]at f ⊢;go_simp;exact f _ _ ⟨_,_,_,Z,by simp[upd,n]⟩ bS
  ·obtain rfl:=aP ho;obtain⟨v8,z,a,b,c,rfl,n⟩:=y 8 (by simp[wbP]);simp only[wbP,ba,z,wbT]at f ⊢;go_simp;exact f _ _ ⟨b,c,by simp[upd,n]⟩ bS
  ·obtain rfl:=aP ho;obtain⟨v8,z,a,b,c,rfl,n⟩:=y 8 (by simp[wbP]);simp only[wbP,ba,z,wbT]at f ⊢;go_simp;exact f _ _ trivial bS
  ·obtain rfl:=aP ho;obtain⟨v8,z,a,b,c,rfl,n⟩:=y 8 (by simp[wbP]);simp only[wbP,ba,z,wbT]at f ⊢;go_simp;exact f _ _ ⟨a,b,by simp[upd,n]⟩ bS
  ·obtain rfl:=aP ho;simp only[wbP,ba]at f ⊢;go_simp;exact f _ _ ⟨_,Z,kW.size,λ_=>Bk.made _ _ _⟩ (aA bS _)
  ·obtain rfl:=aP ho;obtain⟨v7,n,g,c,r,rfl,s⟩:=y 7 (by simp[wbP]);obtain⟨v9,qa,b9,c9,Q⟩:=y 9 (by simp[wbP]);rw[n]at Q;injection Q with Q;injection Q with Q;obtain⟨rfl,rfl,rfl⟩:pj (J ⟨g,0,Y⟩) N c=v9/\r=b9/\LD .i64 0=c9:=by simpa using Q
   obtain⟨v12,qh,ga,rfl,mD,KI⟩:=y 12 (by simp[wbP]);have ka:=KI BB;have f0:=ka.free 0;have l0:=ka.lt;have q0:=ka.cell 0;simp at q0;simp only[wbP,ba,n,qa,qh,wbT]at f ⊢;go_simp;refine f undef _ ⟨ga,J ⟨g,0,Y⟩,c,r,aa H 0,by simp[upd,qh],by simp[upd,n],ka.stored 0 _⟩ ⟨bX ka 0 _,⟨Z,Z,Z,by simp[W.setCell],λb F=>jL k ⟨ga,0,Y⟩ _ b (show b≠ga by omega)⟩⟩
  ·obtain rfl:=aP ho;obtain⟨v10,uN,-⟩:=y 10 (by simp[wbP]);simp only[wbP,ba,uN,wbT]at f ⊢;go_simp;exact f _ _ trivial bS
  obtain rfl:=aP ho;obtain⟨v11,JD,a,b,n⟩:=y 11 (by simp[wbP]);simp only[wbP,ba,JD,wbT]at f ⊢;go_simp;exact f _ _ ⟨a,b,by simp[upd,n]⟩ bS
 obtain⟨v4,e4,-⟩:=x 4 zS;obtain⟨v6,e6,-⟩:=x 6 zS;obtain⟨v7,n,g,c,r,rfl,s⟩:=x 7 zS;obtain⟨v8,z,-⟩:=x 8 zS;obtain⟨v9,qa,-⟩:=x 9 zS;obtain⟨v10,uN,-⟩:=x 10 zS;obtain⟨v11,JD,-⟩:=x 11 zS;obtain⟨v12,qh,ga,rfl,mD,-⟩:=x 12 zS;obtain⟨v13,e13,gb,A',c',b',d',B,V,kb⟩:=x 13 zS;obtain⟨v14,e14,-⟩:=x 14 zS;obtain⟨v15,e15,a',b2,qi⟩:=x 15 zS;rw[qh]at B;injection B with B;injection B with B;injection B with B;injection B with B;subst B;rw[n]at V qi;injection V with V;injection V with V;injection qi with qi;injection qi with qi;obtain⟨⟨rfl,rfl⟩,rfl,rfl⟩:(J ⟨g,0,Y⟩=A'/\c=c')/\r=b'/\LD .i64 0=d':=by simpa using V
 obtain⟨-,-,rfl⟩:pj (J ⟨g,0,Y⟩) N c=a'/\r=b2/\LD .i64 0=v15:=by simpa using qi
 refine aG (by simp only[dj,e4,e6,n,z,qa,uN,JD,qh,e13,e14,e15,cZ,if_true];kernel_rfl) ?_ _;simp only[ba,e4,e6,n,z,qa,uN,JD,qh,e13,e14,e15,wbT];(try simp only[Act.put,ak,ay,az,eM]);have k0':=qc.aw kW;have kL':=kL.aw kW;have A4:=aE qd kW;go_upto_region 3 with fail;refine aH (S:=λw'=>D k.drew.heap.size k.drew w') (E:=λ_=>X) zK ?_;replace k0':=k0'.drew;replace kL':=kL'.drew;replace kb:=kb.drew;replace A4:=A4.drew;replace s:aX k.drew 0 (af (J ⟨g,0,Y⟩) N c) (m0 S):=s;generalize k.drew=q at *;refine wTq 1 [(0,28,lyV l)] ?_ bS ?_
 ·intro w' qf;have kE:(cL 34 ⟨gl,0,Y⟩).run ao w'= .ok (lyV l) w':=a7 w' gl 34 34 (lyC l) (0,0) _ (kL'.aw qf) aK Z zK;exact zL
 refine wTq 6 [(1,29,.agg #[af (J ⟨g,0,Y⟩) N c]),(2,30,ae (J ⟨w.heap.size,0,Y⟩)),(3,31,.slice A S cw),(4,32,aa H S),(6,34,aa H 0),(7,35,ah X)] ?_ bS ?_
 ·intro w' qf;have c0:=(kb.aw qf).cell 0;have c1:=(k0'.aw qf).cell 0;simp at c0 c1;exact zT
 have hms:=vQ q S M;refine wOq 5 (λK f=>?_);go_simp;have kS:=Bk.made q 46 (pa S);replace s:=W.ownsRow.alloc s (ag (pa S) 46);have tT:=aA A4 (ag (pa S) 46);have P:D q.heap.size q (q.alloc (ag (pa S) 46)):=aA bS _;refine f.out _ _ (λ_=>P) ?_;generalize q.alloc (ag (pa S) 46)=w6 at *;(try simp only[Act.put,ak,ay,az]);refine wTq 1 [(8,36,.agg (vE l (af (J ⟨g,0,Y⟩) N c) q.heap.size S (af Y 0 0) (af Y 0 0)))] ?_ P ?_
 ·intro w' qf
  (repeat' (first|exact bd|refine al ⟨_,Z,.inl ⟨Z,?_⟩⟩ ?_))
  all_goals kernel_rfl
 refine wOq 9 (λK f=>?_);go_simp;have kT:=Bk.made w6 42 (vE l (af (J ⟨g,0,Y⟩) N c) q.heap.size S (af Y 0 0) (af Y 0 0));replace kS:=kS.alloc (ag (vE l (af (J ⟨g,0,Y⟩) N c) q.heap.size S (af Y 0 0) (af Y 0 0)) 42);replace s:=W.ownsRow.alloc s (ag (vE l (af (J ⟨g,0,Y⟩) N c) q.heap.size S (af Y 0 0) (af Y 0 0)) 42);have z6:w.heap.size<=w6.heap.size:=tT.size;replace tT:=aA tT (ag (vE l (af (J ⟨g,0,Y⟩) N c) q.heap.size S (af Y 0 0) (af Y 0 0)) 42);replace P:=aA P (ag (vE l (af (J ⟨g,0,Y⟩) N c) q.heap.size S (af Y 0 0) (af Y 0 0)) 42);refine f.out _ _ (λ_=>P) ?_;generalize w6.alloc (ag (vE l (af (J ⟨g,0,Y⟩) N c) q.heap.size S (af Y 0 0) (af Y 0 0)) 42)=w7 at *;(try simp only[Act.put,ak,ay,az]);refine wTq 1 [(10,2,ae (J ⟨w6.heap.size,0,Y⟩))] ?_ P ?_
 ·intro w' qf;exact zT
 refine aG zK ?_ _;go_wp2_with fail;go_ret;obtain rfl:=HT.out;obtain rfl:=HL.out;have hl:(jh S).aO.length=S:=List.length_replicate;refine⟨_,Z,⟨q.heap.size,af (J ⟨g,0,Y⟩) N c,af Y 0 0,af Y 0 0,⟨z6,A4.size,by rw[hl];exact kT,⟨_,Hy kS⟩,⟨g,c,?_,s⟩,bW _ _ _ _,bW _ _ _ _⟩⟩,tT⟩;show I.slice _ N c= .slice _ (m0 S).length c;rw[hlen0]
end
section
open Go.RowKit
attribute [local go_sem ↓] aQ aR
theorem Kr(A:Option Addr)(n c:Nat)(T:Option Addr)(m d:Nat)(a b e who:Nat)(h:who<3):(cI A n c T m d a b e)[2+who]? =J (.int .u8 (([a,b,e].getD who 0:Nat))):=by
 have:who=0\/who=1\/who=2:=M;rcases this with rfl|rfl|rfl<;>rfl
theorem L7(stops:List Nat){who:Nat}{t:cY}{x:fz}(h:who<3)(a:t.aO[who]? =J x):g8 stops who t=(decide (stops.getD who 0<120)&&decide (stops.getD who 0<=x.made)):=by
 unfold g8;rw[show min who 2=who by omega,dJ (l:=t.aO),a];simp[h]
theorem ta(A:Option Addr)(n c:Nat)(T:Option Addr)(m d b a e who B k:Nat)(l:Ly)(t:cY)(w:W)(R:kn w B k l t)(F:who<t.aO.length)(Q:t.aO.length<=3)(yB:b<256)(hb1:a<256)(kW:e<256):
  U ao 20 #[ae (J ⟨k,0,Y⟩),.agg (cI A n c T m d b a e),V H who] w (fI (g8 [b,a,e] who t) w):=by
 obtain⟨y,mv,ev,cv,qa⟩:=R;obtain⟨x,qb⟩:∃x,t.aO[who]? =J x:=⟨_,aD F⟩;rw[L7 _ M qb];have z:=Kr A n c T m d b a e who M;obtain⟨s,G⟩:=nM ([b,a,e].getD who 0);have qj:s<256:=by
  have:who=0\/who=1\/who=2:=M;rw[<- G];rcases this with rfl|rfl|rfl<;>assumption
 rw[G]at z ⊢;obtain⟨cs,L⟩:=qa.aO;have qd:=L.at_ who x qb;have f:=qa.tab;have j:=L.row;have P:=qd.made;obtain⟨S,N⟩:=nM (t.aO.length);rw[N]at f F Q;have i:=Bk.made w 26 (cI A n c T m d b a e);have h:=bA w (ag (cI A n c T m d b a e) 26);have hmin:∀(w:W) (I:Array bM) (t:bM),(Builtin.min_ I t #[V H who,V H 2]).run ao w= .ok (V H who) w:=λw I t=>by
  rw[run_min_int2];split<;>first|rfl|(congr 2;omega)
 have j0:decide ((who:Int)<3)=O:=zP;have j1:(0:Int)<=who:=M;have j2:(who:Int)<3:=M;have qi:(who:Int)<S:=M;have hwr:IntKind.i64.wrap (s:Int)=s:=dh _ M;go_enter func20,ntmps20;go_upto_region 1 with fail;replace f:=f.alloc (ag (cI A n c T m d b a e) 26);replace j:=j.alloc (ag (cI A n c T m d b a e) 26);generalize w.alloc (ag (cI A n c T m d b a e) 26)=C at *;obtain⟨g0,K⟩:=nM (w.heap.size);have qc:=aj K;rw[K]at i h ⊢;refine aH (S:=λo=>Below C.drew.heap.size C.drew o) (E:=λ_=>X) zK ?_;replace f:=f.drew;replace j:=j.drew;replace i:=i.drew;replace h:=h.drew;generalize C.drew=w2 at *;refine wTq 8 [(0,7,V H who),(1,8,ah O),(2,9,ah O),(3,10,V H who),(4,11,V H who),(5,12,ae (J ⟨g0,2,Y⟩)),(6,13,ae (J ⟨g0,2+who,Y⟩)),(7,14,.int .u8 s)] ?_ bS ?_
 ·intro o g;have v:=(i.aw g).cell (2+who);rw[z]at v
  (repeat' (first|exact bd|refine al ⟨_,Z,.inl ⟨zK,?_⟩⟩ ?_))
  all_goals exact zG
 by_cases fH:s<120
 ·have qf:decide ((s:Int)<120)=O:=zP;have u:decide (s<120)=O:=zP;obtain⟨q,D⟩:=nM (decide (s<=x.made));have hqi:decide ((s:Int)<=x.made)=q:=by rw[<- D];simp
  refine wTq 20 [(8,15,ah O),(9,16,ah O),(10,17,ah O),(11,18,ae (J ⟨k,0,Y⟩)),(12,19,ae (J ⟨k,0,Y⟩)),(13,20,ae (J ⟨k,26,Y⟩)),(14,21,af (J ⟨y,0,Y⟩) S S),(15,22,V H who),(16,23,ae (J ⟨y,who*5,Y⟩)),(17,24,ae (J ⟨y,who*5+4,Y⟩)),(18,25,V H x.made),(19,26,V H who),(20,27,V H who),(21,28,ae (J ⟨g0,2,Y⟩)),(22,29,ae (J ⟨g0,2+who,Y⟩)),(23,30,.int .u8 s),(24,31,V H s),(25,32,.bool q),(26,33,.bool q),(27,6,.bool q)] ?_ bS ?_
  ·intro o g;have v:=(i.aw g).cell (2+who);rw[z]at v;have qe:=(f.aw g).cell 26;have qg:=(j.aw g).cell (who*5+4);rw[P]at qg;have qh:=(f.aw g).lt;simp at qe
   (repeat' (first|exact bd|refine al ⟨_,Z,.inl ⟨zK,?_⟩⟩ ?_))
   all_goals exact zG
  refine aG zK ?_ _;go_wp2_with fail;go_ret;refine⟨?_,by rw[qc.out];exact h⟩;rw[u,D];rfl
 have qf:decide ((s:Int)<120)=X:=zP;have u:decide (s<120)=X:=zP;refine wTq 20 [(8,15,ah X),(9,16,ah X),(10,17,ah X),(11,18,undef),(12,19,undef),(13,20,undef),(14,21,undef),(15,22,undef),(16,23,undef),(17,24,undef),(18,25,undef),(19,26,undef),(20,27,undef),(21,28,undef),(22,29,undef),(23,30,undef),(24,31,undef),(25,32,undef),(26,33,ah X),(27,6,ah X)] ?_ bS ?_
 ·intro o g
  (repeat' (first|exact bd|refine al ⟨_,Z,.inr ⟨zK,Z⟩⟩ ?_|refine al ⟨_,Z,.inl ⟨zK,?_⟩⟩ ?_))
  all_goals exact zG
 refine aG zK ?_ _;go_wp2_with fail;go_ret;refine⟨?_,by rw[qc.out];exact h⟩;rw[u];rfl
variable {G:Option Addr} {base c g i m n:Nat}
def Ae:Nat->Nat|10=>73|11=>62|12=>74|13=>75|14=>76|15=>9|16=>10|17=>283|18=>284|19=>11|_=>285
def Ad:Nat->Nat|5=>225|6=>219|7=>226|8=>227|9=>228|10=>16|11=>17|12=>283|13=>284|14=>18|_=>285
def NxX(l:Ly)(q:An Out)(c1 c2:Array I)(v3:I)(w:W):Prop:=
 ∃e d k cv g f j c h gn i b,c1=bj e d k cv/\c2=bg g f j c (.slice h gn i)/\v3= .bool b/\
  ((∃a,q= .ask a/\e=a.k/\d=adr l a.c/\k=a.o/\cv=a.v/\b=X)\/(∃o,q= .fin o/\g=o.val/\f=o.is/\j=0/\c=o.bc/\b=O/\bI w (.slice h gn i) o.gone))
theorem M3(l:Ly)(q:An Out)(c1 c2:Array I)(v3:I)(b w2:W)(h:NxX l q c1 c2 v3 b)(a:(eB 67 b w2\/eB 70 b w2\/D b.heap.size b w2)):NxX l q c1 c2 v3 w2:=by
 obtain⟨k,j,n,cv,A,s,x,y,e,gn,m,z,rfl,rfl,rfl,c⟩:=h;refine⟨k,j,n,cv,A,s,x,y,e,gn,m,z,Z,Z,Z,?_⟩;rcases c with c|⟨o,g,i,u,C,v,f,d⟩
 ·exact .inl c
 refine .inr ⟨o,g,i,u,C,v,f,?_⟩;rcases a with a|a|a
 ·exact d.qO (a.r zD zD zD)
 ·exact d.qO (a.r zD zD zD)
 exact d.aw a
theorem M2{l:Ly}{q:An Out}{w:W}{e:jK}{w':W}(h:hJ l q w e w'):∃i d f,e=ai (qX i d f)/\NxX l q i d f w'/\D w.heap.size w w':=by
 obtain⟨m,g⟩:=h;rcases m with⟨a,b,rfl⟩|⟨o,s,b,rfl,n⟩
 ·exact⟨_,_,_,Z,⟨_,_,_,_,_,_,_,_,_,_,_,_,Z,Z,Z,.inl ⟨a,b,Z,Z,Z,Z,Z⟩⟩,g⟩
 obtain⟨G,c,rfl,j,k⟩:=n;exact⟨_,_,_,Z,⟨_,_,_,_,_,_,_,_,_,_,_,_,Z,Z,Z,.inr ⟨o,b,Z,Z,Z,Z,Z,G,c,Z,j,k⟩⟩,g⟩
theorem vL{w:W}{t:bM}{cs:Array I}{u:I}(k:Bk w g t cs)(h:cs[i]? =J u):w.setCell ⟨g,i,Y⟩ u=w:=by
 have e:(w.setCell ⟨g,i,Y⟩ u).heap=w.heap:=by
  apply Array.ext_getElem?;intro j;by_cases b:j=g
  ·subst b;have a:=k.stored i u;have d:cs.setIfInBounds i u=cs:=by
    apply Array.ext_getElem?;intro m;rw[Array.getElem?_setIfInBounds];split
    ·rename_i e;subst e;split
     ·exact h.symm
     rw[Array.getElem?_eq_none M]
    rfl
   rw[d]at a;rw[a,k]
  exact jL w ⟨g,i,Y⟩ u j b
 have c:w.setCell ⟨g,i,Y⟩ u={ w with heap:=(w.setCell ⟨g,i,Y⟩ u).heap }:=Z;rw[c,e]
theorem own_cap{w:W}{sz:Nat}{e:bM}{d:List I}(h:w.ownsRow base e sz (.slice G m c) n d):n<=c:=by
 rcases h.2 with⟨a,j⟩|⟨g,i,f,a,_,_,b,_⟩
 ·omega
 injection a with _ _ a;subst a;exact b
theorem soN{w:W}{b:Nat}{l:List Nat}(h:aX w b (.slice G l.length c) (jm l)):w.ownsRow b 3 1 (.slice G l.length c) l.length (ints (jm l)):=by
 unfold aX at h;rw[tc]at h;exact h
def DoX(a:Acc)(m:List Int)(c1 c2:Array I)(v3:I)(w:W):Prop:=
 ∃g b,(c1=#[af (J ⟨g,0,Y⟩) m.length b]/\c2=#[V H (a.had m),ah (a.ok (a.had m))]/\v3=V H 0)/\aX w 0 (af (J ⟨g,0,Y⟩) m.length b) (a.make m)
theorem Ot{a:Acc}{m:List Int}:∀(c1 c2:Array I) (v3:I) (b w2:W),DoX a m c1 c2 v3 b->(eB 37 b w2\/eB 75 b w2\/D b.heap.size b w2)->DoX a m c1 c2 v3 w2:=by
 rintro c1 c2 v3 b w2 ⟨g,d,e,c⟩ hd;refine⟨g,d,e,?_⟩;rcases hd with h|h|h
 ·exact bY c h zD
 ·exact bY c h zD
 exact aY c h
theorem fg{w:W}{cap:Nat}{zs:List Int}(h:aX w base (.slice G zs.length cap) zs):eT w w.heap.size G zs:=by
 intro d;obtain⟨g,e,a,_,c⟩:=W.ownsRow.form h d;injection a with a _ _;subst a;refine⟨g,0,Z,c,λk r b=>?_⟩;have f:=(aC.1 b).1;rw[ea,ig h k M];simp[ints,b]
def jA(l:Ly)(want:List (List Opr))(who B gt:Nat)(t:cY)(w:W)(e:jK)(w':W):Prop:=
 e=ai (ah (dD l want who t).2)/\kn w' B gt l (dD l want who t).1/\jk B w w'
structure WyH (w0 w:W) (B gt gs gx bw ow S cw m d s0 s1 s2 who:Nat) (T A':Option Addr) (c':Nat) (ops:List Opr) (Gl:Option Addr) (cl:Nat) (Gs:Option Addr) (vd:Nat) (Gg:Option Addr) (cg:Nat) (x:fz) (mv ev cv:I) (t:cY):Prop where
 kx:Bk w gx 46 #[V H x.pos,.slice Gl x.log.length cl,.slice Gs x.steps.length vd,.slice Gg x.gone.length cg,V H x.made]
 k0:Bk w w0.heap.size 26 (cI (J ⟨bw,ow,Y⟩) S cw T m d s0 s1 s2)
 bl:D w0.heap.size w0 w
 cw2:w.cell? ⟨bw,ow+who,Y⟩=J (.slice A' ops.length c')
 bB:bw<B/\B<=w0.heap.size
 gl:gs<gx/\gt<gx/\w0.heap.size<gx
 X:kj w B gt gs (lyW S) mv ev cv t
 op:qU w B A' ops
 lo:jD w 0 (.slice Gl x.log.length cl) x.log
 so:aX w 0 (.slice Gs x.steps.length vd) (jm x.steps)
 go:bI w (.slice Gg x.gone.length cg) x.gone
 ts:jk B w0 w
theorem WyH.aw{w0 w w':W}{B gt gs gx j S d k s u who:Nat}{T A':Option Addr}{e:Nat}{q:List Opr}{Gl:Option Addr}{v:Nat}{c:Option Addr}{f:Option Addr}{o:Nat}{x:fz}{mv ev cv:I}{t:cY}(h:WyH w0 w B gt gs gx i j S g m d k s u who T A' e q Gl v c n f o x mv ev cv t)(a:D w.heap.size w w'):WyH w0 w' B gt gs gx i j S g m d k s u who T A' e q Gl v c n f o x mv ev cv t:=
 have b:B<=w.heap.size:=aF h.bB.2 h.bl.size
 ⟨h.kx.aw a,h.k0.aw a,aE h.bl a,(cX a (aZ h.bB.1 b)).trans h.cw2,h.bB,h.gl,h.X.aw a,h.op.below (a.mono b),aY h.lo a,aY h.so a,h.go.aw a,h.ts.trans (.aT a b)⟩
structure WyK (w0 w:W) (B gt gs gx gA gR:Nat) (cx cA cR:Array I) (vl vs vg:I) (log:Log) (steps:List Nat) (gone:cq) (l:Ly) (mv ev cv:I) (t:cY):Prop where
 kx:Bk w gx 46 cx
 kA:Bk w gA 67 cA
 kR:Bk w gR 75 cR
 X:kj w B gt gs l mv ev cv t
 ts:jk B w0 w
 gl:gs<gx/\gt<gx/\B<=gx/\B<=w.heap.size
 lo:jD w 0 vl log
 so:aX w 0 vs (jm steps)
 go:bI w vg gone
section
variable {w0 w w':W} {B gt gs gx gA gR:Nat} {cx cA cR:Array I} {vl vs vg:I} {log:Log} {steps:List Nat} {gone:cq} {l:Ly} {mv ev cv:I} {t:cY}
theorem WyK.aw(h:WyK w0 w B gt gs gx gA gR cx cA cR vl vs vg log steps gone l mv ev cv t)(a:D w.heap.size w w'):WyK w0 w' B gt gs gx gA gR cx cA cR vl vs vg log steps gone l mv ev cv t:=
 ⟨h.kx.aw a,h.kA.aw a,h.kR.aw a,h.X.aw a,h.ts.trans (.aT a h.gl.2.2.2),⟨h.gl.1,h.gl.2.1,h.gl.2.2.1,aF h.gl.2.2.2 a.size⟩,aY h.lo a,aY h.so a,h.go.aw a⟩
theorem WyK.mU(h:WyK w0 w B gt gs gx gA gR cx cA cR vl vs vg log steps gone l mv ev cv t){a:bM}(d:eB a w w')(m:a=42\/a=46)(o:w.heap.size<=w'.heap.size)(n:jk B w w'){f:Array I}(k:Bk w' gx 46 f){j g i:I}{t':cY}(X:kj w' B gt gs l j g i t'):WyK w0 w' B gt gs gx gA gR f cA cR vl vs vg log steps gone l j g i t':=by
 have b:a≠75/\a≠3/\a≠52/\a≠67:=by rcases m with rfl|rfl<;>decide
 have c:=d.r b.1 b.2.1 b.2.2.1;exact⟨k,h.kA.dy d (λe=>b.2.2.2 e.symm),h.kR.dy d (λe=>b.1 e.symm),X,h.ts.trans n,⟨h.gl.1,h.gl.2.1,h.gl.2.2.1,aF h.gl.2.2.2 o⟩,jZ h.lo c (.inl Z),jZ h.so c (.inr (.inl Z)),h.go.qO c⟩
theorem WyK.setX(h:WyK w0 w B gt gs gx gA gR cx cA cR vl vs vg log steps gone l mv ev cv t)(i:Nat)(u:I):WyK w0 (w.setCell ⟨gx,i,Y⟩ u) B gt gs gx gA gR (cx.setIfInBounds i u) cA cR vl vs vg log steps gone l mv ev cv t:=
 h.mU (bX h.kx i u) (.inr Z) zS (.set h.gl.2.2.1 h.kx (.inr (.inl Z)) i u) (h.kx.stored i u) (h.X.aside h.kx zD zD zD zD zD (Nat.ne_of_lt h.gl.2.1) (Nat.ne_of_lt h.gl.1) u)
theorem WyK.rows(h:WyK w0 w B gt gs gx gA gR cx cA cR vl vs vg log steps gone l mv ev cv t){b a:I}{log':Log}{steps':List Nat}(lo:jD w 0 b log')(c:aX w 0 a (jm steps')):WyK w0 w B gt gs gx gA gR cx cA cR b a vg log' steps' gone l mv ev cv t:=
 ⟨h.kx,h.kA,h.kR,h.X,h.ts,h.gl,lo,c,h.go⟩
end
theorem yk(l:Log):∀v∈gh l,v.oneCell'=O:=by
 intro v b;simp only[gh,List.mem_flatMap]at b;obtain⟨r,_,a⟩:=b;simp at a;rcases a with rfl|rfl<;>rfl
theorem vY(l:Log)(r:Int × Bool):gh (l++[r])=gh l++[V H r.1,.bool r.2]:=by simp[gh]
theorem KJ(l:List Int):∀v∈ints l,v.oneCell'=O:=by
 intro v hv;simp only[ints,List.mem_map]at hv;obtain⟨r,_,rfl⟩:=hv;rfl
theorem ME:∃i,oH ao 43 75 i (.agg #[V H 0,ah X]) 2 16:=oH.of underlying43 Ce zK zD
theorem nB:∃i,oH ao 35 3 i (V H 0) 1 8:=oH.of lI iM zK zD
theorem Lh:(Tryz.prog.info? 56).map (λi=>(i.zero,i.size,i.bytes))=J (J (.agg #[V H 0,V H 0,V H 0,V H 0,V H 0,V H 0,ah X,V H 0,V H 0,V H 0]),10,80):=zK
theorem qu:∃i,oH ao 40 56 i (.agg #[V H 0,V H 0,V H 0,V H 0,V H 0,V H 0,ah X,V H 0,V H 0,V H 0]) 10 80:=oH.of underlying40 Lh zK zD
theorem ev_info:(Tryz.prog.info? 79).map (λi=>(i.zero,i.size,i.bytes))=J (J (.agg #[V H 0,V H 0,V H 0,V H 0,V H 0,V H 0,V H 0,ah X]),8,64):=zK
theorem ev_rowT:∃i,oH ao 39 79 i (.agg #[V H 0,V H 0,V H 0,V H 0,V H 0,V H 0,V H 0,ah X]) 8 64:=oH.of underlying39 ev_info zK zD
def xP(k:Nat):Code->Option Code
 | .seq (.region id ops b) y=>if id=k then J y else xP k y
 | .seq x y=>match xP k x with
  | some c=>J c
  | none=>xP k y
 | _=>Y
def regR(k:Nat):Code->Option Code
 | .seq (.region id ops b) y=>if id=k then J (.region id ops b)else regR k y
 | .seq x y=>match regR k x with
  | some c=>J c
  | none=>regR k y
 | _=>Y
noncomputable def turn26:Code:=((Tryz.f9.body.bind (regR 26)).getD .skip)
noncomputable def BV:Code:=((Tryz.f9.body.bind (xP 26)).getD .skip)
noncomputable def BX:Code:=((Tryz.f9.body.bind (xP 7)).getD .skip)
end
section
open Go.RowKit
attribute [local go_sem ↓] aQ aR
theorem turn_F{y1 y3 y4 y5 y6 y12 y13 y14 y15 y16 y17 y18 y19 y20 y21 y22 y23 y24 y25 y26 y27 y28 y29 y30 y31 y32 y33 y34 y35 y36 y37 y38 y39 y40 y41 y42 y43 y44 y45 y46 y47 y48 y49 y50 y51 y52 y53 y54 y55 y56 y57 y58 y59 y60 y61 y62 y63 y64 y65 y66 y67 y68 y69 y70 y71 y72 y73 y74 y75 y76 y77 y78 y79 y80 y81 y82 y83 y84 y85 y86 y87 y88 y89 y90 y91 y92 y93 y94 y95 y96 y97 y98 y99 Hc Hb Ha G8 G7 G6 GZ GY GX GW GV GU GS GR GQ GP GO GN GM GL GK GJ GI GH GG GF GD GB Gz Gy Gx Gw Gv Gu Gt Gq Gn Gm Gj Gi Gf Ge Gb Ga F9 F8 F7 F6 F5 F4 F3 F2 F1 F0 FZ FY FX FW FV FU FT FR FQ FP FO FN FM FL FJ FI FH FF FE FD FC FB FA Fz Fy Fx Fw Fv Fu Ft Fs Fq Fo Fm Fl Fk Fj Fi Fh Fg Ff Fe Fc Fb Fa E9 E8 E7 E6 E5 E4 E3 E2 E1 E0 EZ EY EW EV EU ET ES ER EP EO EN EM EL EJ EI EH EG EF EE ED EC EB EA Ez Ey Ex Ew Ev Eu Et Es Er Ep Eo En Em El Ek Ej Ei Eh Eg Ee Ed Ec Eb Ea D9 D8 D7 D6 D5 D4 D3 D2 D1 D0 DZ DY DX DW DV DU DT DS DR DQ DP DO DN DM DL DK DJ:I}{S who B n:Nat}{want:List (List Opr)}{t:cY}{x:fz}{ops:List Opr}{op:Opr}{w wH:World}{N P bw ow cw m d s0 s1 s2 c' cl vd cg qk gA gU:Nat}{T A' Gl Gs Gg:Option Addr}{mv ev cv:I}{q1:Sq}(qa:WyH w wH B n N P bw ow S cw m d s0 s1 s2 who T A' c' ops Gl cl Gs vd Gg cg x mv ev cv t)(kO:Bk wH qk 54 (di op))(mD:qk<gA/\qk<gU)(KU:P<qk)(yc:t.aO.length=S)(xg:who<S)(h1:1<=S)(h3:S<=3)(hN:t.events.length+1<=90000)(hC:t.calls.length+1<=90000)(hx:t.aO[who]? =J x)(R:Bq S ops q1 x t.events.length){o:Out}{gG:Option Addr}{gn gc:Nat}(qc:Bk wH gU 70 (bg o.val o.is 0 o.bc (.slice gG gn gc)))(f:bI wH (.slice gG gn gc) o.gone)(CJ:dD (lyW S) want who t=(mG who x op o t,O))(Iz:-(x.steps.length:Int)-2<=o.bc)(hne0:x.log≠[])(hps:x.pos<=3):Code.wp ao BX (bodyPost ao Tryz.f9 (jA (lyW S) want who B n t w)) ⟨#[ae (J ⟨n,0,Y⟩),y1,V H who,y3,y4,y5,y6,ae (J ⟨P,0,Y⟩),ae (J ⟨qk,0,Y⟩),ptr gA,ptr gU,ah O,y12,y13,y14,y15,y16,y17,y18,y19,y20,y21,y22,y23,y24,y25,y26,y27,y28,y29,y30,y31,y32,y33,y34,y35,y36,y37,y38,y39,y40,y41,y42,y43,y44,y45,y46,y47,y48,y49,y50,y51,y52,y53,y54,y55,y56,y57,y58,y59,y60,y61,y62,y63,y64,y65,y66,y67,y68,y69,y70,y71,y72,y73,y74,y75,y76,y77,y78,y79,y80,y81,y82,y83,y84,y85,y86,y87,y88,y89,y90,y91,y92,y93,y94,y95,y96,y97,y98,y99,Hc,Hb,Ha,G8,G7,G6,GZ,GY,GX,GW,GV,GU,GS,GR,GQ,GP,GO,GN,GM,GL,GK,GJ,GI,GH,GG,GF,GD,GB,Gz,Gy,Gx,Gw,Gv,Gu,Gt,Gq,Gn,Gm,Gj,Gi,Gf,Ge,Gb,Ga,F9,F8,F7,F6,F5,F4,F3,F2,F1,F0,FZ,FY,FX,FW,FV,FU,FT,FR,FQ,FP,FO,FN,FM,FL,FJ,FI,FH,FF,FE,FD,FC,FB,FA,Fz,Fy,Fx,Fw,Fv,Fu,Ft,Fs,Fq,Fo,Fm,Fl,Fk,Fj,Fi,Fh,Fg,Ff,Fe,Fc,Fb,Fa,E9,E8,E7,E6,E5,E4,E3,E2,E1,E0,EZ,EY,EW,EV,EU,ET,ES,ER,EP,EO,EN,EM,EL,EJ,EI,EH,EG,EF,EE,ED,EC,EB,EA,Ez,Ey,Ex,Ew,Ev,Eu,Et,Es,Er,Ep,Eo,En,Em,El,Ek,Ej,Ei,Eh,Eg,Ee,Ed,Ec,Eb,Ea,D9,D8,D7,D6,D5,D4,D3,D2,D1,D0,DZ,DY,DX,DW,DV,DU,DT,DS,DR,DQ,DP,DO,DN,DM,DL,DK,DJ],[]⟩ wH:=by
 have HR:=aj R;clear R
 conv=>arg 2;whnf
 have qQ:x.steps.length≠0:=by have:=HR.out.sl;have:x.log.length≠0:=λh=>hne0 (List.eq_nil_of_length_eq_zero h);omega
 have c:x.steps.length<=90000:=by have:=HR.out.sl;have:=HR.out.ll;omega
 obtain⟨gst,cgs,hGs,-,hgs⟩:=World.ownsRow.form qa.so (by rw[tc];omega);injection hGs with hGs e1 e2;clear e1 e2;subst hGs;have L:∀k v,x.steps[k]? =J v->wH.cell? ⟨gst,k,Y⟩=J (V H (v:Nat)):=λk v z=>by
  have fH:=(aC.1 z).1;rw[ig (soN qa.so) k M];simp[ints,jm,z]
 obtain⟨sF,hsF⟩:∃v,x.steps[0]? =J v:=⟨_,aD M⟩;obtain⟨sL,hsL⟩:∃v,x.steps[x.steps.length-1]? =J v:=⟨_,aD M⟩;have hF:x.steps.headD 0=sF:=by cases hl:x.steps with|nil=>rw[hl]at hsF;simp at hsF|cons a r=>rw[hl]at hsF;simpa using hsF
 have CY:x.steps.getLastD 0=sL:=by rw[List.getLastD_eq_getLast?,List.getLast?_eq_getElem?,hsL];rfl
 have uQ:=aj (al L (al hF (al CY hgs)));have kw:IntKind.i64.wrap ((x.steps.length:Int)-1)=((x.steps.length-1:Nat):Int):=by
  have:=dh ((x.steps.length:Int)-1) M;rw[this];omega
 have jn:x.steps≠[]:=λh=>qQ (by rw[h];rfl);have jb:(x.steps.length==0)=X/\decide (x.steps.length=0)=X/\((x.steps.length:Int)==0)=X/\decide ((x.steps.length:Int)=0)=X:=by simp[qQ]
 obtain⟨jb1,jb2,jb3,jb4⟩:=jb;have j5:(0:Int)<x.steps.length:=M;have j6:((x.steps.length-1:Nat):Int)<x.steps.length:=M;have hsF':=L 0 sF hsF;have hsL':=L _ sL hsL;have s:=qa.kx.cell 2;have q:=qc.cell 2;simp at s q;clear L hF CY hgs hsF hsL;have HOO:=aj (al CJ f);clear CJ f;go_upto_region 12 with fail;clear s q;refine aH (S:=λw'=>D wH.drew.heap.size wH.drew w') (E:=λ_=>X) zK ?_;have G:=bD wH;have hsF2:=(cX G uQ.out.2.2.2).trans hsF';have hsL2:=(cX G uQ.out.2.2.2).trans hsL';have hgs2:=aZ uQ.out.2.2.2 G.size;replace qa:=qa.aw G;replace kO:=kO.aw G;replace qc:=qc.aw G;have f:=HOO.out.2.aw G;clear hsF' hsL' G;generalize wH.drew=qe at *;refine wTq 1 [(1,91,.agg (di op))] ?_ bS ?_
 ·intro w' l;have kE:(cL 54 ⟨qk,0,Y⟩).run ao w'= .ok (.agg (di op)) w':=a7 w' qk 54 54 (di op) (0,0) _ (kO.aw l) underlying54 Z zK;exact zL
 refine wTq 17 [(0,90,V H who),(2,92,ae (J ⟨gU,0,Y⟩)),(3,93,V H o.val),(4,94,ae (J ⟨gU,1,Y⟩)),(5,95,.bool o.is),(6,96,ae (J ⟨P,2,Y⟩)),(7,97,af (J ⟨gst,0,Y⟩) x.steps.length vd),(8,98,ae (J ⟨gst,0,Y⟩)),(9,99,V H (sF:Nat)),(10,100,ae (J ⟨P,2,Y⟩)),(11,101,af (J ⟨gst,0,Y⟩) x.steps.length vd),(12,102,ae (J ⟨P,2,Y⟩)),(13,103,af (J ⟨gst,0,Y⟩) x.steps.length vd),(14,104,V H (x.steps.length:Nat)),(15,105,V H (x.steps.length-1:Nat)),(16,106,ae (J ⟨gst,x.steps.length-1,Y⟩)),(17,107,V H (sL:Nat))] ?_ bS ?_
 ·intro w' l;have F:=qa.aw l;have s:=F.kx.cell 2;have k1:=qc.aw l;have q:=k1.cell 0;have c2:=k1.cell 1;have c3:=(cX l hgs2).trans hsF2;have c4:=(cX l hgs2).trans hsL2;simp at s q c2;clear qa F;exact zT
 refine wTq 1 [(18,108,.agg (cB ⟨who,op,o.val,o.is,sF,sL,-1⟩))] ?_ bS ?_
 ·intro w' l
  (repeat' (first|exact bd|refine al ⟨_,Z,.inl ⟨Z,?_⟩⟩ ?_))
  all_goals kernel_rfl
 refine wOq 19 (λK j=>?_);go_simp;have Q:=Bk.made qe 56 #[V H 0,V H 0,V H 0,V H 0,V H 0,V H 0,ah X,V H 0,V H 0,V H 0];have hbD:=bA qe (ag #[V H 0,V H 0,V H 0,V H 0,V H 0,V H 0,ah X,V H 0,V H 0,V H 0] 56);refine j.out _ _ (λ_=>hbD) ?_;clear j K;generalize qe.alloc (ag #[V H 0,V H 0,V H 0,V H 0,V H 0,V H 0,ah X,V H 0,V H 0,V H 0] 56)=wJ at *;obtain⟨gC,hgC⟩:=nM (qe.heap.size);have HGC:=aj hgC;rw[hgC]at Q;refine wOq 20 (λK j=>?_);rw[hgC];refine eC 56 (.tmp 12) (.tmp 108) Z gC _ Z Z 56 #[V H 0,V H 0,V H 0,V H 0,V H 0,V H 0,ah X,V H 0,V H 0,V H 0] Q zK Z (by simp[aB]) ?_;have hbE:D qe.heap.size qe (wJ.setRow gC (cB ⟨who,op,o.val,o.is,sF,sL,-1⟩)):=hbD.trans (eS (Nat.le_of_eq hgC) _);replace Q:Bk (wJ.setRow gC (cB ⟨who,op,o.val,o.is,sF,sL,-1⟩)) gC 56 (cB ⟨who,op,o.val,o.is,sF,sL,-1⟩):=setRow_heap _ _ _ _ _ _ Q;refine j.out _ _ (λ_=>hbE) ?_;clear j K hbD;generalize wJ.setRow gC (cB ⟨who,op,o.val,o.is,sF,sL,-1⟩)=wK at *;(try simp only[Act.put,ak,ay,az]);refine aG zK ?_ _;have hgC1:P<gC/\gU<gC/\n<gC:=by have:=qa.kx.lt;have:=qc.lt;have:=qa.gl;omega
 have L:∀k v,x.steps[k]? =J v->wK.cell? ⟨gst,k,Y⟩=J (V H (v:Nat)):=λk v z=>by
  have fH:=(aC.1 z).1;rw[ig (soN (aY qa.so hbE)) k M];simp[ints,jm,z]
 have HST2:=aj (al L hgs2);have hwI:=qa;have HB0:=aj qc;replace qc:=qc.aw hbE;have s:=(qa.kx.aw hbE).cell 2;have q:=qc.cell 3;have f9:=Q.free 9;have l9:=Q.lt;have qg:=Q.cell 9;simp at s q qg;clear L hsF2 hsL2 hgs2 hgC;have HG9:=aj (al f kO);clear s q f9 l9;have HB1:=aj qc;clear f kO qc qg jn jb1 jb2 jb3 jb4 j5 j6 kw hwI;obtain⟨b,hpt⟩:=nM (o.bc);have HPT:=aj hpt;rw[hpt]at Iz;clear hpt;obtain⟨pA,hpA⟩:∃p:Int,(if 0<=b/\b<x.steps.length then((x.steps.getD b.toNat 0:Nat):Int)else -1)=p:=⟨_,Z⟩;have HPA:=aj hpA;have HHL:=aj (al Iz c);clear hpA Iz c;have HBE:=aj hbE;have HKC:=aj Q;have HH:=aj qa;clear hbE Q qa;dsimp only[Exit.then]
 apply_assumption
 refine wp_seq_k (λK1 hK1=>?_)
 go_cut []from 109 to 126 (λwx=>D qe.heap.size qe wx/\Bk wx gC 56 (cB ⟨who,op,o.val,o.is,sF,sL,pA⟩))
 case first=>
  have F:=HH.out.aw HBE.out;have s:=F.kx.cell 2;have q:=HB1.out.cell 3;have f9:=HKC.out.free 9;have l9:=HKC.out.lt;have qg:=HKC.out.cell 9;simp at s q qg;rw[HPT.out]at q;clear F;by_cases qf:0<=b;rotate_left
  ·have g1:decide (0<=b)=X:=zP;have g:=HPA.out;rw[if_neg M]at g;subst g;go_wp2_with fail
   go_meet
   exact⟨HBE.out,HKC.out⟩
  have g1:decide (0<=b)=O:=zP;by_cases p1:b<x.steps.length
  ·obtain⟨k,rfl⟩:∃k:Nat,b=k:=⟨b.toNat,M⟩;obtain⟨qd,qi⟩:∃v,x.steps[k]? =J v:=⟨_,aD M⟩;have hs:=HST2.out.1 k qd qi;have g2:decide ((k:Int)<x.steps.length)=O:=zP;have g2n:k<x.steps.length:=M;have j1:(0:Int)<=k:=M;have g:=HPA.out;rw[if_pos ⟨qf,p1⟩]at g;simp[qi]at g;subst g;clear qf p1 qi;go_wp2_with fail
   go_meet
   exact⟨HBE.out.setCell (by rw[HGC.out];exact aq _) _,HKC.out.stored 9 _⟩
  have g2:decide (b<x.steps.length)=X:=zP;have g:=HPA.out;rw[if_neg M]at g;subst g;go_wp2_with fail
  go_meet
  exact⟨HBE.out,HKC.out⟩
 obtain⟨hbx,qh⟩:=hcut;have HBX:=aj hbx;have I2:=aj qh;clear HKC HB1 HBE hbx qh
 apply_assumption
 clear hK1 K1;refine wp_seq_k (λK1 hK1=>?_)
 go_cut []from 127 to 150 (λwx=>D qe.heap.size qe wx/\Bk wx gC 56 (cB ⟨who,op,o.val,o.is,sF,sL,eP x.steps b⟩))
 case first=>
  have F:=HH.out.aw HBX.out;have s:=F.kx.cell 2;have q:=(HB0.out.aw HBX.out).cell 3;have f9:=I2.out.free 9;have l9:=I2.out.lt;have qg:=I2.out.cell 9;simp at s q qg;rw[HPT.out]at q;have L:∀k v,x.steps[k]? =J v->wc.cell? ⟨gst,k,Y⟩=J (V H (v:Nat)):=λk v z=>by
   have fH:=(aC.1 z).1;rw[ig (soN F.so) k M];simp[ints,jm,z]
  have HST3:=aj L;clear F L;by_cases p2:b < -1;rotate_left
  ·have g3:decide (b < -1)=X:=zP;have g:eP x.steps b=pA:=by
    rw[<- HPA.out];unfold eP;rw[if_neg M]
   have HPW:=aj g;clear g;go_wp2_with fail
   go_meet
   refine⟨HBX.out,?_⟩;rw[HPW.out];exact I2.out
  have g3:decide (b < -1)=O:=zP;have hll:=HHL.out.1;have c:=HHL.out.2;obtain⟨k,z⟩:∃k:Nat,b= -(k:Int)-2:=⟨(-b-2).toNat,M⟩;have w1:IntKind.i64.wrap (-b)=(k:Int)+2:=by rw[dh _ M];omega
  have w2:IntKind.i64.wrap ((k:Int)+2-2)=k:=by rw[dh _ M];omega
  have w2b:IntKind.i64.wrap (k:Int)=k:=dh _ M;by_cases p3:k<x.steps.length
  ·obtain⟨qd,qi⟩:∃v,x.steps[k]? =J v:=⟨_,aD p3⟩;have hs:=HST3.out k qd qi;have g2:decide ((k:Int)<x.steps.length)=O:=zP;have hsb:qd<90000:=by have:=HR.out.st qd (aU qi);omega
   have w3:IntKind.i64.wrap (-(qd:Int))= -(qd:Int):=dh _ M;have w4:IntKind.i64.wrap (-(qd:Int)-2)= -(qd:Int)-2:=dh _ M;have j1:(0:Int)<=k:=M;have g:eP x.steps b= -(qd:Int)-2:=by
    unfold eP;rw[if_pos M,show (-b-2).toNat=k by omega];simp[qi]
   have HPW:=aj g;clear g hll c z hsb qi;go_wp2_with fail
   go_meet
   refine⟨HBX.out.setCell (by rw[HGC.out];exact aq _) _,?_⟩;rw[HPW.out];exact I2.out.stored 9 _
  have g2:decide ((k:Int)<x.steps.length)=X:=zP;have g:eP x.steps b=pA:=by
   rw[<- HPA.out];unfold eP;rw[if_neg M]
  have HPW:=aj g;clear g hll c z;go_wp2_with fail
  go_meet
  refine⟨HBX.out,?_⟩;rw[HPW.out];exact I2.out
 clear HBX I2;obtain⟨hbx,qh⟩:=hcut;rename_i wc0 wc;have qa:=HH.out.aw hbx;have A:=HB0.out.aw hbx;have f:=HG9.out.1.aw hbx;have qQ:∀k,cv.ownBlock=J k->k<gC:=λk z=>by have:=(World.ownsRow.lt HH.out.X.calls k z).2;have:=HGC.out;omega
 have hBc:B<=wc.heap.size:=aF (aF qa.bB.2 qa.bl.size) (aq _);obtain⟨GC,cC,rfl⟩:=bJ qa.X.calls;clear HH HB0 HG9 hbx;go_upto_region 17 with fail;refine aH (S:=λw'=>eB 56 wc.drew w'/\Bk w' gC 56 (cB ⟨who,op,o.val,o.is,sF,sL,eP x.steps b⟩)) (E:=λi=>i==10) zK ?_;have c:=bD wc;replace qa:=qa.aw c;replace A:=A.aw c;replace f:=f.aw c;replace qh:=qh.aw c;replace hBc:B<=wc.drew.heap.size:=hBc;clear c;generalize wc.drew=C at *;have rz:eB 56 C C/\Bk C gC 56 (cB ⟨who,op,o.val,o.is,sF,sL,eP x.steps b⟩):=⟨λ_ _ _ _ h _=>h,qh⟩;refine wTq 5 [(0,151,ae (J ⟨n,0,Y⟩)),(1,152,ae (J ⟨n,0,Y⟩)),(2,153,ae (J ⟨n,0,Y⟩)),(3,154,ae (J ⟨n,28,Y⟩)),(4,155,.slice GC t.calls.length cC)] ?_ rz ?_
 ·intro w' l;have s:=(qa.X.tab.dy l.1 zD).cell 28;simp at s;clear qa;exact zT
 refine wTq 1 [(5,156,.agg (cB ⟨who,op,o.val,o.is,sF,sL,eP x.steps b⟩))] ?_ rz ?_
 ·intro w' l;have kE:(cL 56 ⟨gC,0,Y⟩).run ao w'= .ok (.agg (cB ⟨who,op,o.val,o.is,sF,sL,eP x.steps b⟩)) w':=a7 w' gC 56 56 (cB ⟨who,op,o.val,o.is,sF,sL,eP x.steps b⟩) (0,0) _ l.2 underlying56 Z zK;exact zL
 refine wOq 6 (λK j=>?_);go_simp;have kN:=Bk.made C 56 (cB ⟨who,op,o.val,o.is,sF,sL,eP x.steps b⟩);have hbQ:=bA C (ag (cB ⟨who,op,o.val,o.is,sF,sL,eP x.steps b⟩) 56);have hSQ:eB 56 C (C.alloc (ag (cB ⟨who,op,o.val,o.is,sF,sL,eP x.steps b⟩) 56))/\Bk (C.alloc (ag (cB ⟨who,op,o.val,o.is,sF,sL,eP x.steps b⟩) 56)) gC 56 (cB ⟨who,op,o.val,o.is,sF,sL,eP x.steps b⟩):=⟨iv hbQ,qh.aw hbQ⟩;refine j.out _ _ (λ_=>hSQ) ?_;clear j K;replace qa:=qa.aw hbQ;replace A:=A.aw hbQ;replace f:=f.aw hbQ;have hBQ:B<=(C.alloc (ag (cB ⟨who,op,o.val,o.is,sF,sL,eP x.steps b⟩) 56)).heap.size:=aF hBc hbQ.size;clear hbQ;generalize C.alloc (ag (cB ⟨who,op,o.val,o.is,sF,sL,eP x.steps b⟩) 56)=wQ at *;generalize C.heap.size=gN at *;(try simp only[Act.put,ak,ay,az]);obtain⟨ri,BD⟩:=qu;refine wOq 7 (λK j=>?_);refine dX BD (.tmp 155) (.tmp 157) Z B (.slice GC t.calls.length cC) t.calls.length (cj t.calls) Z qa.X.calls (J ⟨gN,0,Y⟩) 1 1 _ Z (mK kN Z kN.lt) (by simp[aB]) M M hBQ (λv9 wR pq fT=>?_);have W:=cV qa.X.calls fT;have hSR:eB 56 C wR/\Bk wR gC 56 (cB ⟨who,op,o.val,o.is,sF,sL,eP x.steps b⟩):=⟨hSQ.1.trans W,by
  refine(fT.block gC hSQ.2.lt ?_).trans hSQ.2;intro e;exact absurd (qQ gC e.symm) (Nat.lt_irrefl _)⟩
 refine sO j (λ_=>hSR) ?_;clear j K;refine gI (i:=8) (oi:=_) (v:=ae (J ⟨n,0,Y⟩)) Z zK zK zK (λ_ _ _ h=>h) (jI ⟨by rfl,?_⟩) ?_
 ·intro w' hSw;clear hSw;(try simp only[au,ar,an]);go_simp
 (try simp only[au,ar,an,Act.put,ak,ay,az]);refine gI (i:=9) (oi:=_) (v:=ae (J ⟨n,28,Y⟩)) Z zK zK zK (λ_ _ _ h=>h) (jI ⟨by rfl,?_⟩) ?_
 ·intro w' hSw;clear hSw;(try simp only[au,ar,an]);go_simp
 (try simp only[au,ar,an,Act.put,ak,ay,az]);have Jt:wR.ownsRow B 56 10 v9 (t.calls++[(⟨who,op,o.val,o.is,sF,sL,eP x.steps b⟩:cd)]).length (cj (t.calls++[(⟨who,op,o.val,o.is,sF,sL,eP x.steps b⟩:cd)])):=by
  rw[jz,bE];exact pq
 have XF:=qa.X.grownC fT Jt;have G:D B wQ wR:=bO (D.refl B wQ) qa.X.calls fT hBQ (aq _);have ts2:=(qa.ts.trans (.rZ G W (.inr (.inr (.inr Z))))).trans (.set qa.X.bt (qa.X.tab.dy W zD) (.inl Z) 28 v9);have kt:=qa.X.tab.dy W zD;have yu:=bX kt 28 v9;have qj:=(qa.kx.dy W zD).dy yu zD;replace A:=(A.dy W zD).dy yu zD;replace f:=(f.qO (W.r zD zD zD)).qO (yu.r zD zD zD);have pf:=kt.free 28;have pl:=kt.lt;have qf:=kt.cell 28;simp at qf;have uM:=qa.gl;have hBR:B<=(wR.setCell ⟨n,28,Y⟩ v9).heap.size:=by simp;exact aF hBQ fT.size
 obtain⟨G9,qg,rfl⟩:=bJ pq;have HF9:=aj (al XF (al ts2 (al qj (al A (al f hBR)))));clear XF ts2 qj A f hBR qa pq Jt fT hSR hSQ rz G yu kt W kN qh;(try simp only[Act.put,ak,ay,az]);refine wOq 10 (λK j=>?_);go_simp;refine j.out _ (wR.setCell ⟨n,28,Y⟩ (.slice G9 (t.calls.length+1) qg)) (λh=>absurd h zD) ?_;clear j K pf pl qf;refine aG zK ?_ _;obtain⟨qb,ts,qj,A,f,hBR⟩:=HF9.out;clear HF9;generalize wR.setCell ⟨n,28,Y⟩ (.slice G9 (t.calls.length+1) qg)=wT at *;go_upto_region 18 with fail;obtain⟨cs2,u⟩:=qb.aO;have N5:=u.at_ who x hx;have qf:=(u.row.cell (who*5)).trans N5.at_;obtain⟨_,_,e1,_⟩:=N5.log;have p1:=(u.row.cell (who*5+1)).trans e1;obtain⟨_,_,e2,_⟩:=N5.steps;have p2:=(u.row.cell (who*5+2)).trans e2;obtain⟨_,e3,_⟩:=N5.gone;have p3:=(u.row.cell (who*5+3)).trans e3;have p4:=(u.row.cell (who*5+4)).trans N5.made;have pf:=λi=>u.row.free i;have pl:=u.row.lt;have su:x.pos<=90000:=M;refine aH (S:=λw'=>D wT.drew.heap.size wT.drew w') (E:=λi=>i==14) zK ?_;have c:=bD wT;replace qb:=qb.aw c;have ts9:=ts.trans (.aT c hBR);replace qj:=qj.aw c;replace A:=A.aw c;replace f:=f.aw c;replace pl:=aZ pl c.size;replace qf:wT.drew.cell? ⟨N,who*5,Y⟩=J (V H x.pos):=qf;replace p1:=(cX c u.row.lt).trans p1;replace p2:=(cX c u.row.lt).trans p2;replace p3:=(cX c u.row.lt).trans p3;replace p4:=(cX c u.row.lt).trans p4;replace pf:=λi=>(u.row.aw c).free i;clear c ts u N5;generalize wT.drew=wU at *;obtain⟨gn2,hgn⟩:=nM (gn);have kw:IntKind.i64.wrap ((x.pos:Int)+1)=((x.pos+1:Nat):Int):=by rw[dh _ M];omega
 have j2:(who:Int)<S:=M;have KN:=qb.tab.cell 26;rw[yc]at KN;refine wTq 13 [(0,161,ae (J ⟨n,0,Y⟩)),(1,162,ae (J ⟨n,0,Y⟩)),(2,163,ae (J ⟨n,26,Y⟩)),(3,164,af (J ⟨N,0,Y⟩) S S),(4,165,V H who),(5,166,ae (J ⟨P,0,Y⟩)),(6,167,V H x.pos),(7,168,V H ((x.pos+1:Nat):Int)),(8,169,ae (J ⟨gU,4,Y⟩)),(9,170,.slice gG gn gc),(10,171,ae (J ⟨P,4,Y⟩)),(11,172,V H x.made),(12,173,.agg #[V H ((x.pos+1:Nat):Int),af Y 0 0,af Y 0 0,.slice gG gn gc,V H x.made])] ?_ bS ?_
 ·intro w' l;have F:=qb.aw l;have s:=(qj.aw l).cell 0;have q:=(qj.aw l).cell 4;have c2:=(A.aw l).cell 4;have c3:=(cX l qb.tab.lt).trans KN;simp at s q c2 c3;clear qb F qf p1 p2 p3 p4;exact zT
 refine gI (i:=13) (oi:=_) (v:=ae (J ⟨N,who*5,Y⟩)) Z zK zK zK (λ_ _ _ h=>h) (jI ⟨by rfl,?_⟩) ?_
 ·intro w' hSw;clear hSw;(try simp only[au,ar,an]);go_simp
 (try simp only[au,ar,an,Act.put,ak,ay,az]);have XF:=qb.Mn (who:=who) (by rw[yc];exact xg) (y:=⟨x.pos+1,[],[],o.gone,x.made⟩) (v0:=V H ((x.pos+1:Nat):Int)) (v1:=af Y 0 0) (v2:=af Y 0 0) (v3:=.slice gG gn2 gc) (v4:=V H x.made) Z ⟨Y,0,Z,bW _ _ _ _⟩ ⟨Y,0,Z,bW _ _ _ _⟩ (by rw[<- hgn];exact f) Z;obtain⟨cs3,sj⟩:=qb.aO;have ts3:=ts9.trans (.rZ ((((((D.refl B wU).setCell (p:=⟨N,who*5,Y⟩) qb.bs (V H ((x.pos+1:Nat):Int))).setCell (p:=⟨N,who*5+1,Y⟩) qb.bs (af Y 0 0)).setCell (p:=⟨N,who*5+2,Y⟩) qb.bs (af Y 0 0)).setCell (p:=⟨N,who*5+3,Y⟩) qb.bs (.slice gG gn2 gc)).setCell (p:=⟨N,who*5+4,Y⟩) qb.bs (V H x.made)) (lF sj.row who _ _ _ _ _) (.inr (.inl Z)));have HF:=aj (al XF ts3);clear XF ts3 sj ts9 qj A f KN qb;subst hgn;refine wOq 14 (λK j=>?_);go_simp;refine j.out _ _ (λh=>absurd h zD) ?_;clear j K qf p1 p2 p3 p4 pf pl;refine aG zK ?_ _;go_wp2_with fail;go_ret;unfold jA;rw[HOO.out.1];have ie:mG who x op o t={ t with aO:=t.aO.set who ⟨x.pos+1,[],[],o.gone,x.made⟩,calls:=t.calls++[(⟨who,op,o.val,o.is,sF,sL,eP x.steps b⟩:cd)] }:=by
  unfold mG;rw[uQ.out.2.1,uQ.out.2.2.1,HPT.out]
 rw[ie];exact⟨Z,⟨N,mv,_,_,HF.out.1⟩,HF.out.2⟩
theorem turn_C{y1 y3 y4 y5 y6 y8 y10 y11 y12 y13 y14 y15 y19 y20 y21 y22 y23 y24 y25 y26 y27 y28 y29 y30 y31 y32 y33 y34 y35 y36 y37 y38 y39 y40 y41 y42 y43 y44 y45 y46 y47 y48 y49 y50 y51 y52 y53 y54 y55 y56 y57 y58 y59 y60 y61 y62 y63 y64 y65 y66 y67 y68 y69 y70 y71 y72 y73 y74 y75 y76 y77 y78 y79 y80 y81 y82 y83 y84 y85 y86 y87 y88 y89 y90 y91 y92 y93 y94 y95 y96 y97 y98 y99 Hc Hb Ha G8 G7 G6 GZ GY GX GW GV GU GS GR GQ GP GO GN GM GL GK GJ GI GH GG GF GD GB Gz Gy Gx Gw Gv Gu Gt Gq Gn Gm Gj Gi Gf Ge Gb Ga F9 F8 F7 F6 F5 F4 F3 F2 F1 F0 FZ FY FX FW FV FU FT FR FQ FP FO FN FM FL FJ FI FH FF FE FD FC FB FA Fz Fy Fx Fw Fv Fu Ft Fs Fq Fo Fm Fl Fk Fj Fi Fh Fg Ff Fe Fc Fb Fa E9 E8 E7 E6 E5 E4 E3 E2 E1 E0 EZ EY EW EV EU ET ES ER EP EO EN EM EL EJ EI EH EG EF EE ED EC EB EA Ez Ey Ex Ew Ev Eu Et Es Er Ep Eo En Em El Ek Ej Ei Eh Eg Ee Ed Ec Eb Ea D9 D8 D7 D6 D5 D4 D3 D2 D1 D0 DZ DY DX DW DV DU DT DS DR DQ DP DO DN DM DL DK DJ:I}{S who B c:Nat}{want:List (List Opr)}{t:cY}{x:fz}{ops:List Opr}{w wH:World}{gs k gA gM qg cl vd A G qd:Nat}{Gl W z:Option Addr}{mv ev cv:I}{q1:Sq}{a:LAc}{g j d f had:Int}{b:Bool}{mm:List Int}(C:WyK w wH B c gs k gA qg #[aa H x.pos,.slice Gl x.log.length cl,.slice W x.steps.length vd,.slice z x.gone.length A,aa H x.made] (bj g j d f) #[aa H had,.bool b] (.slice Gl x.log.length cl) (.slice W x.steps.length vd) (.slice z x.gone.length A) x.log x.steps x.gone (lyW S) mv ev cv t)(kM:Bk wH gM 37 #[af (J ⟨G,0,Y⟩) t.m.length qd])(ho6:aX wH 0 (af (J ⟨G,0,Y⟩) t.m.length qd) mm)(Jy:mm.length=t.m.length)(hres:(⟨g,j,d,f⟩:Acc).had t.m=had/\(⟨g,j,d,f⟩:Acc).ok ((⟨g,j,d,f⟩:Acc).had t.m)=b/\(⟨g,j,d,f⟩:Acc).make t.m=mm)(CJ:dD (lyW S) want who t=(jj (lyW S) who x a t,false))(hacc:mx (lyW S) a=⟨g,j,d,f⟩)(yc:t.aO.length=S)(xg:who<S)(hN:t.events.length+1<=90000)(hx:t.aO[who]? =J x)(R:Bq S ops q1 x t.events.length):Code.wp ao BV (bodyPost ao Tryz.f9 (jA (lyW S) want who B c t w)) ⟨#[ae (J ⟨c,0,Y⟩),y1,aa H who,y3,y4,y5,y6,ae (J ⟨k,0,Y⟩),y8,ptr gA,y10,y11,y12,y13,y14,y15,ptr gM,ptr qg,aa H 0,y19,y20,y21,y22,y23,y24,y25,y26,y27,y28,y29,y30,y31,y32,y33,y34,y35,y36,y37,y38,y39,y40,y41,y42,y43,y44,y45,y46,y47,y48,y49,y50,y51,y52,y53,y54,y55,y56,y57,y58,y59,y60,y61,y62,y63,y64,y65,y66,y67,y68,y69,y70,y71,y72,y73,y74,y75,y76,y77,y78,y79,y80,y81,y82,y83,y84,y85,y86,y87,y88,y89,y90,y91,y92,y93,y94,y95,y96,y97,y98,y99,Hc,Hb,Ha,G8,G7,G6,GZ,GY,GX,GW,GV,GU,GS,GR,GQ,GP,GO,GN,GM,GL,GK,GJ,GI,GH,GG,GF,GD,GB,Gz,Gy,Gx,Gw,Gv,Gu,Gt,Gq,Gn,Gm,Gj,Gi,Gf,Ge,Gb,Ga,F9,F8,F7,F6,F5,F4,F3,F2,F1,F0,FZ,FY,FX,FW,FV,FU,FT,FR,FQ,FP,FO,FN,FM,FL,FJ,FI,FH,FF,FE,FD,FC,FB,FA,Fz,Fy,Fx,Fw,Fv,Fu,Ft,Fs,Fq,Fo,Fm,Fl,Fk,Fj,Fi,Fh,Fg,Ff,Fe,Fc,Fb,Fa,E9,E8,E7,E6,E5,E4,E3,E2,E1,E0,EZ,EY,EW,EV,EU,ET,ES,ER,EP,EO,EN,EM,EL,EJ,EI,EH,EG,EF,EE,ED,EC,EB,EA,Ez,Ey,Ex,Ew,Ev,Eu,Et,Es,Er,Ep,Eo,En,Em,El,Ek,Ej,Ei,Eh,Eg,Ee,Ed,Ec,Eb,Ea,D9,D8,D7,D6,D5,D4,D3,D2,D1,D0,DZ,DY,DX,DW,DV,DU,DT,DS,DR,DQ,DP,DO,DN,DM,DL,DK,DJ],[]⟩ wH:=by
 have HR:=aj R
 conv=>arg 2;whnf
 have qe:=aj (al hres (al CJ hacc));have ho7:aX wH 0 (af (J ⟨G,0,Y⟩) mm.length qd) mm:=by rw[Jy];exact ho6
 have q0:=kM.cell 0;have qh:=C.X.tab.cell 25;have pf:=C.X.tab.free 25;have pl:=C.X.tab.lt;simp at q0 qh;have X7:=C.X.setMem ho7;have hk7:=bX C.X.tab 25 (af (J ⟨G,0,Y⟩) mm.length qd);have K7:=C.mU hk7 (.inl Z) zS (.set C.X.bt C.X.tab (.inl Z) 25 _) (C.kx.dy hk7 zD) X7;rw[Jy]at K7;have HK7:=aj K7;go_upto_region 31 with fail;show Code.wp ao _ _ _ (wH.setCell ⟨c,25,Y⟩ (af (J ⟨G,0,Y⟩) t.m.length qd));have qa:=HK7.out;generalize wH.setCell ⟨c,25,Y⟩ (af (J ⟨G,0,Y⟩) t.m.length qd)=wI at *;generalize I.slice (J ⟨G,0,Y⟩) t.m.length qd=mv7 at *;refine aH (S:=λw'=>D wI.drew.heap.size wI.drew w') (E:=λi=>i==8) zK ?_;replace qa:=qa.aw (bZ (D.refl _ wI));generalize wI.drew=wJ at *;obtain⟨ri,U⟩:=ME;have hll:x.log.length<=90000:=by have:=HR.out.ll;omega
 have sX:x.steps.length<=90000:=by have:=HR.out.sl;omega
 refine wTq 3 [(1,239,ae (J ⟨k,1,Y⟩)),(2,240,.slice Gl x.log.length cl),(4,242,.agg #[aa H had,.bool b])] ?_ bS ?_
 ·intro w' l;have L:=qa.aw l;have c0:=L.kx.cell 1;have Q:=L.kR.cell 0;have c2:=L.kR.cell 1;simp at c0 Q c2;exact zT
 refine um U 0 3 5 6 238 241 243 244 (.tmp 240) (.tmp 242) Z Z Z Z ⟨Z,Z,Z⟩ ⟨Z,Z,Z⟩ ⟨Z,Z,Z⟩ ⟨Z,Z,Z⟩ zK zK zK zK zK zK zS ⟨of_decide_eq_true zK,of_decide_eq_true zK,of_decide_eq_true zK⟩ wJ.heap.size (aq _) bS (λw1 w2 h12 h1=>h1.trans h12) Gl x.log.length cl (gh x.log) Z (Src.own qa.lo (aq _)) (yk x.log) (.agg #[aa H had,.bool b]) #[aa H had,.bool b] Z (λw=>by kernel_rfl) Z (by simp[aB]) M M ?_;intro vA vB vC vD wK qf N8 hS9;(try simp only[Act.put,ak,ay,az]);obtain⟨q,o,rfl⟩:=bJ qf;refine wTq 1 [(7,245,ae (J ⟨k,1,Y⟩))] ?_ hS9 ?_
 ·intro w' l;exact zT
 have hlog9:jD wK 0 (.slice q (x.log.length+1) o) (x.log++[(had,b)]):=by
  unfold jD;rw[vY,bE];exact dt qf (aN _)
 replace qa:=qa.aw N8;have O:=qa.kx.cell 1;have xf:=qa.kx.free 1;have xl:=qa.kx.lt;simp at O;have F:=(qa.rows (steps':=x.steps) hlog9 qa.so).setX 1 (.slice q (x.log.length+1) o);have qc:=aj F;refine wOq 8 (λK u=>?_);go_simp;refine u.out _ (wK.setCell ⟨k,1,Y⟩ (.slice q (x.log.length+1) o)) (λh=>absurd h zD) ?_;refine aG zK ?_ _;have qa:=qc.out;generalize wK.setCell ⟨k,1,Y⟩ (.slice q (x.log.length+1) o)=wL at *;go_upto_region 32 with fail;refine aH (S:=λw'=>D wL.drew.heap.size wL.drew w') (E:=λi=>i==12) zK ?_;replace qa:=qa.aw (bZ (D.refl _ wL));generalize wL.drew=wM at *;obtain⟨GE,cE,rfl⟩:=bJ qa.X.ev;obtain⟨ri,U⟩:=nB;refine wTq 7 [(1,247,ae (J ⟨k,2,Y⟩)),(2,248,.slice W x.steps.length vd),(4,250,ae (J ⟨c,0,Y⟩)),(5,251,ae (J ⟨c,0,Y⟩)),(6,252,ae (J ⟨c,27,Y⟩)),(7,253,.slice GE t.events.length cE),(8,254,aa H (t.events.length:Nat))] ?_ bS ?_
 ·intro w' l;have L:=qa.aw l;have c0:=L.kx.cell 2;have Q:=L.X.tab.cell 27;simp at c0 Q;exact zT
 refine um U 0 3 9 10 246 249 255 256 (.tmp 248) (.tmp 254) Z Z Z Z ⟨Z,Z,Z⟩ ⟨Z,Z,Z⟩ ⟨Z,Z,Z⟩ ⟨Z,Z,Z⟩ zK zK zK zK zK zK zS ⟨of_decide_eq_true zK,of_decide_eq_true zK,of_decide_eq_true zK⟩ wM.heap.size (aq _) bS (λw1 w2 h12 h1=>h1.trans h12) W x.steps.length vd (ints (jm x.steps)) Z (Src.own (soN qa.so) (aq _)) (KJ _) (aa H (t.events.length:Nat)) #[aa H (t.events.length:Nat)] Z (λw=>by kernel_rfl) Z (by simp[aB]) M M ?_;intro vA vB vC vD wN qf N8 hS9;(try simp only[Act.put,ak,ay,az]);obtain⟨s,n,rfl⟩:=bJ qf;refine wTq 1 [(11,257,ae (J ⟨k,2,Y⟩))] ?_ hS9 ?_
 ·intro w' l;exact zT
 have hst9:aX wN 0 (.slice s (x.steps.length+1) n) (jm (x.steps++[t.events.length])):=by
  have e:jm (x.steps++[t.events.length])=jm x.steps++[(t.events.length:Int)]:=by simp[jm]
  unfold aX;rw[e,bE,tc,show ints (jm x.steps++[(t.events.length:Int)])=ints (jm x.steps)++[aa H (t.events.length:Nat)]by simp[ints]];exact dt qf (aN _)
 replace qa:=qa.aw N8;have O:=qa.kx.cell 2;have xf:=qa.kx.free 2;have xl:=qa.kx.lt;simp at O;have F:=(qa.rows (log':=x.log++[(had,b)]) qa.lo hst9).setX 2 (.slice s (x.steps.length+1) n);have qc:=aj F;refine wOq 12 (λK u=>?_);go_simp;refine u.out _ (wN.setCell ⟨k,2,Y⟩ (.slice s (x.steps.length+1) n)) (λh=>absurd h zD) ?_;refine aG zK ?_ _;have qa:=qc.out;generalize wN.setCell ⟨k,2,Y⟩ (.slice s (x.steps.length+1) n)=wO at *;have O:=qa.kx.cell 4;have xf:=qa.kx.free 4;have xl:=qa.kx.lt;simp at O;have kw:IntKind.i64.wrap ((x.made:Int)+1)=((x.made+1:Nat):Int):=by have:=HR.out.md;rw[dh _ M];omega
 have F:=qa.setX 4 (aa H ((x.made+1:Nat):Int));have qc:=aj F;go_upto_region 34 with fail;show Code.wp ao _ _ _ (wO.setCell ⟨k,4,Y⟩ (aa H ((x.made+1:Nat):Int)));have qa:=qc.out;generalize wO.setCell ⟨k,4,Y⟩ (aa H ((x.made+1:Nat):Int))=wP at *;refine aH (S:=λw'=>D wP.drew.heap.size wP.drew w') (E:=λi=>i==7) zK ?_;replace qa:=qa.aw (bZ (D.refl _ wP));generalize wP.drew=wQ at *;have NV:Bk wQ k 46 #[aa H x.pos,.slice q (x.log.length+1) o,.slice s (x.steps.length+1) n,.slice z x.gone.length A,aa H ((x.made+1:Nat):Int)]:=qa.kx;obtain⟨cs2,qb⟩:=qa.X.aO;have N:=qb.at_ who x hx;have qh:=(qb.row.cell (who*5)).trans N.at_;obtain⟨_,_,e1,_⟩:=N.log;have p1:=(qb.row.cell (who*5+1)).trans e1;obtain⟨_,_,e2,_⟩:=N.steps;have p2:=(qb.row.cell (who*5+2)).trans e2;obtain⟨_,e3,_⟩:=N.gone;have p3:=(qb.row.cell (who*5+3)).trans e3;have p4:=(qb.row.cell (who*5+4)).trans N.made;have pf:=λi=>qb.row.free i;have pl:=qb.row.lt;have X:=qb.row;have j2:(who:Int)<S:=M;have KN:=qa.X.tab.cell 26;have hSl2:({ t with m:=mm }:cY).aO.length=S:=yc;rw[hSl2]at KN;refine wTq 5 [(0,262,ae (J ⟨c,0,Y⟩)),(1,263,ae (J ⟨c,0,Y⟩)),(2,264,ae (J ⟨c,26,Y⟩)),(3,265,af (J ⟨gs,0,Y⟩) S S),(4,266,aa H who)] ?_ bS ?_
 ·intro w' l;have c3:=(cX l qa.X.tab.lt).trans KN;simp at c3;exact zT
 refine wTq 1 [(5,267,.agg #[aa H x.pos,.slice q (x.log.length+1) o,.slice s (x.steps.length+1) n,.slice z x.gone.length A,aa H ((x.made+1:Nat):Int)])] ?_ bS ?_
 ·intro w' l;have P:(cL 46 ⟨k,0,Y⟩).run ao w'= .ok (.agg #[aa H x.pos,.slice q (x.log.length+1) o,.slice s (x.steps.length+1) n,.slice z x.gone.length A,aa H ((x.made+1:Nat):Int)]) w':=a7 w' k 46 46 #[aa H x.pos,.slice q (x.log.length+1) o,.slice s (x.steps.length+1) n,.slice z x.gone.length A,aa H ((x.made+1:Nat):Int)] (0,0) _ (NV.aw l) underlying46 Z zK
  (repeat' (first|exact bd|refine al ⟨_,Z,.inl ⟨Z,?_⟩⟩ ?_))
  all_goals exact list.dp Z Z P
 refine gI (i:=6) (oi:=_) (v:=ae (J ⟨gs,who*5,Y⟩)) Z zK zK zK (λ_ _ _ h=>h) (jI ⟨by rfl,?_⟩) ?_
 ·intro w' hSw;(try simp only[au,ar,an]);go_simp
 (try simp only[au,ar,an,Act.put,ak,ay,az]);have XF:=qa.X.Mn (who:=who) (by rw[hSl2];exact xg) (y:={ x with log:=x.log++[(had,b)],steps:=x.steps++[t.events.length],made:=x.made+1 }) (v0:=aa H x.pos) (v1:=.slice q (x.log.length+1) o) (v2:=.slice s (x.steps.length+1) n) (v3:=.slice z x.gone.length A) (v4:=aa H ((x.made+1:Nat):Int)) Z ⟨q,o,zS,qa.lo⟩ ⟨s,n,zS,qa.so⟩ qa.go Z;have V:k≠gs:=Nat.ne_of_gt qa.gl.1;have hkS:=lF X who (aa H x.pos) (.slice q (x.log.length+1) o) (.slice s (x.steps.length+1) n) (.slice z x.gone.length A) (aa H ((x.made+1:Nat):Int));have F:=qa.mU hkS (.inr Z) zS (.rZ ((((((D.refl B wQ).setCell (p:=⟨gs,who*5,Y⟩) qa.X.bs (aa H x.pos)).setCell (p:=⟨gs,who*5+1,Y⟩) qa.X.bs (.slice q (x.log.length+1) o)).setCell (p:=⟨gs,who*5+2,Y⟩) qa.X.bs (.slice s (x.steps.length+1) n)).setCell (p:=⟨gs,who*5+3,Y⟩) qa.X.bs (.slice z x.gone.length A)).setCell (p:=⟨gs,who*5+4,Y⟩) qa.X.bs (aa H ((x.made+1:Nat):Int))) hkS (.inr (.inl Z))) (((((NV.other (p:=⟨gs,who*5,Y⟩) V _).other (p:=⟨gs,who*5+1,Y⟩) V _).other (p:=⟨gs,who*5+2,Y⟩) V _).other (p:=⟨gs,who*5+3,Y⟩) V _).other (p:=⟨gs,who*5+4,Y⟩) V _) XF;have qc:=aj F;refine wOq 7 (λK u=>?_);go_simp;refine u.out _ (ni wQ gs who (aa H x.pos) (.slice q (x.log.length+1) o) (.slice s (x.steps.length+1) n) (.slice z x.gone.length A) (aa H ((x.made+1:Nat):Int))) (λh=>absurd h zD) ?_;refine aG zK ?_ _;have qa:=qc.out;generalize ni wQ gs who (aa H x.pos) (.slice q (x.log.length+1) o) (.slice s (x.steps.length+1) n) (.slice z x.gone.length A) (aa H ((x.made+1:Nat):Int))=wR at *;go_upto_region 35 with fail;refine aH (S:=λw'=>eB 79 wR.drew w') (E:=λi=>i==14) zK ?_;replace qa:=qa.aw (bZ (D.refl _ wR));generalize wR.drew=wS at *;have rz:eB 79 wS wS:=λ_ _ _ _ h _=>h;refine wTq 7 [(0,269,ae (J ⟨c,0,Y⟩)),(1,270,ae (J ⟨c,0,Y⟩)),(2,271,ae (J ⟨c,0,Y⟩)),(3,272,ae (J ⟨c,27,Y⟩)),(4,273,.slice GE t.events.length cE),(5,274,aa H who),(6,275,aa H who)] ?_ rz ?_
 ·intro w' l;have Q:=(qa.X.tab.dy l zD).cell 27;simp at Q;exact zT
 refine wTq 1 [(7,276,.agg (bj g j d f))] ?_ rz ?_
 ·intro w' l;have P:(cL 67 ⟨gA,0,Y⟩).run ao w'= .ok (.agg (bj g j d f)) w':=a7 w' gA 67 67 (bj g j d f) (0,0) _ (qa.kA.dy l zD) cF Z zK
  (repeat' (first|exact bd|refine al ⟨_,Z,.inl ⟨Z,?_⟩⟩ ?_))
  all_goals exact list.dp Z Z P
 refine wTq 1 [(8,277,.agg #[aa H had,.bool b])] ?_ rz ?_
 ·intro w' l;have P:(cL 75 ⟨qg,0,Y⟩).run ao w'= .ok (.agg #[aa H had,.bool b]) w':=a7 w' qg 75 75 #[aa H had,.bool b] (0,0) _ (qa.kR.dy l zD) underlying75 Z zK
  (repeat' (first|exact bd|refine al ⟨_,Z,.inl ⟨Z,?_⟩⟩ ?_))
  all_goals exact list.dp Z Z P
 refine wTq 1 [(9,278,.agg (evC (⟨who,⟨g,j,d,f⟩,(had,b)⟩:EvW)))] ?_ rz ?_
 ·intro w' l
  (repeat' (first|exact bd|refine al ⟨_,Z,.inl ⟨Z,?_⟩⟩ ?_))
  all_goals kernel_rfl
 refine wOq 10 (λK u=>?_);go_simp;have kN:=Bk.made wS 79 (evC (⟨who,⟨g,j,d,f⟩,(had,b)⟩:EvW));have hbQ:=bA wS (ag (evC (⟨who,⟨g,j,d,f⟩,(had,b)⟩:EvW)) 79);have hSQ:eB 79 wS (wS.alloc (ag (evC (⟨who,⟨g,j,d,f⟩,(had,b)⟩:EvW)) 79)):=iv hbQ;refine u.out _ _ (λ_=>hSQ) ?_;replace qa:=qa.aw hbQ;generalize wS.alloc (ag (evC (⟨who,⟨g,j,d,f⟩,(had,b)⟩:EvW)) 79)=wT at *;generalize wS.heap.size=gN at *;(try simp only[Act.put,ak,ay,az]);obtain⟨ri,U⟩:=ev_rowT;refine wOq 11 (λK u=>?_);refine dX U (.tmp 273) (.tmp 279) Z B (.slice GE t.events.length cE) t.events.length (mP t.events) Z qa.X.ev (J ⟨gN,0,Y⟩) 1 1 _ Z (mK kN Z kN.lt) (by simp[aB]) M M qa.gl.2.2.2 (λv9 wU X fT=>?_);have hkC:=cV qa.X.ev fT;refine sO u (λ_=>hSQ.trans hkC) ?_;refine gI (i:=12) (oi:=_) (v:=ae (J ⟨c,0,Y⟩)) Z zK zK zK (λ_ _ _ h=>h) (jI ⟨by rfl,?_⟩) ?_
 ·intro w' hSw;(try simp only[au,ar,an]);go_simp
 (try simp only[au,ar,an,Act.put,ak,ay,az]);refine gI (i:=13) (oi:=_) (v:=ae (J ⟨c,27,Y⟩)) Z zK zK zK (λ_ _ _ h=>h) (jI ⟨by rfl,?_⟩) ?_
 ·intro w' hSw;(try simp only[au,ar,an]);go_simp
 (try simp only[au,ar,an,Act.put,ak,ay,az]);have Jt:wU.ownsRow B 79 8 v9 (t.events++[(⟨who,⟨g,j,d,f⟩,(had,b)⟩:EvW)]).length (mP (t.events++[(⟨who,⟨g,j,d,f⟩,(had,b)⟩:EvW)])):=by
  rw[A8,bE];exact X
 have XF:=qa.X.grownE fT Jt;have hbg:D B wT wU:=bO (D.refl B wT) qa.X.ev fT qa.gl.2.2.2 (aq _);have ts2:=(qa.ts.trans (.rZ hbg hkC (.inr (.inr (.inl Z))))).trans (.set qa.X.bt (qa.X.tab.dy hkC zD) (.inl Z) 27 v9);have kt:=qa.X.tab.dy hkC zD;have pf:=kt.free 27;have pl:=kt.lt;have qh:=kt.cell 27;simp at qh;obtain⟨G9,c9,rfl⟩:=bJ X;have HF:=aj (al XF ts2);refine wOq 14 (λK u=>?_);go_simp;refine u.out _ (wU.setCell ⟨c,27,Y⟩ (.slice G9 (t.events.length+1) c9)) (λh=>absurd h zD) ?_;refine aG zK ?_ _;go_wp2_with fail;go_ret;unfold jA;rw[qe.out.2.1];have ie:jj (lyW S) who x a t={ m:=mm,aO:=t.aO.set who { x with log:=x.log++[(had,b)],steps:=x.steps++[t.events.length],made:=x.made+1 },events:=t.events++[(⟨who,⟨g,j,d,f⟩,(had,b)⟩:EvW)],calls:=t.calls }:=by
  unfold jj Ax;rw[qe.out.2.2,qe.out.1.1,qe.out.1.2.2,<- qe.out.1.2.1,qe.out.1.1]
 rw[ie];exact⟨Z,⟨gs,_,_,cv,HF.out.1⟩,HF.out.2⟩
theorem turn_B{y1 y3 y4 y5 y6 y12 y13 y14 y15 y16 y17 y18 y19 y20 y21 y22 y23 y24 y25 y26 y27 y28 y29 y30 y31 y32 y33 y34 y35 y36 y37 y38 y39 y40 y41 y42 y43 y44 y45 y46 y47 y48 y49 y50 y51 y52 y53 y54 y55 y56 y57 y58 y59 y60 y61 y62 y63 y64 y65 y66 y67 y68 y69 y70 y71 y72 y73 y74 y75 y76 y77 y78 y79 y80 y81 y82 y83 y84 y85 y86 y87 y88 y89 y90 y91 y92 y93 y94 y95 y96 y97 y98 y99 Hc Hb Ha G8 G7 G6 GZ GY GX GW GV GU GS GR GQ GP GO GN GM GL GK GJ GI GH GG GF GD GB Gz Gy Gx Gw Gv Gu Gt Gq Gn Gm Gj Gi Gf Ge Gb Ga F9 F8 F7 F6 F5 F4 F3 F2 F1 F0 FZ FY FX FW FV FU FT FR FQ FP FO FN FM FL FJ FI FH FF FE FD FC FB FA Fz Fy Fx Fw Fv Fu Ft Fs Fq Fo Fm Fl Fk Fj Fi Fh Fg Ff Fe Fc Fb Fa E9 E8 E7 E6 E5 E4 E3 E2 E1 E0 EZ EY EW EV EU ET ES ER EP EO EN EM EL EJ EI EH EG EF EE ED EC EB EA Ez Ey Ex Ew Ev Eu Et Es Er Ep Eo En Em El Ek Ej Ei Eh Eg Ee Ed Ec Eb Ea D9 D8 D7 D6 D5 D4 D3 D2 D1 D0 DZ DY DX DW DV DU DT DS DR DQ DP DO DN DM DL DK DJ:I}{S who B qa:Nat}{want:List (List Opr)}{t:cY}{x:fz}{ops:List Opr}{w wH:World}{gs gx bw ow cw m d s0 s1 s2 c' cl vd cg gO Q gU:Nat}{T A' Gl Gs Gg:Option Addr}{mv ev cv:I}{q1:Sq}(H:WyH w wH B qa gs gx bw ow S cw m d s0 s1 s2 who T A' c' ops Gl cl Gs vd Gg cg x mv ev cv t)(X:gO<Q/\gO<gU)(KU:gx<gO)(yc:t.aO.length=S)(xg:who<S)(h1:1<=S)(h3:S<=3)(hN:t.events.length+1<=90000)(hC:t.calls.length+1<=90000)(hx:t.aO[who]? =J x)(R:Bq S ops q1 x t.events.length){a:LAc}{k l f g:Int}{K:Act->World->Prop}(O:Bk wH Q 67 (bj k l f g))(CJ:dD (lyW S) want who t=(jj (lyW S) who x a t,false))(hacc:mx (lyW S) a=⟨k,l,f,g⟩)(A1:(⟨k,l,f,g⟩:Acc).err t.m.length=0)(hml:t.m.length<=1000000)(b:∀a w2,Code.wp ao BV (bodyPost ao Tryz.f9 (jA (lyW S) want who B qa t w)) a w2->K a w2):Code.wp ao turn26 (Exit.then K (bodyPost ao Tryz.f9 (jA (lyW S) want who B qa t w))) ⟨#[ae (J ⟨qa,0,Y⟩),y1,aa ab who,y3,y4,y5,y6,ae (J ⟨gx,0,Y⟩),ae (J ⟨gO,0,Y⟩),ptr Q,ptr gU,ah false,y12,y13,y14,y15,y16,y17,y18,y19,y20,y21,y22,y23,y24,y25,y26,y27,y28,y29,y30,y31,y32,y33,y34,y35,y36,y37,y38,y39,y40,y41,y42,y43,y44,y45,y46,y47,y48,y49,y50,y51,y52,y53,y54,y55,y56,y57,y58,y59,y60,y61,y62,y63,y64,y65,y66,y67,y68,y69,y70,y71,y72,y73,y74,y75,y76,y77,y78,y79,y80,y81,y82,y83,y84,y85,y86,y87,y88,y89,y90,y91,y92,y93,y94,y95,y96,y97,y98,y99,Hc,Hb,Ha,G8,G7,G6,GZ,GY,GX,GW,GV,GU,GS,GR,GQ,GP,GO,GN,GM,GL,GK,GJ,GI,GH,GG,GF,GD,GB,Gz,Gy,Gx,Gw,Gv,Gu,Gt,Gq,Gn,Gm,Gj,Gi,Gf,Ge,Gb,Ga,F9,F8,F7,F6,F5,F4,F3,F2,F1,F0,FZ,FY,FX,FW,FV,FU,FT,FR,FQ,FP,FO,FN,FM,FL,FJ,FI,FH,FF,FE,FD,FC,FB,FA,Fz,Fy,Fx,Fw,Fv,Fu,Ft,Fs,Fq,Fo,Fm,Fl,Fk,Fj,Fi,Fh,Fg,Ff,Fe,Fc,Fb,Fa,E9,E8,E7,E6,E5,E4,E3,E2,E1,E0,EZ,EY,EW,EV,EU,ET,ES,ER,EP,EO,EN,EM,EL,EJ,EI,EH,EG,EF,EE,ED,EC,EB,EA,Ez,Ey,Ex,Ew,Ev,Eu,Et,Es,Er,Ep,Eo,En,Em,El,Ek,Ej,Ei,Eh,Eg,Ee,Ed,Ec,Eb,Ea,D9,D8,D7,D6,D5,D4,D3,D2,D1,D0,DZ,DY,DX,DW,DV,DU,DT,DS,DR,DQ,DP,DO,DN,DM,DL,DK,DJ],[]⟩ wH:=by
 have HR:=aj R
 conv=>arg 2;whnf
 conv at b=>enter [a,w,1,2];whnf
 have LT:=aj (uY h1 h3);have HOO:=aj (al CJ (al hacc A1));have HML:=aj hml;have HKK:=aj b;obtain⟨gm,cm,rfl,-⟩:=H.X.mem;refine aH (S:=λw'=>Below wH.drew.heap.size wH.drew w') (E:=λ_=>false) zK ?_;replace H:=H.aw (bZ (Below.refl _ wH));replace O:=O.drew;generalize wH.drew=wM at *;refine wTq 3 [(0,220,ae (J ⟨qa,0,Y⟩)),(1,221,ae (J ⟨qa,0,Y⟩)),(2,222,ae (J ⟨qa,25,Y⟩))] ?_ bS ?_
 ·intro w' hS;exact zT
 refine wTq 1 [(3,223,.agg #[af (J ⟨gm,0,Y⟩) t.m.length cm])] ?_ bS ?_
 ·intro w' hS;have c0:=((H.aw hS).X.tab.cell 25).trans (show _=J (I.slice (J ⟨gm,0,Y⟩) t.m.length cm)from Z);exact zT
 refine wTq 1 [(4,224,.agg (bj k l f g))] ?_ bS ?_
 ·intro w' hS;have kE:(cL 67 ⟨Q,0,Y⟩).run ao w'= .ok (.agg (bj k l f g)) w':=a7 w' Q 67 67 (bj k l f g) (0,0) _ (O.aw hS) cF Z zK;exact zL
 refine jR (U:=[5,6,7,8,9,10,11,12,13,14]) (tmp:=Ad) (pre:=c3P 5) (T:=λw'=>Below wM.heap.size wM w') (N:=λ_ _=>True) (G:=c3G 5 wM.heap.size 37 75) (R:=c3R 5 wM.heap.size 37 75 #[af Y 0 0] #[aa ab 0,ah false] (DoX ⟨k,l,f,g⟩ t.m)) zK (λ_ _=>Z) (λw2 h=>h) bS (λi hi w3 w4 h1 h2=>xL h1 h2) (λ_ _=>trivial) (λ_ _ _ _ _ _ _ _ _ _=>trivial)
  (λi hi j hj yw nf v u w3 w4 L hvi AV hp hr hg=>xM zD Ot yw hvi AV hr hg) (λi hi o ho nf w3 K BB L _ n b=>?_) 0 (λnf wN q L=>?_)
 ·simp only[aL,be,or_false]at hi;rcases hi with rfl|rfl|rfl|rfl|rfl|rfl|rfl|rfl|rfl|rfl
  ·obtain rfl:=aP ho;simp only[show c3P 5 5=[]from Z,ba]at b ⊢;go_simp;obtain⟨g7,c7,e7,hm7⟩:=(H.aw L).X.mem;refine(do_ok (J ⟨gm,0,Y⟩) cm t.m ⟨k,l,f,g⟩ _ (MP hm7 Z) HML.out HOO.out.2.2).mono ?_;rintro e w6 ⟨g6,c6,rfl,V,hb⟩;exact b _ _ ⟨_,_,_,rfl,g6,c6,⟨rfl,rfl,rfl⟩,dt V (aN _)⟩ hb
  ·obtain rfl:=aP ho;obtain⟨v0,e0,z,y,s,rfl,W⟩:=n 5 (by simp[c3P]);simp only[show c3P 5 6=[5]from Z,ba,e0,Ad]at b ⊢;go_simp;exact b _ _ ⟨z,y,s,Z,by simp only[upd];exact e0⟩ bS
  ·obtain rfl:=aP ho;obtain⟨v1,qb,z,y,s,rfl,e0⟩:=n 6 (by simp[c3P]);simp only[show c3P 5 7=[6]from Z,ba,qb,Ad]at b ⊢;go_simp;exact b _ _ ⟨z,y,s,by simp only[upd];exact e0,Z⟩ bS
  ·obtain rfl:=aP ho;obtain⟨v1,qb,z,y,s,rfl,e0⟩:=n 6 (by simp[c3P]);simp only[show c3P 5 8=[6]from Z,ba,qb,Ad]at b ⊢;go_simp;exact b _ _ ⟨z,y,s,by simp only[upd];exact e0,Z⟩ bS
  ·obtain rfl:=aP ho;obtain⟨v1,qb,z,y,s,rfl,e0⟩:=n 6 (by simp[c3P]);simp only[show c3P 5 9=[6]from Z,ba,qb,Ad]at b ⊢;go_simp;exact b _ _ ⟨z,y,s,by simp only[upd];exact e0,Z⟩ bS
  ·obtain rfl:=aP ho;simp only[show c3P 5 10=[]from Z,ba]at b ⊢;go_simp;exact b _ _ ⟨_,Z,L.size,λ_=>Bk.made _ _ _⟩ (aA bS _)
  ·obtain rfl:=aP ho;simp only[show c3P 5 11=[]from Z,ba]at b ⊢;go_simp;exact b _ _ ⟨_,Z,L.size,λ_=>Bk.made _ _ _⟩ (aA bS _)
  ·obtain rfl:=aP ho;obtain⟨v0,e0,z,y,s,rfl,W⟩:=n 5 (by simp[c3P]);obtain⟨v2,P,F,D,C,c,rfl⟩:=n 7 (by simp[c3P]);rw[e0]at c;obtain⟨rfl,rfl,rfl⟩:=dr c;obtain⟨v5,A,qd,rfl,X,k5⟩:=n 10 (by simp[c3P]);have M:=k5 BB;obtain⟨g6,c6,⟨rfl,rfl,rfl⟩,V⟩:=W;simp only[show c3P 5 12=[5,7,10]from Z,ba,e0,P,A,Ad]at b ⊢;(try simp only[au,ar,an]);refine eC 37 (.tmp 16) (.tmp 226) Z qd _ Z Z 37 #[af Y 0 0] M zK Z (by simp[aB]) ?_;exact b undef _ ⟨qd,_,_,_,by simp only[upd];exact e0,by simp only[upd];exact A,X,setRow_heap _ _ _ _ _ _ M⟩ ⟨gX M,eS X _⟩
  ·obtain rfl:=aP ho;obtain⟨v0,e0,z,y,s,rfl,W⟩:=n 5 (by simp[c3P]);obtain⟨v2,P,F,D,C,c,rfl⟩:=n 8 (by simp[c3P]);rw[e0]at c;obtain⟨rfl,rfl,rfl⟩:=dr c;obtain⟨v5,A,qd,rfl,X,k5⟩:=n 11 (by simp[c3P]);have M:=k5 BB;obtain⟨g6,c6,⟨rfl,rfl,rfl⟩,V⟩:=W;simp only[show c3P 5 13=[5,8,11]from Z,ba,e0,P,A,Ad]at b ⊢;(try simp only[au,ar,an]);refine eC 75 (.tmp 17) (.tmp 227) Z qd _ Z Z 75 #[aa ab 0,ah false] M zK Z (by simp[aB]) ?_;exact b undef _ ⟨qd,_,_,_,by simp only[upd];exact e0,by simp only[upd];exact A,X,setRow_heap _ _ _ _ _ _ M⟩ ⟨gX M,eS X _⟩
  obtain rfl:=aP ho;obtain⟨v4,e4,F,D,C,e4',rfl⟩:=n 9 (by simp[c3P]);simp only[show c3P 5 14=[9]from Z,ba,e4,Ad]at b ⊢;go_simp;exact b _ _ ⟨_,_,_,by simp only[upd];exact e4',Z⟩ bS
 obtain⟨v0,e0,z,y,s,rfl,W⟩:=q 5 zS;obtain⟨v1,qb,F,D,C,rfl,LQ⟩:=q 6 zS;rw[e0]at LQ;obtain⟨rfl,rfl,rfl⟩:=dr LQ;obtain⟨v2,P,F,D,C,c,rfl⟩:=q 7 zS;rw[e0]at c;obtain⟨rfl,rfl,rfl⟩:=dr c;obtain⟨v3,e3,F,D,C,c,rfl⟩:=q 8 zS;rw[e0]at c;obtain⟨rfl,rfl,rfl⟩:=dr c;obtain⟨v4,e4,F,D,C,c,rfl⟩:=q 9 zS;rw[e0]at c;obtain⟨rfl,rfl,rfl⟩:=dr c;obtain⟨v5,A,JB,rfl,hga0,-⟩:=q 10 zS;obtain⟨v6,e6,LP,rfl,hga1,-⟩:=q 11 zS;obtain⟨v7,e7,gb0,F,D,C,c,qc,-,kb0⟩:=q 12 zS;rw[e0]at c;obtain⟨rfl,rfl,rfl⟩:=dr c;rw[A]at qc;obtain rfl:=mM qc;obtain⟨v8,e8,gb1,F,D,C,c,qc,-,kb1⟩:=q 13 zS;rw[e0]at c;obtain⟨rfl,rfl,rfl⟩:=dr c;rw[e6]at qc;obtain rfl:=mM qc;obtain⟨v9,e9,F,D,C,c,rfl⟩:=q 14 zS;rw[e0]at c;obtain⟨rfl,rfl,rfl⟩:=dr c;refine aG (by simp only[dj,e0,qb,P,e3,e4,A,e6,e7,e8,e9,cZ,if_true];kernel_rfl) ?_ _;simp only[ba,e0,qb,P,e3,e4,A,e6,e7,e8,e9,Ad];(try simp only[Act.put,ak,ay,az,eM]);obtain⟨g6,c6,⟨rfl,rfl,rfl⟩,V⟩:=W;obtain⟨had,NX⟩:=nM ((⟨k,l,f,g⟩:Acc).had t.m);obtain⟨gok,hgok⟩:=nM ((⟨k,l,f,g⟩:Acc).ok ((⟨k,l,f,g⟩:Acc).had t.m));obtain⟨mm,Jx⟩:=nM ((⟨k,l,f,g⟩:Acc).make t.m);have Jy:mm.length=t.m.length:=by rw[<- Jx,Acc.kC]
 rw[hgok]at kb1 ⊢;rw[NX]at kb1 ⊢;rw[Jx]at V;have HRES:=aj (al NX (al hgok Jx));replace H:=H.aw L;replace O:=O.aw L;have hnR:LP<wN.heap.size:=kb1.lt;have uM:=H.gl;have KK:WyK w wN B qa gs gx Q LP _ _ _ (.slice Gl x.log.length cl) (.slice Gs x.steps.length vd) (.slice Gg x.gone.length cg) x.log x.steps x.gone (lyW S) _ ev cv t:=⟨H.kx,O,kb1,H.X,H.ts,⟨uM.1,uM.2.1,by have:=H.bB;omega,aF H.bB.2 H.bl.size⟩,H.lo,H.so,H.go⟩;have b:=HKK.out;dsimp only[Exit.then];exact b _ _ (turn_C KK kb0 V Jy HRES.out HOO.out.1 HOO.out.2.1 yc xg hN hx HR.out)
theorem turn_A{y1 y3 y4 y5 y6 y12 y13 y14 y15 y16 y17 y18 y19 y20 y21 y22 y23 y24 y25 y26 y27 y28 y29 y30 y31 y32 y33 y34 y35 y36 y37 y38 y39 y40 y41 y42 y43 y44 y45 y46 y47 y48 y49 y50 y51 y52 y53 y54 y55 y56 y57 y58 y59 y60 y61 y62 y63 y64 y65 y66 y67 y68 y69 y70 y71 y72 y73 y74 y75 y76 y77 y78 y79 y80 y81 y82 y83 y84 y85 y86 y87 y88 y89 y90 y91 y92 y93 y94 y95 y96 y97 y98 y99 Hc Hb Ha G8 G7 G6 GZ GY GX GW GV GU GS GR GQ GP GO GN GM GL GK GJ GI GH GG GF GD GB Gz Gy Gx Gw Gv Gu Gt Gq Gn Gm Gj Gi Gf Ge Gb Ga F9 F8 F7 F6 F5 F4 F3 F2 F1 F0 FZ FY FX FW FV FU FT FR FQ FP FO FN FM FL FJ FI FH FF FE FD FC FB FA Fz Fy Fx Fw Fv Fu Ft Fs Fq Fo Fm Fl Fk Fj Fi Fh Fg Ff Fe Fc Fb Fa E9 E8 E7 E6 E5 E4 E3 E2 E1 E0 EZ EY EW EV EU ET ES ER EP EO EN EM EL EJ EI EH EG EF EE ED EC EB EA Ez Ey Ex Ew Ev Eu Et Es Er Ep Eo En Em El Ek Ej Ei Eh Eg Ee Ed Ec Eb Ea D9 D8 D7 D6 D5 D4 D3 D2 D1 D0 DZ DY DX DW DV DU DT DS DR DQ DP DO DN DM DL DK DJ:I}{S who B b:Nat}{want:List (List Opr)}{t:cY}{x:fz}{ops:List Opr}{op:Opr}{w wH:World}{gs gx bw ow cw m d s0 s1 s2 c' cl vd cg F X gU:Nat}{T A' Gl Gs Gg:Option Addr}{mv ev cv:I}{q1:Sq}(H:WyH w wH B b gs gx bw ow S cw m d s0 s1 s2 who T A' c' ops Gl cl Gs vd Gg cg x mv ev cv t)(kO:Bk wH F 54 (di op))(mD:F<X/\F<gU)(KU:gx<F)(yc:t.aO.length=S)(xg:who<S)(q:1<=S)(s:S<=3)(hN:t.events.length+1<=90000)(hC:t.calls.length+1<=90000)(hx:t.aO[who]? =J x)(R:Bq S ops q1 x t.events.length){sm:Sm}{g:Gh}{a:LAc}(c:Bk wH X 67 (bj a.k (adr (lyW S) a.c) a.o a.v))(CJ:dD (lyW S) want who t=(jj (lyW S) who x a t,false))(qd:J3 S t g a)(G0:_root_.Go.Proofs.YtikdaeddbkopeaaGreatR.Gl sm g)(R0:Bt S t.events.length t.m sm):Code.wp ao BX (bodyPost ao Tryz.f9 (jA (lyW S) want who B b t w)) ⟨#[ae (J ⟨b,0,Y⟩),y1,V ab who,y3,y4,y5,y6,ae (J ⟨gx,0,Y⟩),ae (J ⟨F,0,Y⟩),ptr X,ptr gU,ah false,y12,y13,y14,y15,y16,y17,y18,y19,y20,y21,y22,y23,y24,y25,y26,y27,y28,y29,y30,y31,y32,y33,y34,y35,y36,y37,y38,y39,y40,y41,y42,y43,y44,y45,y46,y47,y48,y49,y50,y51,y52,y53,y54,y55,y56,y57,y58,y59,y60,y61,y62,y63,y64,y65,y66,y67,y68,y69,y70,y71,y72,y73,y74,y75,y76,y77,y78,y79,y80,y81,y82,y83,y84,y85,y86,y87,y88,y89,y90,y91,y92,y93,y94,y95,y96,y97,y98,y99,Hc,Hb,Ha,G8,G7,G6,GZ,GY,GX,GW,GV,GU,GS,GR,GQ,GP,GO,GN,GM,GL,GK,GJ,GI,GH,GG,GF,GD,GB,Gz,Gy,Gx,Gw,Gv,Gu,Gt,Gq,Gn,Gm,Gj,Gi,Gf,Ge,Gb,Ga,F9,F8,F7,F6,F5,F4,F3,F2,F1,F0,FZ,FY,FX,FW,FV,FU,FT,FR,FQ,FP,FO,FN,FM,FL,FJ,FI,FH,FF,FE,FD,FC,FB,FA,Fz,Fy,Fx,Fw,Fv,Fu,Ft,Fs,Fq,Fo,Fm,Fl,Fk,Fj,Fi,Fh,Fg,Ff,Fe,Fc,Fb,Fa,E9,E8,E7,E6,E5,E4,E3,E2,E1,E0,EZ,EY,EW,EV,EU,ET,ES,ER,EP,EO,EN,EM,EL,EJ,EI,EH,EG,EF,EE,ED,EC,EB,EA,Ez,Ey,Ex,Ew,Ev,Eu,Et,Es,Er,Ep,Eo,En,Em,El,Ek,Ej,Ei,Eh,Eg,Ee,Ed,Ec,Eb,Ea,D9,D8,D7,D6,D5,D4,D3,D2,D1,D0,DZ,DY,DX,DW,DV,DU,DT,DS,DR,DQ,DP,DO,DN,DM,DL,DK,DJ],[]⟩ wH:=by
 have HR:=N R;clear R
 conv=>arg 2;whnf
 have LT:=N (uY q s);obtain⟨qk,hqk⟩:=nM (a.k);obtain⟨l,qc⟩:=nM (adr (lyW S) a.c);obtain⟨qo,P⟩:=nM (a.o);obtain⟨qv,qh⟩:=nM (a.v);have qg:mx (lyW S) a=⟨qk,l,qo,qv⟩:=by unfold mx;rw[hqk,qc,P,qh]
 rw[hqk,qc,P,qh]at c;have A:∀n,n∈g.fl->¬(nodeAt (lyW S) n 0<=l/\l<nodeAt (lyW S) n 0+7):=λn z=>by rw[<- qc];exact M6 G0 q s qd.lv qd.lo z
 have A1:(⟨qk,l,qo,qv⟩:Acc).err t.m.length=0:=by rw[<- qg];exact qd.err
 have L:=N (al CJ (al qg (al A A1)));have LK:=N (list_ok G0 R0 q s);have hml:t.m.length<=1000000:=by rw[R0.len];omega
 have HML:=N hml;have hk40:=LK.out.ln;clear CJ qg hqk qc P qh A A1 qd kO hml;obtain⟨W,cm,rfl,-⟩:=H.X.mem;go_upto_region 20 with fail;refine aH (S:=λw'=>D wH.drew.heap.size wH.drew w') (E:=λ_=>false) zK ?_;replace H:=H.aw (bZ (D.refl _ wH));replace c:=c.drew;generalize wH.drew=wI at *;refine wTq 6 [(0,175,ae (J ⟨b,0,Y⟩)),(1,176,ae (J ⟨b,0,Y⟩)),(2,177,ae (J ⟨b,0,Y⟩)),(4,179,ae (J ⟨b,0,Y⟩)),(5,180,ae (J ⟨b,0,Y⟩)),(6,181,ae (J ⟨b,25,Y⟩))] ?_ bS ?_
 ·intro w' j;exact zT
 refine wTq 1 [(3,178,lyV (lyW S))] ?_ bS ?_
 ·intro w' j;have kE:(cL 34 ⟨b,0,Y⟩).run ao w'= .ok (lyV (lyW S)) w':=de w' b 0 34 (lyC (lyW S)) _ (H.aw j).X.lay aK Z zK;exact zL
 refine wTq 1 [(7,182,.agg #[af (J ⟨W,0,Y⟩) t.m.length cm])] ?_ bS ?_
 ·intro w' j;have c0:=((H.aw j).X.tab.cell 25).trans (show _=J (I.slice (J ⟨W,0,Y⟩) t.m.length cm)from Z);clear H;exact zT
 refine wOq 8 (λK qa=>?_);go_simp;refine(Nm (lyW S) (J ⟨W,0,Y⟩) cm t.m.length t.m g.fl wI LT.out.f (by rw[(Cv q s).2.2.2.2.2.2.2.2];unfold cfW;dsimp only;decide) (by obtain⟨_,_,e,ho⟩:=H.X.mem;exact fg ho) Z LK.out.fr LK.out.nd LK.out.idx LK.out.ch LK.out.in_ LK.out.nod (by have:=LK.out.ln;omega)).mono ?_;rintro e wJ ⟨FG,fd,rfl,C,G⟩;refine qa.out _ _ (λ_=>G) ?_;clear qa K;replace H:=H.aw G;replace c:=c.aw G;(try simp only[Act.put,ak,ay,az]);refine wTq 1 [(9,13,.slice FG g.fl.length fd)] ?_ G ?_
 ·intro w' j;exact zT
 refine aG zK ?_ _;clear G;go_wp2_with fail;go_loopw [14] (λQ wr=>∃k:Nat,k<=g.fl.length/\Q=V ab (k:Nat)/\D wJ.heap.size wJ wr) (λQ _=>g.fl.length-(intOf Q).toNat)
 case atStart=>exact⟨0,aN _,Z,bS⟩
 obtain⟨k,hk,rfl,f⟩:=hrel;by_cases qR:k<g.fl.length;rotate_left
 ·obtain rfl:k=g.fl.length:=zO;replace H:=H.aw f;replace c:=c.aw f;clear f C;go_upto_region 26 with fail;exact turn_B H mD KU yc xg q s hN hC hx HR.out c L.out.1 L.out.2.1 L.out.2.2.2 HML.out (λa w2 h=>by apply_assumption;exact h)
 obtain⟨n,z⟩:∃n,g.fl[k]? =J n:=⟨_,aD qR⟩;have yv:=LK.out.in_ n (aU z);have hin40:1<=n/\n<=40:=yv;have KR:=L.out.2.2.1 n (aU z);obtain⟨o,sY⟩:=nM (nodeAt (lyW S) n 0);have A:=AI (i:=0) q s hin40 zD;rw[sY]at A KR;have kw:IntKind.i64.wrap (o+7)=o+7:=dh _ zO;have HNW:=N (al sY (al A KR));obtain⟨qe,cfb,O,-,qf⟩:=World.ownsRow.form C zO;injection O with O e1 e2;clear e1 e2;subst O;have hfn:wJ.cell? ⟨qe,k,Y⟩=J (V ab n):=by
  rw[ig C k zO];simp[ints,z]
 have g3:decide ((k:Int)<g.fl.length)=true:=zP;have j3:(k:Int)<g.fl.length:=zO;have Hr:=H.aw f;have kbr:=c.aw f;have M:=(cX f qf).trans hfn;have qb:=aZ qf f.size;have HHK:=N (al H (al c C));clear H c C hfn qf KR A z yv;go_upto_region 24 with fail;refine aH (S:=λw'=>D wr.drew.heap.size wr.drew w') (E:=λ_=>false) zK ?_;have y:=bD wr;replace H:=Hr.aw y;replace c:=kbr.aw y;replace M:=(cX y qb).trans M;replace qb:=aZ qb y.size;replace f:=aE f y;clear y Hr kbr;generalize wr.drew=ws at *;refine wTq 7 [(0,190,ae (J ⟨b,0,Y⟩)),(1,191,ae (J ⟨b,0,Y⟩)),(2,192,ae (J ⟨b,0,Y⟩)),(4,194,af (J ⟨qe,0,Y⟩) g.fl.length fd),(5,195,V ab (k:Nat)),(6,196,ae (J ⟨qe,k,Y⟩)),(7,197,V ab n)] ?_ bS ?_
 ·intro w' j;have c0:=(cX j qb).trans M;clear H;exact zT
 refine wTq 1 [(3,193,lyV (lyW S))] ?_ bS ?_
 ·intro w' j;have kE:(cL 34 ⟨b,0,Y⟩).run ao w'= .ok (lyV (lyW S)) w':=de w' b 0 34 (lyC (lyW S)) _ (H.aw j).X.lay aK Z zK;exact zL
 refine wOq 8 (λK qa=>?_);go_simp;refine(dE (lyW S) n 0 _ LT.out.f zO).mono ?_;rintro e wt ⟨rfl,v⟩;rw[sY];refine sO qa (λ_=>v) ?_;clear qa K;refine wTq 1 [(9,15,V ab o)] ?_ v ?_
 ·intro w' j;exact zT
 refine aG zK ?_ _;replace H:=H.aw v;replace c:=c.aw v;replace f:=aE f v;clear v M qb;have c29:=H.X.tab.cell 29;have f29:=H.X.tab.free 29;have lT:=H.X.tab.lt;have c1:=c.cell 1;simp at c29 c1;have zH:=vL H.X.tab (i:=29) (u:=ah false) Z;have HR2:=N f;clear H c f;by_cases hle:o<=l
 ·have b1:decide (o<=l)=true:=zP;have b2:decide (l<o+7)=false:=by have:=HNW.out.2.2;simp;omega
  go_wp2_with fail;refine⟨⟨k+1,zO,by go_num,HR2.out⟩,by simp[intOf];omega⟩
 have b1:decide (o<=l)=false:=zP;go_wp2_with fail;refine⟨⟨k+1,zO,by go_num,HR2.out⟩,by simp[intOf];omega⟩
theorem nR{S who B F:Nat}{want:List (List Opr)}{t:cY}{sm:Sm}{g:Gh}{q:Nat->Sq}(qc:mY S want t sm g q)(hN:t.events.length+1<=90000)(hC:t.calls.length+1<=90000)(xg:who<S)(A T:Option Addr)(n m d qb C z:Nat)(w:W)(hT:kn w B F (lyW S) t)(hBW:B<=w.heap.size)(hW:lj w B A want):
  Calls ao 9 #[ae (J ⟨F,0,Y⟩),.agg (cI A S n T m d qb C z),aa H who] w (jA (lyW S) want who B F t w):=by
 obtain⟨x,M,O,ho⟩:=qc.lt xg;obtain⟨gs,mv,ev,cv,qg⟩:=hT;have h1:=qc.wk.S1.1;have h3:=qc.wk.S1.2;have yc:t.aO.length=S:=qc.sl;have R:=qc.sr who x M O ho;have qB:=qc.H7 O ho;obtain⟨k,l,rfl,rJ,hwc⟩:=hW (by rw[qc.wk.wl];omega);obtain⟨A',c',DH,Iu⟩:=hwc who M ho;have yB:D w.heap.size w (w.alloc (ag (cI (J ⟨k,l,Y⟩) S n T m d qb C z) 26)):=bA w _;have k0:=Bk.made w 26 (cI (J ⟨k,l,Y⟩) S n T m d qb C z);replace qg:=qg.aw yB;have ts0:jk B w (w.alloc (ag (cI (J ⟨k,l,Y⟩) S n T m d qb C z) 26)):=.aT yB hBW;rw[<- cX yB zO]at DH;replace Iu:=Iu.below (yB.mono hBW);obtain⟨cs,hss⟩:=qg.aO;have XS:=hss.at_ who x O;have kS:=hss.row;obtain⟨Gl,cl,hlc,uD⟩:=XS.log;obtain⟨Gs,vd,hsc,KO⟩:=XS.steps;obtain⟨gv,hgc,Gg,cg,rfl,hgn,uM⟩:=XS.gone;have hgo:bI (w.alloc (ag (cI (J ⟨k,l,Y⟩) S n T m d qb C z) 26)) (.slice Gg x.gone.length cg) x.gone:=⟨Gg,cg,Z,hgn,uM⟩;have c0:(w.alloc (ag (cI (J ⟨k,l,Y⟩) S n T m d qb C z) 26)).cell? ⟨gs,who*5,Y⟩=J (aa H x.pos):=by rw[kS.cell];exact XS.at_
 have c1:(w.alloc (ag (cI (J ⟨k,l,Y⟩) S n T m d qb C z) 26)).cell? ⟨gs,who*5+1,Y⟩=J (.slice Gl x.log.length cl):=by rw[kS.cell];exact hlc
 have c2:(w.alloc (ag (cI (J ⟨k,l,Y⟩) S n T m d qb C z) 26)).cell? ⟨gs,who*5+2,Y⟩=J (.slice Gs x.steps.length vd):=by rw[kS.cell];exact hsc
 have c3:(w.alloc (ag (cI (J ⟨k,l,Y⟩) S n T m d qb C z) 26)).cell? ⟨gs,who*5+3,Y⟩=J (.slice Gg x.gone.length cg):=by rw[kS.cell];exact hgc
 have c4:(w.alloc (ag (cI (J ⟨k,l,Y⟩) S n T m d qb C z) 26)).cell? ⟨gs,who*5+4,Y⟩=J (aa H x.made):=by rw[kS.cell];exact XS.made
 have c5:(w.alloc (ag (cI (J ⟨k,l,Y⟩) S n T m d qb C z) 26)).cell? ⟨F,26,Y⟩=J (af (J ⟨gs,0,Y⟩) S S):=by rw[qg.tab.cell,yc];rfl
 have c6:(w.alloc (ag (cI (J ⟨k,l,Y⟩) S n T m d qb C z) 26)).cell? ⟨w.heap.size,0,Y⟩=J (af (J ⟨k,l,Y⟩) S n):=by rw[k0.cell];rfl
 have j0:decide ((who:Int)<0)=X:=zS;have j1:decide ((S:Int)<=who)=X:=zP;have j2:(who:Int)<S:=zO;have lT:=qg.tab.lt;have rI:(w.alloc (ag (cI (J ⟨k,l,Y⟩) S n T m d qb C z) 26)).heap.size=w.heap.size+1:=zS;have gtlt:F<w.heap.size:=by
  have:=lT;simp at this;rcases Nat.lt_or_ge F w.heap.size with h|h
  ·exact h
  exfalso;have e:F=w.heap.size:=zO;subst e;have:=qg.tab;rw[Bk,k0]at this;injection this with this;injection this with _ e _;revert e;decide
 have HX:=aj qg;have HOPS:=aj Iu;have HLO:=aj uD;have HSO:=aj KO;have HGO:=aj hgo;have HTS:=aj ts0;go_enter func9,ntmps9;go_upto_region 4 with fail;generalize w.alloc (ag (cI (J ⟨k,l,Y⟩) S n T m d qb C z) 26)=wA at *;have hAx:D wA.heap.size wA (wA.alloc (ag #[aa H x.pos,.slice Gl x.log.length cl,.slice Gs x.steps.length vd,.slice Gg x.gone.length cg,aa H x.made] 46)):=aA bS _;have gxlt:gs<wA.heap.size/\F<wA.heap.size:=by
  obtain⟨cs2,hss⟩:=HX.out.aO;exact⟨hss.row.lt,HX.out.tab.lt⟩
 obtain⟨gx,hgx⟩:=nM (w.heap.size+1);rw[rI]at gxlt;have qa:WyH w (wA.alloc (ag #[aa H x.pos,.slice Gl x.log.length cl,.slice Gs x.steps.length vd,.slice Gg x.gone.length cg,aa H x.made] 46)) B F gs gx k l S n m d qb C z who T A' c' M Gl cl Gs vd Gg cg x mv ev cv t:=
  ⟨by rw[<- hgx];exact Bk.new wA rI 46 #[aa H x.pos,.slice Gl x.log.length cl,.slice Gs x.steps.length vd,.slice Gg x.gone.length cg,aa H x.made],k0.alloc _,aA yB _,(cX hAx (aZ rJ (aF hBW yB.size))).trans DH,⟨rJ,hBW⟩,zO,HX.out.aw hAx,HOPS.out.below (hAx.mono (aF hBW yB.size)),aY HLO.out hAx,aY HSO.out hAx,HGO.out.aw hAx,HTS.out.trans (.aT hAx (aF hBW yB.size))⟩
 generalize wA.alloc (ag #[aa H x.pos,.slice Gl x.log.length cl,.slice Gs x.steps.length vd,.slice Gg x.gone.length cg,aa H x.made] 46)=wB at *;rw[hgx];refine aH (S:=λw'=>D wB.drew.heap.size wB.drew w') (E:=λ_=>X) zK ?_;replace qa:=qa.aw (bZ (D.refl _ wB));generalize wB.drew=wC at *;cases hp:M[x.pos]? with
 | none=>
  have j3:M.length<=x.pos:=List.getElem?_eq_none_iff.1 hp;refine wTq 9 [(0,44,ae (J ⟨gx,0,Y⟩)),(1,45,aa H x.pos),(2,46,ae (J ⟨w.heap.size,0,Y⟩)),(3,47,af (J ⟨k,l,Y⟩) S n),(4,48,aa H who),(5,49,ae (J ⟨k,l+who,Y⟩)),(6,50,.slice A' M.length c'),(7,51,aa H M.length),(8,52,ah true)] ?_ bS ?_
  ·intro w' s;have I:=qa.aw s;have c0:=I.kx.cell 0;have c1:=I.k0.cell 0;have c2:=I.cw2;simp at c0 c1;exact zT
  refine aG zK ?_ _;go_wp2_with fail;go_ret;unfold jA;rw[nS O ho hp];exact⟨Z,⟨gs,mv,ev,cv,qa.X⟩,qa.ts⟩
 | some b=>
  have fH:=(aC.1 hp).1;have j3:¬M.length<=x.pos:=zO;refine wTq 9 [(0,44,ae (J ⟨gx,0,Y⟩)),(1,45,aa H x.pos),(2,46,ae (J ⟨w.heap.size,0,Y⟩)),(3,47,af (J ⟨k,l,Y⟩) S n),(4,48,aa H who),(5,49,ae (J ⟨k,l+who,Y⟩)),(6,50,.slice A' M.length c'),(7,51,aa H M.length),(8,52,ah X)] ?_ bS ?_
  ·intro w' s;have I:=qa.aw s;have c0:=I.kx.cell 0;have c1:=I.k0.cell 0;have c2:=I.cw2;simp at c0 c1;exact zT
  refine aG zK ?_ _;go_upto_region 6 with fail;obtain⟨bo,oo,rfl,hbo,Iw⟩:=qa.op zO;refine aH (S:=λw'=>D wC.drew.heap.size wC.drew w') (E:=λ_=>X) zK ?_;replace qa:=qa.aw (bZ (D.refl _ wC));have Iw:=(Iw x.pos b hp);replace Iw:(wC.drew.cell? ⟨bo,oo+x.pos*4,Y⟩=J (aa H b.kind))/\(wC.drew.cell? ⟨bo,oo+x.pos*4+1,Y⟩=J (aa H b.obj))/\(wC.drew.cell? ⟨bo,oo+x.pos*4+2,Y⟩=J (aa H b.a))/\(wC.drew.cell? ⟨bo,oo+x.pos*4+3,Y⟩=J (aa H b.b)):=Iw;have hbo2:bo<wC.drew.heap.size:=aZ hbo (aF qa.bB.2 qa.bl.size);generalize wC.drew=wD at *;have j4:(x.pos:Int)<M.length:=zO;have HXX:=qa.kx.lt;refine wTq 9 [(0,53,ae (J ⟨w.heap.size,0,Y⟩)),(1,54,af (J ⟨k,l,Y⟩) S n),(2,55,aa H who),(3,56,ae (J ⟨k,l+who,Y⟩)),(4,57,af (J ⟨bo,oo,Y⟩) M.length c'),(5,58,ae (J ⟨gx,0,Y⟩)),(6,59,aa H x.pos),(7,60,ae (J ⟨bo,oo+x.pos*4,Y⟩)),(8,61,.agg #[aa H b.kind,aa H b.obj,aa H b.a,aa H b.b])] ?_ bS ?_
  ·intro w' s;have I:=qa.aw s;have c0:=I.kx.cell 0;have c1:=I.k0.cell 0;have c2:=I.cw2;simp at c0 c1;have d0:=(cX s hbo2).trans Iw.1;have qd:=(cX s hbo2).trans Iw.2.1;have Q:=(cX s hbo2).trans Iw.2.2.1;have P:=(cX s hbo2).trans Iw.2.2.2;exact zT
  refine wOq 9 (λK c=>?_);go_simp;have L:=Bk.made wD 54 #[aa H 0,aa H 0,aa H 0,aa H 0];have hbD:=bA wD (ag #[aa H 0,aa H 0,aa H 0,aa H 0] 54);refine c.out _ _ (λ_=>hbD) ?_;generalize wD.alloc (ag #[aa H 0,aa H 0,aa H 0,aa H 0] 54)=wE at *;obtain⟨gO,hgO⟩:=nM (wD.heap.size);have HGO:=aj hgO;rw[hgO]at L;refine wOq 10 (λK c=>?_);rw[hgO];refine eC 54 (.tmp 8) (.tmp 61) Z gO _ Z Z 54 #[aa H 0,aa H 0,aa H 0,aa H 0] L zK Z (by simp[aB]) ?_;have hbE:D wD.heap.size wD (wE.setRow gO #[aa H b.kind,aa H b.obj,aa H b.a,aa H b.b]):=hbD.trans (eS (Nat.le_of_eq hgO) _);replace L:Bk (wE.setRow gO #[aa H b.kind,aa H b.obj,aa H b.a,aa H b.b]) gO 54 #[aa H b.kind,aa H b.obj,aa H b.a,aa H b.b]:=setRow_heap _ _ _ _ _ _ L;refine c.out _ _ (λ_=>hbE) ?_;generalize wE.setRow gO #[aa H b.kind,aa H b.obj,aa H b.a,aa H b.b]=wF at *;(try simp only[Act.put,ak,ay,az]);refine aG zK ?_ _;replace qa:=qa.aw hbE;have KU:gx<gO:=by rw[<- hgO];exact HXX
  go_upto_region 7 with fail;have HTn:=qc.mU O ho hp zO;obtain⟨qq,hqq⟩:=nM (anP who b.a (jH S b x));have It:qq=oO (2*(lyW S).c.aO) (lyW S).c.buckets who b (ee b x.gone) x.log:=hqq.symm.trans (qc.run O).symm;have mF:qq≠ .stuck:=by
   rw[<- hqq];rcases HTn.2 with⟨y,e,-⟩|⟨y,e,-⟩<;>rw[e]<;>simp[anP]
  have hgo2:∀o,qq= .fin o->o.gone.length<=1000:=by
   intro o e;rw[<- hqq]at e;rcases HTn.2 with⟨y,qf,-⟩|⟨y,qf,-,h6,-⟩
   ·rw[qf]at e;simp[anP]at e
   rw[qf]at e;simp only[anP,An.fin.injEq]at e;subst e;omega
  have hbig:∀r∈x.log,-4611686018427387904<=r.1/\r.1<=4611686018427387904:=λr hr=>R.big r hr;have HL:=aj (al It (al mF (al hgo2 (al hbig (al R.ll (al R.gl HTn.1))))));have LT:=aj (uY h1 h3);have HTN:=aj HTn.2;have HR:=aj R;have HQQ:=aj hqq;refine aH (S:=λw'=>D wF.drew.heap.size wF.drew w') (E:=λ_=>X) zK ?_;replace qa:=qa.aw (bZ (D.refl _ wF));replace L:=L.drew;generalize wF.drew=wG at *;refine wTq 8 [(0,63,ae (J ⟨F,0,Y⟩)),(1,64,ae (J ⟨F,0,Y⟩)),(2,65,ae (J ⟨F,0,Y⟩)),(4,67,aa H who),(5,68,ae (J ⟨gx,3,Y⟩)),(6,69,.slice Gg x.gone.length cg),(8,71,ae (J ⟨gx,1,Y⟩)),(9,72,.slice Gl x.log.length cl)] ?_ bS ?_
  ·intro w' s;have I:=qa.aw s;have c0:=I.kx.cell 3;have c1:=I.kx.cell 1;simp at c0 c1;exact zT
  refine wTq 1 [(3,66,lyV (lyW S))] ?_ bS ?_
  ·intro w' s;have kE:(cL 34 ⟨F,0,Y⟩).run ao w'= .ok (lyV (lyW S)) w':=de w' F 0 34 (lyC (lyW S)) _ (qa.aw s).X.lay aK Z zK;exact zL
  refine wTq 1 [(7,70,.agg (di b))] ?_ bS ?_
  ·intro w' s;have kE:(cL 54 ⟨gO,0,Y⟩).run ao w'= .ok (.agg (di b)) w':=a7 w' gO 54 54 (di b) (0,0) _ (L.aw s) underlying54 Z zK;exact zL
  refine jR (U:=[10,11,12,13,14,15,16,17,18,19]) (tmp:=Ae) (pre:=c3P 10) (T:=λw'=>D wG.heap.size wG w') (N:=λ_ _=>True) (G:=c3G 10 wG.heap.size 67 70) (R:=c3R 10 wG.heap.size 67 70 cG aW (NxX (lyW S) qq)) zK (λ_ _=>Z) (λw2 h=>h) bS (λi hi w3 w4 h1 h2=>xL h1 h2) (λ_ _=>trivial) (λ_ _ _ _ _ _ _ _ _ _=>trivial)
   (λi hi j hj yw nf v u w3 w4 hT hvi AV hp hr hg=>xM zD (M3 (lyW S) qq) yw hvi AV hr hg) (λi hi o ho nf w3 K BB hT _ V c=>?_) 0 (λnf wH qe hT=>?_)
  ·simp only[aL,be,or_false]at hi;rcases hi with rfl|rfl|rfl|rfl|rfl|rfl|rfl|rfl|rfl|rfl
   ·obtain rfl:=aP ho;simp only[show c3P 10 10=[]from Z,ba]at c ⊢;go_simp;have H3:=qa.aw hT;have hd:=onext (lyW S) who b x.gone (.slice Gg x.gone.length cg) Gl cl x.log w3 LT.out HL.out.2.2.2.2.2.2 H3.go (by have:=HL.out.2.2.2.2.2.1;omega) (Kt H3.lo) (by have:=HL.out.2.2.2.2.1;omega) (own_cap H3.lo) HL.out.2.2.2.1 qq HL.out.1 HL.out.2.1 HL.out.2.2.1;(with_reducible refine hd.mono ?_);intro e w4 hpost;obtain⟨c1,c2,v3,rfl,hx9,hb⟩:=M2 hpost;exact c _ _ ⟨c1,c2,v3,Z,hx9⟩ hb
   ·obtain rfl:=aP ho;obtain⟨v0,e0,qd,Q,P,rfl,hX0⟩:=V 10 (by simp[c3P]);simp only[show c3P 10 11=[10]from Z,ba,e0,Ae]at c ⊢;go_simp;exact c _ _ ⟨qd,Q,P,Z,by simp only[upd];exact e0⟩ bS
   ·obtain rfl:=aP ho;obtain⟨v1,e1,qd,Q,P,rfl,e0⟩:=V 11 (by simp[c3P]);simp only[show c3P 10 12=[11]from Z,ba,e1,Ae]at c ⊢;go_simp;exact c _ _ ⟨qd,Q,P,by simp only[upd];exact e0,Z⟩ bS
   ·obtain rfl:=aP ho;obtain⟨v1,e1,qd,Q,P,rfl,e0⟩:=V 11 (by simp[c3P]);simp only[show c3P 10 13=[11]from Z,ba,e1,Ae]at c ⊢;go_simp;exact c _ _ ⟨qd,Q,P,by simp only[upd];exact e0,Z⟩ bS
   ·obtain rfl:=aP ho;obtain⟨v1,e1,qd,Q,P,rfl,e0⟩:=V 11 (by simp[c3P]);simp only[show c3P 10 14=[11]from Z,ba,e1,Ae]at c ⊢;go_simp;exact c _ _ ⟨qd,Q,P,by simp only[upd];exact e0,Z⟩ bS
   ·obtain rfl:=aP ho;simp only[show c3P 10 15=[]from Z,ba]at c ⊢;go_simp;exact c _ _ ⟨_,Z,hT.size,λ_=>Bk.made _ _ _⟩ (aA bS _)
   ·obtain rfl:=aP ho;simp only[show c3P 10 16=[]from Z,ba]at c ⊢;go_simp;exact c _ _ ⟨_,Z,hT.size,λ_=>Bk.made _ _ _⟩ (aA bS _)
   ·obtain rfl:=aP ho;obtain⟨v0,e0,qd,Q,P,rfl,hX0⟩:=V 10 (by simp[c3P]);obtain⟨v2,qf,f1,f2,f3,f,rfl⟩:=V 12 (by simp[c3P]);rw[e0]at f;obtain⟨rfl,rfl,rfl⟩:=dr f;obtain⟨v5,e5,ga,rfl,mD,k5⟩:=V 15 (by simp[c3P]);have ka:=k5 BB;obtain⟨ck,cc,co,cv2,val,is,er,pt,gG,gn,gc,dn,rfl,rfl,rfl,hX1⟩:=hX0;simp only[show c3P 10 17=[10,12,15]from Z,ba,e0,qf,e5,Ae]at c ⊢;(try simp only[au,ar,an]);refine eC 67 (.tmp 9) (.tmp 74) Z ga _ Z Z 67 cG ka zK Z (by simp[aB]) ?_;exact c undef _ ⟨ga,_,_,_,by simp only[upd];exact e0,by simp only[upd];exact e5,mD,setRow_heap _ _ _ _ _ _ ka⟩ ⟨gX ka,eS mD _⟩
   ·obtain rfl:=aP ho;obtain⟨v0,e0,qd,Q,P,rfl,hX0⟩:=V 10 (by simp[c3P]);obtain⟨v2,qf,f1,f2,f3,f,rfl⟩:=V 13 (by simp[c3P]);rw[e0]at f;obtain⟨rfl,rfl,rfl⟩:=dr f;obtain⟨v5,e5,ga,rfl,mD,k5⟩:=V 16 (by simp[c3P]);have ka:=k5 BB;obtain⟨ck,cc,co,cv2,val,is,er,pt,gG,gn,gc,dn,rfl,rfl,rfl,hX1⟩:=hX0;simp only[show c3P 10 18=[10,13,16]from Z,ba,e0,qf,e5,Ae]at c ⊢;(try simp only[au,ar,an]);refine eC 70 (.tmp 10) (.tmp 75) Z ga _ Z Z 70 aW ka zK Z (by simp[aB]) ?_;exact c undef _ ⟨ga,_,_,_,by simp only[upd];exact e0,by simp only[upd];exact e5,mD,setRow_heap _ _ _ _ _ _ ka⟩ ⟨gX ka,eS mD _⟩
   obtain rfl:=aP ho;obtain⟨v4,e4,f1,f2,f3,e4',rfl⟩:=V 14 (by simp[c3P]);simp only[show c3P 10 19=[14]from Z,ba,e4,Ae]at c ⊢;go_simp;exact c _ _ ⟨_,_,_,by simp only[upd];exact e4',Z⟩ bS
  obtain⟨v0,e0,qd,Q,P,rfl,hX0⟩:=qe 10 zS;obtain⟨v1,e1,f1,f2,f3,rfl,LQ⟩:=qe 11 zS;rw[e0]at LQ;obtain⟨rfl,rfl,rfl⟩:=dr LQ;obtain⟨v2,qf,f1,f2,f3,f,rfl⟩:=qe 12 zS;rw[e0]at f;obtain⟨rfl,rfl,rfl⟩:=dr f;obtain⟨v3,e3,f1,f2,f3,f,rfl⟩:=qe 13 zS;rw[e0]at f;obtain⟨rfl,rfl,rfl⟩:=dr f;obtain⟨v4,e4,f1,f2,f3,f,rfl⟩:=qe 14 zS;rw[e0]at f;obtain⟨rfl,rfl,rfl⟩:=dr f;obtain⟨v5,e5,JB,rfl,hga0,-⟩:=qe 15 zS;obtain⟨v6,e6,LP,rfl,hga1,-⟩:=qe 16 zS;obtain⟨v7,e7,gb0,f1,f2,f3,f,IG,-,kb0⟩:=qe 17 zS;rw[e0]at f;obtain⟨rfl,rfl,rfl⟩:=dr f;rw[e5]at IG;obtain rfl:=mM IG;obtain⟨v8,e8,gb1,f1,f2,f3,f,IG,-,kb1⟩:=qe 18 zS;rw[e0]at f;obtain⟨rfl,rfl,rfl⟩:=dr f;rw[e6]at IG;obtain rfl:=mM IG;obtain⟨v9,e9,f1,f2,f3,f,rfl⟩:=qe 19 zS;rw[e0]at f;obtain⟨rfl,rfl,rfl⟩:=dr f;refine aG (by simp only[dj,e0,e1,qf,e3,e4,e5,e6,e7,e8,e9,cZ,if_true];kernel_rfl) ?_ _;simp only[ba,e0,e1,qf,e3,e4,e5,e6,e7,e8,e9,Ae];(try simp only[Act.put,ak,ay,az,eM]);obtain⟨ck,cc,co,cv2,val,is,er,pt,gG,gn,gc,dn,rfl,rfl,rfl,hX1⟩:=hX0;have mD:gO<JB/\gO<LP:=by have:=L.lt;omega
  replace qa:=qa.aw hT;replace L:=L.aw hT;dsimp only[Exit.then]
  apply_assumption
  rcases hX1 with⟨a,hq,rfl,rfl,rfl,rfl,rfl⟩|⟨o,hq,rfl,rfl,rfl,rfl,rfl,hgo⟩
  ·have CJ:dD (lyW S) want who t=(jj (lyW S) who x a t,X):=by
    unfold dD;rw[O,ho];simp only[hp];rw[qc.run O,HQQ.out,hq]
   have hao:J3 S t g a:=by
    rcases HTN.out with⟨y,e,-,h6,-⟩|⟨o2,e,-⟩
    ·have h7:=HQQ.out;rw[e,hq]at h7;simp only[anP,An.ask.injEq]at h7;subst h7;exact h6
    exfalso;have:=HQQ.out;rw[e,hq]at this;simp[anP]at this
   exact turn_A qa L mD KU yc xg h1 h3 hN hC O HR.out kb0 CJ hao qc.wk.gl qc.mr
  have CJ:dD (lyW S) want who t=(mG who x b o t,true):=by
   unfold dD;rw[O,ho];simp only[hp];rw[qc.run O,HQQ.out,hq]
  have hfo:jH S b x= .out o/\x.log≠[]:=by
   rcases HTN.out with⟨y,e,-⟩|⟨o2,e,h6,-⟩
   ·exfalso;have:=HQQ.out;rw[e,hq]at this;simp[anP]at this
   have h7:=HQQ.out;rw[e,hq]at h7;simp only[anP,An.fin.injEq]at h7;subst h7;exact⟨e,h6⟩
  have Iz:-(x.steps.length:Int)-2<=o.bc:=by rw[HR.out.sl];exact curW_lo hfo.1
  exact turn_F qa L mD KU yc xg h1 h3 hN hC O HR.out kb1 hgo CJ Iz hfo.2 zO
variable {w:World} {B S a c d m:Nat} {want:List (List Opr)} {turns:List Nat} {A T:Option Addr} {l:Ly} {t:cY}
theorem ur(l:Ly)(want:List (List Opr))(stops:List Nat):∀(b:List Nat) (u:Nat) (t:cY),ff l want stops (b++[u]) t=(if g8 stops (u%want.length) (ff l want stops b t)then ff l want stops b t else(dD l want (u%want.length) (ff l want stops b t)).1)
 | [],u,t=>rfl
 | a :: b,u,t=>by
  rw[List.cons_append];unfold ff;exact ur l want stops b u _
theorem oZ(l:Ly)(want:List (List Opr))(who:Nat)(t:cY):(dD l want who t).1.calls.length<=t.calls.length+1:=by
 unfold dD
 (repeat' split)<;>simp[jj,mG]
theorem rO(l:Ly)(want:List (List Opr))(stops:List Nat):∀(a:List Nat) (t:cY),(ff l want stops a t).calls.length<=t.calls.length+a.length
 | [],t=>by simp[ff]
 | u :: a,t=>by
  unfold ff;have b:=oZ l want (u%want.length) t;refine aF (rO l want stops a _) ?_;split<;>simp only[ku]<;>omega
structure rE (w:World) (B:Nat) (want:List (List Opr)) (turns:List Nat) (S:Nat) (A T:Option Addr) (m s0 s1 s2:Nat):Prop where
 W:lj w B A want
 T:yF w B T turns
 wl:want.length=S
 tl:turns.length=m
 m2:m<=200
 S1:1<=S
 S3:S<=3
 ok:∀ops∈want,ops.length<=3/\∀op∈ops,kK op
 st:s0<256/\s1<256/\s2<256
theorem rE.below{a:World}{s2:Nat}(h:rE w B want turns S A T m c d s2)(b:D B w a):rE a B want turns S A T m c d s2:=
 ⟨h.W.below b,h.T.below b,h.wl,h.tl,h.m2,h.S1,h.S3,h.ok,h.st⟩
theorem kn.lt(h:kn w B a l t):a<w.heap.size:=by
 obtain⟨d,b,c,e,h⟩:=h;exact h.tab.lt
theorem kn.bad(h:kn w B a l t):w.cell? ⟨a,30,Y⟩=J (ah X):=by
 obtain⟨d,b,c,e,h⟩:=h;rw[h.tab.cell];rfl
theorem vx(f:want.length=S)(e:1<=S)(j:S<=3)(g:∀d∈want,d.length<=3/\∀i∈d,kK i)(stops c:List Nat)(k:c.length<=200):WE S want (ff (lyW S) want stops c (jh S))/\(ff (lyW S) want stops c (jh S)).events.length<=c.length/\(ff (lyW S) want stops c (jh S)).calls.length<=c.length:=by
 subst f;have h:WE want.length want (jh want.length):=⟨_,_,_,winv0 e j g⟩;obtain⟨a,b⟩:=WE.turns (stops:=stops) Z e c _ h (by show (0:Nat)+_<=_;omega);refine⟨a,by simpa[jh] using b,?_⟩;have:=rO (lyW want.length) want stops c (jh want.length)
 simpa[jh] using this
theorem vo{i b:Nat}(P:rE w w.heap.size want turns S A T m b a c):
  Calls ao 8 #[.agg (cI A S i T m d b a c)] w λe w'=>∃n,e=ai (ae (J ⟨n,0,Y⟩))/\kn w' w.heap.size n (lyW S) (ff (lyW S) want [b,a,c] turns (jh S))/\D w.heap.size w w':=by
 have C:=Bk.made w 26 (cI A S i T m d b a c);have v:=bA w (ag (cI A S i T m d b a c) 26);have t:=aj P;have G:=P.S1;have I:=P.S3;have hm2:=P.m2;go_enter func8,ntmps8;go_wp2_with (refine aM Z 26 (.tmp 1) Z w.heap.size Z 26 (cI A S i T m d b a c) (0,0) _ C iU Z zK ?_);generalize w.alloc (ag (cI A S i T m d b a c) 26)=w1 at *;refine(Hg S G I A T i m d b a c _).mono ?_;rintro e w2 ⟨n,rfl,f,qf⟩;replace C:=C.aw qf;have hT0:kn w2 w.heap.size n (lyW S) (jh S):=by
  obtain⟨gs,mv,ev,cv,qa⟩:=f;exact⟨gs,mv,ev,cv,⟨aF v.size qa.bt,aF v.size qa.bs,qa.tab,qa.aO,qa.mem,dt qa.ev v.size,dt qa.calls v.size⟩⟩
 have M:jk w.heap.size w w2:=.aT (aE v qf) (aq _);go_wp2_with fail;go_loopw [4] (λN wr=>∃k:Nat,k<=turns.length/\N=V H (k:Nat)/\jk w.heap.size w2 wr/\kn wr w.heap.size n (lyW S) (ff (lyW S) want [b,a,c] (turns.take k) (jh S))) (λN _=>turns.length-(intOf N).toNat)
 case atStart=>exact⟨0,aN _,Z,jk.refl _ _,by simpa[ff] using hT0⟩
 obtain⟨k,hk,rfl,z,f⟩:=hrel;have h:=z.aw C ⟨zD,zD,zD,zD⟩;have P:=t.out.below (M.trans z).below;have q1:=h.cell 1;have qb:=f.bad;have lT:=f.lt;simp at q1;have hm:turns.length=m:=t.out.tl;by_cases fH:k<turns.length;rotate_left
 ·obtain rfl:k=turns.length:=zO;have g1:decide ((turns.length:Int)<m)=X:=zP;have g1n:¬turns.length<m:=zO;rw[nP]at f;go_wp2_with fail;go_ret;exact⟨n,Z,f,(M.trans z).below⟩
 have g1:decide ((k:Int)<m)=true:=zP;have g1n:k<m:=zO;obtain⟨tk,Q⟩:∃u,turns[k]? =J u:=⟨_,aD fH⟩;obtain⟨l,o,rfl,hbT,hTc⟩:=P.T zO;obtain⟨L,tk256⟩:=hTc k tk Q;have qd:=vx P.wl G I P.ok [b,a,c] (turns.take k) (by rw[dg];omega);have qg:(turns.take k).length=k:=by rw[dg];omega
 rw[qg]at qd;obtain⟨who,F⟩:=nM (tk%S);have hwlt:who<S:=by rw[<- F];exact Nat.mod_lt _ G
 have j:=ur (lyW S) want [b,a,c] (turns.take k) tk (jh S);have htk1:turns.take (k+1)=turns.take k++[tk]:=by rw[qy,Q];rfl
 rw[<- htk1,P.wl,F]at j;obtain⟨B,qh⟩:=nM (ff (lyW S) want [b,a,c] (turns.take k) (jh S));rw[qh]at j qd f;have hrm:(tk:Int).tmod (S:Int)=who:=by rw[Int.tmod_eq_emod_of_nonneg zO,<- F];omega
 have rz:¬S=0:=zO;have hwv:IntKind.i64.wrap (tk:Int)=tk:=dh _ zO;have j1:(k:Int)<m:=zO;have s:=aj (al j (al qd hwlt));go_upto_region 5 with fail;refine aH (S:=λw'=>D wr.drew.heap.size wr.drew w') (E:=λ_=>X) zK ?_;have x:=bD wr;replace f:=f.aw x;replace h:=h.aw x;have ts':=z.trans (.aT x (show w.heap.size<=wr.heap.size from ed h.lt));have y:l<wr.heap.size:=by have:=h.lt;have:wr.drew.heap.size=wr.heap.size:=Z;omega
 replace L:=(cX x y).trans L;replace y:=aZ y x.size;generalize wr.drew=w4 at *;refine wTq 11 [(0,22,ae (J ⟨w.heap.size,1,Y⟩)),(1,23,af (J ⟨l,o,Y⟩) m d),(2,24,V H (k:Nat)),(3,25,ae (J ⟨l,o+k,Y⟩)),(4,26,.int .u8 (tk:Nat)),(5,27,V H (tk:Nat)),(6,28,ae (J ⟨w.heap.size,0,Y⟩)),(7,29,.slice A S i),(8,30,V H S),(9,31,V H (who:Nat)),(10,5,V H (who:Nat))] ?_ bS ?_
 ·intro w' O;have c0:=(h.aw O).cell 0;have c1:=(h.aw O).cell 1;have c2:=(cX O y).trans L;simp at c0 c1;exact zT
 refine aG zK ?_ _;go_wp2_with (refine aM Z 26 (.tmp 1) Z w.heap.size Z 26 (cI A S i (J ⟨l,o,Y⟩) m d b a c) (0,0) _ h iU Z zK ?_);have U:B.aO.length=S:=by obtain⟨sm,g,q,W⟩:=s.out.2.1.1;exact W.sl
 refine(ta A S i (J ⟨l,o,Y⟩) m d b a c who w.heap.size n (lyW S) B _ f (by rw[U];exact s.out.2.2) (by rw[U];exact I) t.out.st.1 t.out.st.2.1 t.out.st.2.2).mono ?_;rintro e w5 ⟨rfl,qe⟩;replace f:=f.aw qe;have hB4:w.heap.size<=w4.heap.size:=ed h.lt;replace h:=h.aw qe;have K:=ts'.trans (.aT qe hB4);by_cases qc:g8 [b,a,c] who B=true
 ·rw[qc];go_wp2_with fail;have j:=s.out.1;rw[if_pos qc]at j;refine⟨⟨k+1,zO,by go_num,K,by rw[j];exact f⟩,by simp[intOf];omega⟩
 have R:g8 [b,a,c] who B=X:=by simpa using qc
 rw[R];go_wp2_with (refine aM Z 26 (.tmp 1) Z w.heap.size Z 26 (cI A S i (J ⟨l,o,Y⟩) m d b a c) (0,0) _ h iU Z zK ?_);obtain⟨⟨sm,g,q,WI⟩,hev,hca⟩:=s.out.2.1;have P5:=t.out.below (M.trans K).below;refine(nR WI zO zO s.out.2.2 A (J ⟨l,o,Y⟩) i m d b a c _ f (ed h.lt) P5.W).mono ?_;rintro e w6 ⟨rfl,N9,ts6⟩;have j:=s.out.1;rw[if_neg (by rw[R];decide)]at j;go_wp2_with fail;refine⟨⟨k+1,zO,by go_num,K.trans ts6,by rw[j];exact N9⟩,by simp[intOf];omega⟩
end
end Go.Proofs.YtikdaeddbkopeaaGreatR
