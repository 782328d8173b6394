/- A part of the proof. -/
import Derived.WalkMore
import Derived.ScopeJumps
import Derived.Deep.MidRow
import Derived.Test.YtikdaeddbkopeaaGreatRV1
set_option linter.unusedVariables false
set_option linter.unusedSimpArgs false
set_option maxRecDepth 100000
set_option maxHeartbeats 16000000
open Go.Proofs.Tryz
open And renaming intro → al
open Array renaming getElem?_eq_some_iff → a9
open Bool renaming false → X, true → O
open Go renaming Calls → U, Value → I, World → W, Program → J4, run_loadVar_row → a7, wpList_store_rowTo → aI, wpList_load_row → aM, wp_at_zero → aQ, wp_at_succ → aR, bodyPost_ret → aS, TypeId → bM, results_cell_row → bQ, loadVar → cL, wpList_append_own_at → dI, wp_store_row → eC, results_none → gT, Ending → jK, execOp → nO, maxLen → sV, Operand → vn
open Go.Ending renaming returned → ai
open Go.Instr renaming sureAddr → uS, makeFunc → uT
open Go.IntKind renaming i64 → H, i64 → ab
open Go.IntWalk renaming i64_in → dh
open Go.Lib renaming hid → N, hid → aj
open Go.Obj renaming cells → ag
open Go.Proofs.Tryz renaming underlying70 → aJ, underlying34 → aK, prog → ao, underlying67 → cF
open Go.Result renaming andThen_ok → bC
open Go.RowKit renaming Below → D
open Go.Sem renaming run_bind → cD, run_pure → dF
open Go.Value renaming int → V, oneCell' → aB, bool → ah, int → aa, pointer → ae, slice → af
open Go.WideShapes renaming add_plain → gZ
open List renaming getElem?_eq_some_iff → aC, mem_cons → aL, setIfInBounds_toArray → ak, getElem_cons_zero → an, getElem_cons_succ → ar, getElem_toArray → au, set_cons_zero → ay, set_cons_succ → az, length_append → bE, not_mem_nil → be
open Nat renaming le_trans → aF, zero_le → aN, lt_of_lt_of_le → aZ, le_refl → aq, le_add_left → eK, zero_add → ea, add_sub_cancel → jJ
open Option renaming none → Y, some → J, isSome_some → cZ
open Or renaming inl → jI
open Prod.mk renaming injEq → ly
open True renaming intro → bd
namespace Go.Proofs.YtikdaeddbkopeaaGreatR
section
open Go.RowKit
set_option maxRecDepth 100000
attribute [local go_sem ↓] aQ aR
variable {w:W} {k:Pk} {z:Pz} {log:Log}
variable {f tp tv fd:Nat}
def doG(fd:Nat)(k:Pk):I:=.func (.func fd) #[] #[ptr k.gv,ptr k.gl]
abbrev pcG(fd:Nat)(k:Pk)(c:I)(i:Nat)(e0 b a:Int):Array I:=#[V H k.l.c.aO,V H k.l.c.nodes,V H k.l.c.buckets,V H k.l.c.slots,V H k.l.c.tasks,V H k.l.c.cells,V H k.l.c.maps,V H k.l.c.stacks,V H k.l.c.chans,V H k.l.done,V H k.l.count,V H k.l.era,V H k.l.free,V H k.l.alive,V H k.l.owner,V H k.l.resv,V H k.l.deque,V H k.l.ring,V H k.l.task,V H k.l.cell,V H k.l.map,V H k.l.stack,V H k.l.chan,V H k.l.node,V H k.l.size,V H k.me,c,V H (i:Nat),V H e0,V H b,V H a,.func (.func fd) #[] #[ptr k.gv,ptr k.gl]]
structure PcG (tp tv fd:Nat) (w:W) (k:Pk) (z:Pz) (log:Log):Prop where
 kp:∃gv e0 e1 e2,Bk w k.gp tp (pcG fd k gv z.made e0 e1 e2)/\GnV w k.gp gv z.gone/\z.eras=[e0,e1,e2]
 kv:Bk w k.gv tv #[ptr k.gp]
 kl:Bk w k.gl 43 #[.slice k.A log.length k.cap]
 sl:gH w k.B k.A log
 ne:k.gv≠k.gp/\k.gl≠k.gp
 bp:k.B<=k.gp
 le:log.length<=100000
 mle:z.made<=log.length
 f:eu k.l
theorem PcG.step{a:W}{z':Pz}(h:PcG tp tv fd w k z log)(s:Stp k.gp w a)(i:∃c e0 b d,Bk a k.gp tp (pcG fd k c z'.made e0 b d)/\GnV a k.gp c z'.gone/\z'.eras=[e0,b,d])(e:z'.made<=log.length):PcG tp tv fd a k z' log:=
 ⟨i,s.aw h.kv h.ne.1,s.aw h.kl h.ne.2,h.sl.below (s.part h.bp (by obtain⟨_,_,_,_,g,-⟩:=h.kp;have:=g.lt;have:=h.bp;omega)),h.ne,h.bp,h.le,e,h.f⟩
theorem PcG.aw{b:W}(h:PcG tp tv fd w k z log)(a:D w.heap.size w b):PcG tp tv fd b k z log:=by
 refine h.step (.aT k.gp a) ?_ h.mle;obtain⟨e,e0,c,i,g,j,d⟩:=h.kp;exact⟨e,e0,c,i,g.aw a,j.aw a,d⟩
theorem PcG.lt(h:PcG tp tv fd w k z log):k.gp<w.heap.size:=by obtain⟨_,_,_,_,a,-⟩:=h.kp;exact a.lt
def taOf(fd:Nat):Nat:=if fd=181 then 213 else if fd=126 then 176 else 188
def Bm(fd:Nat)(l:Ly)(a:LAc):I:=.iface (taOf fd) (.agg #[V H a.k,V H (adr l a.c),V H a.o,V H a.v])
abbrev acV(l:Ly)(a:LAc):I:=.agg #[V H a.k,V H (adr l a.c),V H a.o,V H a.v]
def fN{β:Type}(fd:Nat)(k:Pk)(q:An β)(w:W)(R:I->W->Prop)(e:jK)(b:W):Prop:=
 (∃a,q= .ask a/\e= .panicked [{ v:=Bm fd k.l a,recovered:=X }]/\Stp k.gp w b)\/(∃v,e= .returned v/\R v b/\Stp k.gp w b)
theorem pdo{β:Type}(a:LAc){q:An β}(F:Int × Bool->Pz->Log->An β)(h:PcG tp tv fd w k z log)(hq:q=doR a z F (log.drop z.made))(hI:(tp,tv,fd)∈[(211,199,181),(174,154,126),(186,158,143)]:=by decide):
  Calls ao fd #[acV k.l a,ptr k.gv,ptr k.gl] w (fN fd k q w λv s=>∃x,log[z.made]? =J x/\v=pd x.1 x.2/\PcG tp tv fd s k z.got log/\q=F x z.got (log.drop (z.made+1))):=by
 simp only[aL,ly,be,or_false]at hI;rcases hI with⟨rfl,rfl,rfl⟩|⟨rfl,rfl,rfl⟩|⟨rfl,rfl,rfl⟩;all_goals
  obtain⟨I,e0,G,qb,c,hG,hE⟩:=h.kp;have y:=c.cell 27;have f27:=c.free 27;have qa:=h.kv.cell 0;have B:=h.kl.cell 0;have lp:=c.lt;have lv:=h.kv.lt;have ll:=h.kl.lt;simp at y qa B;have hle:=h.le;have hm:=h.mle;have qf:=aj h;have O:=h;have V:=aj hq;have qc:=aj (al c (al hG hE));have qQ:=h.ne;obtain⟨mm,Jx⟩:=nM (z.made);have A:=aj Jx;rw[Jx]at y hm V;cases qd:log[mm]? with
  | none=>
   have hml:mm=log.length:=by have:=List.getElem?_eq_none_iff.1 qd;omega
   have qe:q= .ask a:=by rw[V.out,C7 qd];rfl
   have N:=aj qe;have heq:((mm:Int)==log.length)=true:=zP;have c:=((qc.out.1).alloc (ag #[aa H a.k,aa H (adr k.l a.c),aa H a.o,aa H a.v] 67)).alloc (ag #[aa H 0,ah X] 75);have e:=(O.kv.alloc (ag #[aa H a.k,aa H (adr k.l a.c),aa H a.o,aa H a.v] 67)).alloc (ag #[aa H 0,ah X] 75);have j:=(O.kl.alloc (ag #[aa H a.k,aa H (adr k.l a.c),aa H a.o,aa H a.v] 67)).alloc (ag #[aa H 0,ah X] 75);have t:=(Bk.made w 67 #[aa H a.k,aa H (adr k.l a.c),aa H a.o,aa H a.v]).alloc (ag #[aa H 0,ah X] 75);have d:=((Stp.refl k.gp w).alloc (ag #[aa H a.k,aa H (adr k.l a.c),aa H a.o,aa H a.v] 67)).alloc (ag #[aa H 0,ah X] 75);first|go_enter func181,ntmps181|go_enter func126,ntmps126|go_enter func143,ntmps143
   go_upto_region 1 with fail;generalize (w.alloc (ag #[aa H a.k,aa H (adr k.l a.c),aa H a.o,aa H a.v] 67)).alloc (ag #[aa H 0,ah X] 75)=C at *;refine aH (S:=λs=>D C.drew.heap.size C.drew s) (E:=λ_=>X) zK ?_;replace c:=c.drew;replace e:=e.drew;replace j:=j.drew;replace t:=t.drew;replace d:=d.drew;generalize C.drew=T at *;rw[A.out]at c;refine wTq 7 [(0,5,ptr k.gp),(1,6,ptr k.gp),(2,7,ae (J ⟨k.gp,27,Y⟩)),(3,8,aa H (mm:Nat)),(4,9,.slice k.A log.length k.cap),(5,10,aa H (log.length:Nat)),(6,11,ah true)] ?_ bS ?_
   ·intro s l;have y:=(c.aw l).cell 27;have qa:=(e.aw l).cell 0;have B:=(j.aw l).cell 0;simp at y qa B
    (repeat' (first|exact bd|refine al ⟨_,Z,.inl ⟨Z,?_⟩⟩ ?_))
    all_goals ((try simp only[au,ar,an,Act.put,ak,ay,az]);go_simp)
   refine aG zK ?_ _;have c0:=t.cell 0;have c1:=t.cell 1;have c2:=t.cell 2;have c3:=t.cell 3;have la:=t.lt;simp at c0 c1 c2 c3;go_wp2_with fail;exact⟨Z,.inl ⟨a,N.out,Z,d⟩⟩
  | some x=>
   obtain⟨n,m⟩:=x;have hml:mm<log.length:=(aC.1 qd).1;have qe:q=F (n,m) z.got (log.drop (mm+1)):=by rw[V.out,sB qd];rfl
   have N:=aj (al qe qd);have heq:((mm:Int)==log.length)=X:=zP;have c:=((qc.out.1).alloc (ag #[aa H a.k,aa H (adr k.l a.c),aa H a.o,aa H a.v] 67)).alloc (ag #[aa H 0,ah X] 75);have e:=(O.kv.alloc (ag #[aa H a.k,aa H (adr k.l a.c),aa H a.o,aa H a.v] 67)).alloc (ag #[aa H 0,ah X] 75);have j:=(O.kl.alloc (ag #[aa H a.k,aa H (adr k.l a.c),aa H a.o,aa H a.v] 67)).alloc (ag #[aa H 0,ah X] 75);have t:=(Bk.made w 67 #[aa H a.k,aa H (adr k.l a.c),aa H a.o,aa H a.v]).alloc (ag #[aa H 0,ah X] 75);have d:=((Stp.refl k.gp w).alloc (ag #[aa H a.k,aa H (adr k.l a.c),aa H a.o,aa H a.v] 67)).alloc (ag #[aa H 0,ah X] 75);have u:=Bk.new (w.alloc (ag #[aa H a.k,aa H (adr k.l a.c),aa H a.o,aa H a.v] 67)) (g:=w.heap.size+1) zS 75 #[aa H 0,ah X];have HZ:=aj (show ∃e0 G qb,GnV w k.gp I z.gone/\z.eras=[e0,G,qb]from⟨_,_,_,qc.out.2⟩);have HGG:=qc.out.2.1;have HEE:=qc.out.2.2;first|go_enter func181,ntmps181|go_enter func126,ntmps126|go_enter func143,ntmps143
   go_upto_region 1 with fail;obtain⟨gr,NY⟩:=nM (w.heap.size+1);rw[NY]at u ⊢;have zr:w.heap.size<gr:=M;have zp:=qf.out.lt;generalize (w.alloc (ag #[aa H a.k,aa H (adr k.l a.c),aa H a.o,aa H a.v] 67)).alloc (ag #[aa H 0,ah X] 75)=C at *;refine aH (S:=λs=>D C.drew.heap.size C.drew s) (E:=λ_=>X) zK ?_;replace c:=c.drew;replace e:=e.drew;replace j:=j.drew;replace t:=t.drew;replace u:=u.drew;replace d:=d.drew;generalize C.drew=T at *;rw[A.out]at c;refine wTq 7 [(0,5,ptr k.gp),(1,6,ptr k.gp),(2,7,ae (J ⟨k.gp,27,Y⟩)),(3,8,aa H (mm:Nat)),(4,9,.slice k.A log.length k.cap),(5,10,aa H (log.length:Nat)),(6,11,ah X)] ?_ bS ?_
   ·intro s l;have y:=(c.aw l).cell 27;have qa:=(e.aw l).cell 0;have B:=(j.aw l).cell 0;simp at y qa B
    (repeat' (first|exact bd|refine al ⟨_,Z,.inl ⟨Z,?_⟩⟩ ?_))
    all_goals ((try simp only[au,ar,an,Act.put,ak,ay,az]);go_simp)
   refine aG zK ?_ _;have q27:=c.cell 27;have f27:=c.free 27;have qv:=e.cell 0;have l27:=c.lt;have lv:=e.lt;simp at q27 qv;go_upto_region 4 with fail;replace d:=d.trans (Stp.set T k.gp 27 (aa H ((mm+1:Nat):Int)));replace u:=u.other (p:=⟨k.gp,27,Y⟩) (by dsimp only;omega) (aa H ((mm+1:Nat):Int));replace e:=e.other (p:=⟨k.gp,27,Y⟩) qQ.1 (aa H ((mm+1:Nat):Int));replace j:=j.other (p:=⟨k.gp,27,Y⟩) qQ.2 (aa H ((mm+1:Nat):Int));replace c:Bk (T.setCell ⟨k.gp,27,Y⟩ (aa H ((mm+1:Nat):Int))) k.gp _ (pcG _ k I (mm+1) e0 G qb):=c.stored 27 (aa H ((mm+1:Nat):Int));rw[show ((mm:Int)+1)=((mm+1:Nat):Int)from Z];generalize T.setCell ⟨k.gp,27,Y⟩ (aa H ((mm+1:Nat):Int))=L at *;have sX:=(qf.out.step (z':=z.got) d ⟨I,e0,G,qb,by rw[show z.got.made=mm+1 from congrArg (· +1) A.out];exact c,HGG.stp d,HEE⟩ (by show z.made+1<=_;rw[A.out];omega)).sl;obtain⟨b,R,hA,CV,hc⟩:=sX M;obtain⟨P,Q⟩:=hc mm _ N.out.2;dsimp only at P Q;refine aH (S:=λs=>D L.drew.heap.size L.drew s) (E:=λi=>i==8) zK ?_;replace c:=c.drew;replace e:=e.drew;replace j:=j.drew;replace u:=u.drew;replace d:=d.drew;replace P:L.drew.cell? ⟨b,R+mm*2,Y⟩=J (aa H n):=P;replace Q:L.drew.cell? ⟨b,R+mm*2+1,Y⟩=J (.bool m):=Q;generalize L.drew=qg at *;have qh:=aj (al P Q);rw[hA]at j;refine wTq 8 [(0,22,af (J ⟨b,R,Y⟩) log.length k.cap),(1,23,ptr k.gp),(2,24,ptr k.gp),(3,25,ae (J ⟨k.gp,27,Y⟩)),(4,26,aa H ((mm+1:Nat):Int)),(5,27,aa H (mm:Nat)),(6,28,ae (J ⟨b,R+mm*2,Y⟩)),(7,29,.agg #[aa H n,.bool m])] ?_ bS ?_
   ·intro s l;have y:=(c.aw l).cell 27;have qa:=(e.aw l).cell 0;have B:=(j.aw l).cell 0;have s1:=iF l qh.out.1;have s2:=iF l qh.out.2;have hw1:IntKind.i64.wrap (mm:Int)=mm:=dh _ M;have g3:(mm:Int)<log.length:=M;simp at y qa B s1 s2
    (repeat' (first|exact bd|refine al ⟨_,Z,.inl ⟨Z,?_⟩⟩ ?_))
    all_goals ((try simp only[au,ar,an,Act.put,ak,ay,az]);go_simp)
   refine eG (i:=8) (o:=_) zK Z (λK hK=>?_);rw[if_pos (by rfl)];refine eC 75 (.tmp 4) (.tmp 29) Z gr #[aa H n,.bool m] Z Z 75 #[aa H 0,ah X] u zK Z (by simp[aB]) ?_;refine hK.out _ _ (λh=>absurd h zD) ?_;refine aG zK ?_ _;have kp5:Bk (qg.setRow gr #[aa H n,.bool m]) k.gp _ (pcG _ k I (mm+1) e0 G qb):=(setRow_other _ _ _ _ M).trans c;have Ns:=setRow_heap _ _ #[aa H 0,ah X] #[aa H n,.bool m] 75 (0,0) u;have U:Stp k.gp w (qg.setRow gr #[aa H n,.bool m]):=⟨d.os,d.tape,d.output,by have:=d.size;simpa[W.setRow] using this,λb' hb' hn'=>(setRow_other _ gr b' _ M).trans (d.block b' hb' hn')⟩;generalize qg.setRow gr #[aa H n,.bool m]=w6 at *;go_wp2_with fail;refine aS (v:=pd n m) (bQ (p:=4) (ty:=75) Z _ _ gr 75 #[aa H n,.bool m] (0,0) _ Z Ns underlying75 Z zK) Z (.inr ⟨pd n m,Z,⟨(n,m),by rw[A.out];exact N.out.2,Z,?_,by rw[A.out];exact N.out.1⟩,U⟩);exact qf.out.step (z':=z.got) U ⟨I,e0,G,qb,by rw[show z.got.made=mm+1 from congrArg (· +1) A.out];exact kp5,HGG.stp U,HEE⟩ (by show z.made+1<=_;rw[A.out];omega)
end
section
open Go.RowKit
set_option maxRecDepth 100000
attribute [local go_sem ↓] aQ aR
variable {f tp tv fd:Nat}
section
variable {β:Type} {w:W} {k:Pk} {z:Pz} {log:Log} {q:An β}
theorem fN.trans{g:W}{R:I->W->Prop}{e:jK}{w':W}(h:fN fd k q g R e w')(i:Stp k.gp w g):fN fd k q w R e w':=by
 rcases h with⟨a,c,d,b⟩|⟨v,c,d,b⟩
 ·exact .inl ⟨a,c,d,i.trans b⟩
 exact .inr ⟨v,c,d,i.trans b⟩
theorem iL(c:Loc)(d:Int)(F:Int × Bool->Pz->Log->An β)(h:PcG tp tv fd w k z log)(C:d=adr k.l c)(j:q=doR ⟨1,c,0,0⟩ z F (log.drop z.made))(i:(f,tp,tv,fd)∈[(184,211,199,181),(134,174,154,126),(147,186,158,143)]:=by decide):
  U ao f #[ptr k.gp,V H d] w (fN fd k q w λv n=>∃x,log[z.made]? =J x/\v=V H x.1/\PcG tp tv fd n k z.got log/\q=F x z.got (log.drop (z.made+1))):=by
 simp only[aL,ly,be,or_false]at i;rcases i with⟨rfl,rfl,rfl,rfl⟩|⟨rfl,rfl,rfl,rfl⟩|⟨rfl,rfl,rfl,rfl⟩;all_goals
  subst C;obtain⟨L,e0,D,Q,g,-,-⟩:=h.kp;have t:=g.cell 31;have I:=g.lt;simp at t;have P:=jY;have E:=vX;first|go_enter func184,ntmps184|go_enter func134,ntmps134|go_enter func147,ntmps147
  go_wp2_with fail;refine(pdo ⟨1,c,0,0⟩ F h j).mono ?_;rintro e K (⟨a,s,rfl,A⟩|⟨v,rfl,⟨⟨y,m⟩,u,rfl,l,B⟩,o⟩)
  ·exact⟨Z,.inl ⟨a,s,Z,A⟩⟩
  have b:=N (al u (al l (al B o)));go_wp2;go_ret;exact .inr ⟨_,Z,⟨(y,m),b.out.1,Z,b.out.2.1,b.out.2.2.1⟩,b.out.2.2.2⟩
theorem ir(c:Loc)(d v:Int)(F:Int × Bool->Pz->Log->An β)(h:PcG tp tv fd w k z log)(D:d=adr k.l c)(j:q=doR ⟨2,c,0,v⟩ z F (log.drop z.made))(i:(f,tp,tv,fd)∈[(189,211,199,181),(130,174,154,126),(176,186,158,143)]:=by decide):
  U ao f #[ptr k.gp,V H d,V H v] w (fN fd k q w λu n=>∃x,log[z.made]? =J x/\u= .tuple #[]/\PcG tp tv fd n k z.got log/\q=F x z.got (log.drop (z.made+1))):=by
 simp only[aL,ly,be,or_false]at i;rcases i with⟨rfl,rfl,rfl,rfl⟩|⟨rfl,rfl,rfl,rfl⟩|⟨rfl,rfl,rfl,rfl⟩;all_goals
  subst D;obtain⟨K,e0,E,I,g,-,-⟩:=h.kp;have t:=g.cell 31;have L:=g.lt;simp at t;first|go_enter func189,ntmps189|go_enter func130,ntmps130|go_enter func176,ntmps176
  go_wp2_with fail;refine(pdo ⟨2,c,0,v⟩ F h j).mono ?_;rintro e P (⟨a,s,rfl,B⟩|⟨u,rfl,⟨⟨A,m⟩,y,rfl,l,C⟩,o⟩)
  ·exact⟨Z,.inl ⟨a,s,Z,B⟩⟩
  have b:=N (al y (al l (al C o)));go_wp2;exact aS (v:=.tuple #[]) (gT Z _ _ _) Z (.inr ⟨_,Z,⟨(A,m),b.out.1,Z,b.out.2.1,b.out.2.2.1⟩,b.out.2.2.2⟩)
theorem nY(c:Loc)(d o v:Int)(F:Int × Bool->Pz->Log->An β)(h:PcG tp tv fd w k z log)(E:d=adr k.l c)(j:q=doR ⟨3,c,o,v⟩ z F (log.drop z.made))(i:(f,tp,tv,fd)∈[(191,211,199,181),(137,174,154,126),(148,186,158,143)]:=by decide):
  U ao f #[ptr k.gp,V H d,V H o,V H v] w (fN fd k q w λu n=>∃x,log[z.made]? =J x/\u= .bool x.2/\PcG tp tv fd n k z.got log/\q=F x z.got (log.drop (z.made+1))):=by
 simp only[aL,ly,be,or_false]at i;rcases i with⟨rfl,rfl,rfl,rfl⟩|⟨rfl,rfl,rfl,rfl⟩|⟨rfl,rfl,rfl,rfl⟩;all_goals
  subst E;obtain⟨I,e0,P,L,g,-,-⟩:=h.kp;have y:=g.cell 31;have K:=g.lt;simp at y;have S:=jY;have Q:=vX;first|go_enter func191,ntmps191|go_enter func137,ntmps137|go_enter func148,ntmps148
  go_wp2_with fail;refine(pdo ⟨3,c,o,v⟩ F h j).mono ?_;rintro e M (⟨a,t,rfl,C⟩|⟨u,rfl,⟨⟨B,m⟩,A,rfl,l,D⟩,s⟩)
  ·exact⟨Z,.inl ⟨a,t,Z,C⟩⟩
  have b:=N (al A (al l (al D s)));go_wp2;go_ret;exact .inr ⟨_,Z,⟨(B,m),b.out.1,Z,b.out.2.1,b.out.2.2.1⟩,b.out.2.2.2⟩
theorem jv(h:PcG tp tv fd w k z log)(i:1<=z.made)(b:(f,tp,tv,fd)∈[(192,211,199,181),(133,174,154,126),(149,186,158,143)]:=by decide):
  U ao f #[ptr k.gp] w (oK ((z.made-1:Nat):Int) w):=by
 simp only[aL,ly,be,or_false]at b;rcases b with⟨rfl,rfl,rfl,rfl⟩|⟨rfl,rfl,rfl,rfl⟩|⟨rfl,rfl,rfl,rfl⟩;all_goals
  obtain⟨l,e0,e,n,c,-,-⟩:=h.kp;have a:=c.cell 27;have m:=c.lt;have j:=h.le;have d:=h.mle;simp at a;obtain⟨mm,g⟩:∃x,z.made=x+1:=⟨z.made-1,M⟩;rw[g]at a d ⊢;have e:(((mm+1:Nat):Int)-1)=mm:=M;first|go_enter func192,ntmps192|go_enter func133,ntmps133|go_enter func149,ntmps149
  go_wp2_with fail;go_ret;exact⟨ju zS,Z⟩
theorem MO{b:I}{i:Nat}{e0 a c:Int}(e:Bk w k.gp tp (pcG fd k b i e0 a c)):∀(j:Nat) (v:I),(lyC k.l)[j]? =J v->w.cell? ⟨k.gp,0+j,Y⟩=J v:=by
 intro j v h;have d:j<25:=(a9.1 h).1;rw[ea,e.cell j,show pcG fd k b i e0 a c=lyC k.l++#[V H k.me,b,V H (i:Nat),V H e0,V H a,V H c,doG fd k]from Z,Array.getElem?_append_left d];exact h
def Hd(k:Pk)(w:W):Prop:=(∀(j:Nat) (v:I),(lyC k.l)[j]? =J v->w.cell? ⟨k.gp,0+j,Y⟩=J v)/\w.cell? ⟨k.gp,25,Y⟩=J (V H k.me)
theorem PcG.hd(h:PcG tp tv fd w k z log):Hd k w:=by
 obtain⟨d,e0,c,b,a,-,-⟩:=h.kp;exact⟨MO a,a.cell 25⟩
theorem Hd.lay(h:Hd k w):(cL 34 ⟨k.gp,0,Y⟩).run ao w= .ok (lyV k.l) w:=de w k.gp 0 34 (lyC k.l) _ h.1 aK Z zK
theorem Hd.at_(h:Hd k w)(j:Nat)(v:I)(a:(lyC k.l)[j]? =J v):w.cell? ⟨k.gp,j,Y⟩=J v:=by have:=h.1 j v a;rwa [ea]at this
theorem C3{o:Oper}{a:Act}{x:vn}(ho:o.op= .load 34 x)(b:a.eval x=ptr k.gp)(h:Hd k w):(nO a.eval o).run ao w= .ok (.value (lyV k.l)) w:=by
 unfold nO;simp only[ho,b,ptr,Instr.loadAt,uS,cD,dF,bC,h.lay]
theorem fR(n i:Int)(h:PcG tp tv fd w k z log)(c:n<=9223372036854775807)(a:(f,tp,tv,fd)∈[(185,211,199,181),(131,174,154,126),(146,186,158,143)]:=by decide):
  U ao f #[ptr k.gp,V H n,V H i] w (gy (nodeAt k.l n i) w):=by
 simp only[aL,ly,be,or_false]at a;rcases a with⟨rfl,rfl,rfl,rfl⟩|⟨rfl,rfl,rfl,rfl⟩|⟨rfl,rfl,rfl,rfl⟩;all_goals
  obtain⟨o,e0,m,t,g,-,-⟩:=h.kp;have b:=N (MO g);have s:=h.lt;have j:=N h.f;first|go_enter func185,ntmps185|go_enter func131,ntmps131|go_enter func146,ntmps146
  go_wp2_with (refine fG Z 34 (.tmp 9) Z k.gp 0 Z (lyC k.l) _ b.out aK Z zK ?_);refine(dE k.l n i w j.out c).mono ?_;rintro e l ⟨rfl,d⟩;go_wp2_with fail;go_ret;exact⟨rfl,d⟩
end
end
section
open Go.RowKit
set_option maxRecDepth 100000
attribute [local go_sem ↓] aQ aR
variable {f tp tv fd:Nat}
def madeOf(gp:Nat)(w:W):Nat:=match w.cell? ⟨gp,27,Y⟩with|some (.int _ z)=>z.toNat|_=>0
section
variable {β:Type} {w:W} {k:Pk} {z:Pz} {log:Log} {q:An β}
theorem cU(h:PcG tp tv fd w k z log):madeOf k.gp w=z.made:=by
 obtain⟨d,e0,c,b,a,-,-⟩:=h.kp;have h:=a.cell 27;unfold madeOf;rw[h];simp
theorem xw(h:PcG tp tv fd w k z log){i:Nat}(hi:i<3):w.cell? ⟨k.gp,28+i,Y⟩=J (V H (z.eras.getD i 0)):=by
 obtain⟨d,e0,c,b,a,-,hE⟩:=h.kp;rw[a.cell,hE];have:i=0\/i=1\/i=2:=M;rcases this with rfl|rfl|rfl<;>rfl
theorem C4(h:PcG tp tv fd w k z log)(i:Nat):w.frozen? ⟨k.gp,28+i,Y⟩=X:=by
 obtain⟨d,e0,c,b,a,-,hE⟩:=h.kp;exact a.free _
theorem PcG.era(h:PcG tp tv fd w k z log){i:Nat}(hi:i<3)(e:Int):PcG tp tv fd (w.setCell ⟨k.gp,28+i,Y⟩ (V H e)) k { z with eras:=z.eras.set i e } log:=by
 refine h.step (Stp.set w k.gp (28+i) _) ?_ h.mle;obtain⟨b,e0,d,g,l,j,hE⟩:=h.kp;have c:=l.stored (28+i) (V H e);have a:=j.stp (Stp.set w k.gp (28+i) (V H e));have:i=0\/i=1\/i=2:=M;rcases this with rfl|rfl|rfl
 ·exact⟨b,e,d,g,c,a,by rw[hE];rfl⟩
 ·exact⟨b,e0,e,g,c,a,by rw[hE];rfl⟩
 exact⟨b,e0,d,e,c,a,by rw[hE];rfl⟩
def O0(k:Pk)(th:Int)(F:Ret->Pz->Log->An β)(log:Log)(q:An β)(i:Nat)(c:Loc)(m0:Nat)(w wr:W):Prop:=
 ∃a,PcG tp tv fd wr k a log/\Stp k.gp w wr/\q=js th k.me F (.g1 i c) a (log.drop a.made)/\m0<=a.made
theorem wy(th:Int)(i:Nat)(c:Loc)(O:Int)(F:Ret->Pz->Log->An β)(h:PcG tp tv fd w k z log)(hi:i<3)(hc:O=adr k.l c)(o:q=js th k.me F (.g1 i c) z (log.drop z.made))(hI:(f,tp,tv,fd)∈[(196,211,199,181),(172,174,154,126),(145,186,158,143)]:=by decide):
  Calls ao f #[ptr k.gp,aa H (i:Nat),aa H O] w (fN fd k q w λu qe=>∃v p x,u= .tuple #[aa H v,aa H (p:Nat)]/\PcG tp tv fd qe k x log/\q=F (.gd v p) x (log.drop x.made)/\z.made<x.made/\p<x.made):=by
 simp only[aL,ly,be,or_false]at hI;rcases hI with⟨rfl,rfl,rfl,rfl⟩|⟨rfl,rfl,rfl,rfl⟩|⟨rfl,rfl,rfl,rfl⟩;all_goals
  have D:=N (show O0 k th F log q i c z.made w w from⟨z,h,Stp.refl _ _,o,aq _⟩);have m:=h.lt;have hi3:(i:Int)<3:=zO;have HC:=N hc;clear h o hc;first|go_enter func196,ntmps196|go_enter func172,ntmps172|go_enter func145,ntmps145
  go_wp2_with fail;go_loopw [7] (λ_ wr=>O0 k th F log q i c z.made w wr) (λ_ wr=>log.length+1-madeOf k.gp wr)
  case atStart=>exact D.out
  clear D m;obtain⟨b,M,d,o,BF⟩:=hrel;have HM0:=N BF;clear BF;have HM:=N (cU M);go_wp2_with fail;(with_reducible refine(iL c O (λr _ C=>fx th k.me F (Sub.stp th b (.g1 i c) r) C) M HC.out (o.trans (h8 _ _ _ _ _ _))).mono ?_);rintro e w2 (⟨a,t,rfl,B⟩|⟨v,rfl,⟨⟨qa,x2⟩,hx,rfl,y,G⟩,qd⟩)
  ·exact⟨Z,.inl ⟨a,t,Z,d.trans B⟩⟩
  replace d:=d.trans qd;have fH:=(aC.1 hx).1;have JY:=N (al HM.out fH);clear M o qd hx HM fH;go_wp2_with fail;(with_reducible refine(jv y (eK _ _)).mono ?_);rintro e w3 ⟨rfl,rfl⟩;go_upto_region 3 with fail;have c11:w3.cell? ⟨k.gp,11,Y⟩=J (aa H k.l.era):=by obtain⟨gv,e0,e1,e2,kp,-,-⟩:=y.kp;exact kp.cell 11
  have m:=y.lt;go_wp2_with fail;replace G:q=js th k.me F (.g2 i c qa) b.got (log.drop b.got.made):=G;(with_reducible refine(iL .era k.l.era (λr _ C=>fx th k.me F (Sub.stp th b.got (.g2 i c qa) r) C) y Z (G.trans (h8 _ _ _ _ _ _))).mono ?_);rintro e I (⟨a,t,rfl,B⟩|⟨v,rfl,⟨⟨g,y2⟩,W,rfl,j,Ju⟩,qf⟩)
  ·exact⟨Z,.inl ⟨a,t,Z,d.trans B⟩⟩
  replace d:=d.trans qf;have HY:=N W;clear y G qf W c11 m;have qc:I.cell? ⟨k.gp,28+i,Y⟩=J (aa H (b.got.eras.getD i 0)):=xw j hi;have m:=j.lt;obtain⟨Q,R⟩:=nM (b.got.eras.getD i 0);rw[R]at qc;have HEZ:=N R;have P:=N Ju;clear R Ju;by_cases n:g=Q
  ·have heb:(g==Q)=true:=by simp[n]
   have HE:=N n;clear n;go_wp2_with fail;refine aS (v:=.tuple #[aa H qa,aa H ((b.got.made-1:Nat):Int)]) (by rw[results_tmp2 Z];rfl) Z (.inr ⟨_,Z,⟨qa,b.got.made-1,b.got.got,Z,j,?_,by have:=HM0.out;show z.made<b.made+1+1;omega,by show b.made+1-1<b.made+1+1;omega⟩,d⟩);rw[P.out];show fx th k.me F (if g=b.got.eras.getD i 0 then _ else _) _=_;rw[if_pos (HE.out.trans HEZ.out.symm)];rfl
  have heb:(g==Q)=X:=by simp[n]
  have A:q=js th k.me F (.g3 i c g) b.got.got (log.drop (b.got.made+1)):=by
   rw[P.out];show fx th k.me F (if g=b.got.eras.getD i 0 then _ else _) _=_;rw[if_neg (λe=>n (e.trans HEZ.out))];rfl
  have iB:=N A;clear n A P;go_upto_region 6 with fail;refine aH (S:=Hd k) (E:=λ_=>X) zK ?_;replace j:PcG _ _ _ I.drew k b.got.got log:=j.aw (bD I);replace d:=d.drew;clear qc m;generalize I.drew=w5 at *;refine wTq 11 [(0,31,ptr k.gp),(1,32,ptr k.gp),(2,33,ptr k.gp),(3,34,ptr k.gp),(4,35,lyV k.l),(5,36,ptr k.gp),(6,37,ptr k.gp),(7,38,ae (J ⟨k.gp,25,Y⟩)),(8,39,aa H k.me),(9,40,aa H (i:Nat)),(11,42,aa H g)] ?_ j.hd ?_
  ·intro qe T;have c25:=T.2;have kE:=T.lay
   (repeat' (first|exact bd|refine al ⟨_,Z,.inl ⟨Z,?_⟩⟩ ?_))
   all_goals first|exact C3 Z Z T|((try simp only[au,ar,an,Act.put,ak,ay,az]);go_simp;done)
  refine wOq 10 (λK s=>?_);go_simp;(with_reducible refine(Cc k.l k.me i w5 j.f).mono ?_);rintro e w6 ⟨rfl,U⟩;replace j:=j.aw U;replace d:=d.trans (.aT _ U);refine sO s (λ_=>j.hd) ?_;clear s K U;refine wOq 12 (λK s=>?_);go_simp;(with_reducible refine(ir (.resv k.me i) (vV k.l k.me i) g (λr _ C=>fx th k.me F (Sub.stp th b.got.got (.g3 i c g) r) C) j rfl (iB.out.trans (h8 _ _ _ _ _ _))).mono ?_);rintro e L (⟨a,t,rfl,B⟩|⟨v,rfl,⟨⟨t1,t2⟩,ht,rfl,l,A⟩,DE⟩)
  ·exact⟨Z,.inl ⟨a,t,Z,d.trans B⟩⟩
  replace d:=d.trans DE;have hlt2:=(aC.1 ht).1;refine sO s (λ_=>l.hd) ?_;clear s K j DE ht;refine aG zK ?_ _;have m:=l.lt;have fe:=C4 l i;have qc:=xw l hi;have qb:=l.era hi g;have V:=d.trans (Stp.set L k.gp (28+i) (aa H g));have D:=N (show O0 k th F log q i c z.made w (L.setCell ⟨k.gp,28+i,Y⟩ (aa H g))from⟨_,qb,V,A,by have:=HM0.out;show z.made<=b.made+1+1+1;omega⟩);have NT:=cU qb;have DI:=N (show log.length+1-madeOf k.gp (L.setCell ⟨k.gp,28+i,Y⟩ (aa H g))<log.length+1-madeOf k.gp wr by
   rw[NT,JY.out.1];show log.length+1-(b.made+1+1+1)<log.length+1-b.made;have:=JY.out.2;omega)
  clear l qb d V NT hlt2 A;go_wp2_with fail;go_roundw
  case rel=>exact D.out
  case measure=>exact DI.out
def J0(k:Pk)(th:Int)(F:Ret->Pz->Log->An β)(log:Log)(q:An β)(es:List Int)(w:W)(b:I)(wr:W):Prop:=
 ∃(j:Nat) (a:Pz),b=V H (j:Nat)/\j<=3/\PcG tp tv fd wr k a log/\Stp k.gp w wr/\(∀i,j<=i->a.eras.getD i 0=es.getD i 0)/\q=fx th k.me F (df a j) (log.drop a.made)
theorem gK(th:Int)(F:Ret->Pz->Log->An β)(h:PcG tp tv fd w k z log)(n:q=fx th k.me F (df z 0) (log.drop z.made))(N:(f,tp,tv,fd)∈[(186,211,199,181),(141,174,154,126),(151,186,158,143)]:=by decide):
  Calls ao f #[ptr k.gp] w (fN fd k q w λu w'=>∃D,u= .tuple #[]/\PcG tp tv fd w' k D log/\q=F .un D (log.drop D.made)):=by
 simp only[aL,ly,be,or_false]at N;rcases N with⟨rfl,rfl,rfl,rfl⟩|⟨rfl,rfl,rfl,rfl⟩|⟨rfl,rfl,rfl,rfl⟩;all_goals
  have g:=aj (show J0 k th F log q z.eras w (V H 0) w from⟨0,z,Z,zO,h,Stp.refl _ _,λ_ _=>Z,n⟩);have lp:=h.lt;obtain⟨gv,e0,o,A,G,-,hE⟩:=h.kp;have U:=G.cell 28;have c29:=G.cell 29;have c30:=G.cell 30;simp at U c29 c30;rw[hE]at g;first|go_enter func186,ntmps186|go_enter func141,ntmps141|go_enter func151,ntmps151
  go_wp2_with fail;go_loopw [8] (λqa wr=>J0 k th F log q [e0,o,A] w qa wr) (λqa _=>(4:Nat)-(intOf qa).toNat)
  case atStart=>exact g.out
  obtain⟨j,b,rfl,hj,d,c,T,n⟩:=hrel;by_cases y:j<3;rotate_left
  ·have hjb:decide ((j:Int)<3)=X:=zP;have qe:j=3:=zO;have I:=aj (al d (al c (show q=F .un b (log.drop b.made)by rw[n,qe];rfl)));go_wp2_with fail;exact aS (v:=.tuple #[]) (gT Z _ _ _) Z (.inr ⟨_,Z,⟨b,Z,I.out.1,I.out.2.2⟩,I.out.2.1⟩)
  have hjb:decide ((j:Int)<3)=O:=zP;have hjl:(j:Int)<3:=zO;obtain⟨m,P⟩:=nM (b.eras.getD j 0);have qD:∀w',(Instr.index 134 (.agg #[V H e0,V H o,V H A]) (V H (j:Nat))).run ao w'= .ok (V H m) w':=by
   have s:=T j (aq _);rw[P]at s;have:j=0\/j=1\/j=2:=zO;rcases this with rfl|rfl|rfl<;>(have qd:m=_:=s;rw[qd];intro w';kernel_rfl)
  have qb:=aj P;have M:=aj n;have L:=aj T;by_cases t:m=0
  ·have h0b:(m != 0)=X:=by simp[t]
   have C:=M.out.trans (congrArg (λx=>fx th k.me F x _) (Ld y (qb.out.trans t)));have g:=aj (show J0 k th F log q [e0,o,A] w (V H ((j+1:Nat):Int)) wr from⟨j+1,b,Z,zO,d,c,λi hi=>L.out i zO,C⟩);go_wp2_with fail;go_roundw
   case rel=>exact g.out
   case measure=>simp[intOf];omega
  have h0b:(m != 0)=O:=by simp[t]
  go_upto_region 4 with fail;have C:=M.out.trans (congrArg (λx=>fx th k.me F x _) (Ox y (by rw[qb.out];exact t)));have qf:=aj (show q=js th k.me F (.cl j) b (log.drop b.made)from C);refine aH (S:=Hd k) (E:=λ_=>X) zK ?_;replace d:PcG _ _ _ wr.drew k b log:=d.aw (bD wr);replace c:=c.drew;generalize wr.drew=w5 at *;refine wTq 10 [(0,14,ptr k.gp),(1,15,ptr k.gp),(2,16,ptr k.gp),(3,17,ptr k.gp),(4,18,lyV k.l),(5,19,ptr k.gp),(6,20,ptr k.gp),(7,21,ae (some ⟨k.gp,25,Y⟩)),(8,22,V H k.me),(9,23,V H (j:Nat))] ?_ d.hd ?_
  ·intro w' Q;have c25:=Q.2
   (repeat' (first|exact bd|refine al ⟨_,Z,.inl ⟨Z,?_⟩⟩ ?_))
   all_goals first|exact C3 Z Z Q|((try simp only[au,ar,an,Act.put,ak,ay,az]);go_simp;done)
  refine wOq 10 (λK B=>?_);go_simp;(with_reducible refine(Cc k.l k.me j w5 d.f).mono ?_);rintro e w6 ⟨rfl,R⟩;replace d:=d.aw R;replace c:=c.trans (.aT _ R);refine sO B (λ_=>d.hd) ?_;refine wOq 11 (λK B=>?_);go_simp;(with_reducible refine(ir (.resv k.me j) (vV k.l k.me j) 0 (λr _ l'=>fx th k.me F (Sub.stp th b (.cl j) r) l') d rfl (qf.out.trans (h8 _ _ _ _ _ _))).mono ?_);rintro e J (⟨a,s,rfl,h3⟩|⟨v,rfl,⟨⟨t1,t2⟩,ht,rfl,l,hq4⟩,DE⟩)
  ·exact⟨Z,.inl ⟨a,s,Z,c.trans h3⟩⟩
  replace c:=c.trans DE;refine sO B (λ_=>l.hd) ?_;refine aG zK ?_ _;have lp:=l.lt;have fe:=C4 l j;have ce:=xw l y;have qc:=l.era y 0;have W:=c.trans (Stp.set J k.gp (28+j) (V H 0));have g:=aj (show J0 k th F log q [e0,o,A] w (V H ((j+1:Nat):Int)) (J.setCell ⟨k.gp,28+j,Y⟩ (V H 0))from⟨j+1,_,Z,zO,qc,W,λi hi=>by
   rw[<- L.out i zO];show (b.eras.set j 0).getD i 0=b.eras.getD i 0;simp only[List.getD,List.getElem?_set];rw[if_neg zO],hq4⟩)
  go_wp2_with fail;go_roundw
  case rel=>exact g.out
  case measure=>simp[intOf];omega
end
end
section
open Go.RowKit
set_option maxRecDepth 100000
attribute [local go_sem ↓] aQ aR
variable {gb:Nat} {t:bM}
variable {f tp tv fd:Nat}
section
variable {β:Type} {w:W} {k:Pk} {z:Pz} {log:Log} {q:An β}
def ud(k:Pk)(th:Int)(F:Ret->Pz->Log->An β)(log:Log)(q:An β)(x:Sub)(m0:Nat)(w wr:W):Prop:=
 ∃a,PcG tp tv fd wr k a log/\Stp k.gp w wr/\q=js th k.me F x a (log.drop a.made)/\m0<=a.made
theorem MK(th:Int)(F:Ret->Pz->Log->An β)(h:PcG tp tv fd w k z log)(qd:q=js th k.me F .t1 z (log.drop z.made))(qe:(f,tp,tv,fd)∈[(188,211,199,181),(129,174,154,126),(153,186,158,143)]:=by decide):
  Calls ao f #[ptr k.gp] w (fN fd k q w λu D=>∃n p ok G,u= .tuple #[aa H n,aa H (p:Nat),.bool ok]/\PcG tp tv fd D k G log/\q=F (.tk n p ok) G (log.drop G.made)/\0<=n/\n<65536/\z.made<=G.made):=by
 simp only[aL,ly,be,or_false]at qe;rcases qe with⟨rfl,rfl,rfl,rfl⟩|⟨rfl,rfl,rfl,rfl⟩|⟨rfl,rfl,rfl,rfl⟩;all_goals
  have Q:=N (show ud k th F log q .t1 z.made w w from⟨z,h,Stp.refl _ _,qd,aq _⟩);have lp:=h.lt;first|go_enter func188,ntmps188|go_enter func129,ntmps129|go_enter func153,ntmps153
  go_wp2_with fail;go_loopw [3] (λ_ wr=>ud k th F log q .t1 z.made w wr) (λ_ wr=>log.length+1-madeOf k.gp wr)
  case atStart=>exact Q.out
  obtain⟨b,J,c,qd,BF⟩:=hrel;have Y:=N BF;have HM:=N (cU J);have Dm:=J.hd.at_ 12 _ Z;have lp:=J.lt;go_wp2_with fail;refine(iL .free k.l.free (λr _ o=>fx th k.me F (Sub.stp th b .t1 r) o) J Z (qd.trans (h8 _ _ _ _ _ _))).mono ?_;rintro e w2 (⟨a,s,rfl,t⟩|⟨v,rfl,⟨⟨g,x2⟩,hx,rfl,j,zI⟩,hs2⟩)
  ·exact⟨Z,.inl ⟨a,s,Z,c.trans t⟩⟩
  replace c:=c.trans hs2;have JY:=N (al HM.out (aC.1 hx).1);have sT:=N zI;go_upto_region 2 with fail;go_wp2_with fail;refine(gL g _).mono ?_;rintro e qc ⟨rfl,i⟩;replace j:=j.aw i;replace c:=c.trans (Stp.aT _ i);obtain⟨ix,I⟩:=nM (g%65536);obtain⟨A,uC⟩:=nM ((g / 65536%2==1));obtain⟨m,KY⟩:=nM (g / 131072%268435456);have LM:0<=ix/\ix<65536:=zO;rw[I,uC,KY];have B:=N (al I KY);go_upto_region 3 with fail;have d:=Bk.made qc 81 #[aa H ix,.bool A,aa H m];have zg3:=j.lt;replace j:=j.aw (aA bS (ag #[aa H ix,.bool A,aa H m] 81));replace c:=c.alloc (ag #[aa H ix,.bool A,aa H m] 81);generalize qc.alloc (ag #[aa H ix,.bool A,aa H m] 81)=w4 at *;generalize qc.heap.size=gr at *;have qa:gr≠k.gp:=zO;have x:=d.cell 0;have lr:=d.lt;simp at x;by_cases qb:ix=0
  ·have P:idxOf g=0:=B.out.1.trans qb;have R:q=F (.tk 0 b.made X) b.got (log.drop b.got.made):=by
    rw[sT.out];show fx th k.me F (if idxOf g=0 then _ else _) _=_;rw[if_pos P];rfl
   have W:=N R;have xZ:(ix==0)=O:=by simp[qb]
   go_upto_region 4 with fail;go_wp2_with fail;refine(jv j (eK _ _)).mono ?_;rintro e w5 ⟨rfl,rfl⟩;have V:((b.got.made-1:Nat):Int)=(b.made:Nat):=by show ((b.made+1-1:Nat):Int)=_;rw[jJ]
   rw[V];go_wp2_with fail;exact aS (v:=.tuple #[aa H 0,aa H (b.made:Nat),ah X]) (by rw[results_tmp3 Z];rfl) Z (.inr ⟨_,Z,⟨0,b.made,X,b.got,Z,j,W.out,zO,zO,by have:=Y.out;show z.made<=b.made+1;omega⟩,c⟩)
  have P:idxOf g≠0:=λe=>qb (B.out.1.symm.trans e);have R:q=js th k.me F (.t2 g) b.got (log.drop b.got.made):=by
   rw[sT.out];show fx th k.me F (if idxOf g=0 then _ else _) _=_;rw[if_neg P];rfl
  have W:=N R;have xZ:(ix==0)=X:=by simp[qb]
  go_upto_region 5 with fail;go_wp2_with fail;refine(fR ix 7 j zO).mono ?_;rintro e w5 ⟨rfl,i⟩;replace j:=j.aw i;replace d:=d.aw i;replace c:=c.trans (Stp.aT _ i);go_wp2_with fail;refine(iL (.nd (idxOf g) 7) (nodeAt k.l ix 7) (λr _ o=>fx th k.me F (Sub.stp th b.got (.t2 g) r) o) j (by rw[<- B.out.1];simp only[adr,idxOf]) (W.out.trans (h8 _ _ _ _ _ _))).mono ?_;rintro e T (⟨a,s,rfl,t⟩|⟨v,rfl,⟨⟨y1,y2⟩,hy,rfl,l,hq4⟩,sj⟩)
  ·exact⟨Z,.inl ⟨a,s,Z,c.trans t⟩⟩
  replace c:=c.trans sj;replace d:=sj.aw d qa;have iB:=N (show q=js th k.me F (.t3 g y1) b.got.got (log.drop b.got.got.made)from hq4);go_upto_region 6 with fail;refine aH (S:=λD=>Hd k D/\Bk D gr 81 #[aa H ix,.bool A,aa H m]) (E:=λ_=>X) zK ?_;replace l:PcG _ _ _ T.drew k b.got.got log:=l.aw (bD T);replace c:=c.drew;replace d:=d.drew;generalize T.drew=w7 at *;refine wTq 9 [(0,29,ptr k.gp),(1,30,ptr k.gp),(2,31,ptr k.gp),(3,32,ptr k.gp),(4,33,ae (some ⟨k.gp,12,none⟩)),(5,34,aa H k.l.free),(6,35,aa H g),(7,36,mW ix A m),(8,37,aa H y1)] ?_ ⟨l.hd,d⟩ ?_
  ·intro D L;have Dm:=L.1.at_ 12 _ Z;obtain⟨x,r1,r2⟩:=cE L.2;simp at x r1 r2;exact zT
  refine wOq 9 (λK C=>?_);go_simp;refine(jQ ix A m y1 w7).mono ?_;rintro e w8 ⟨rfl,i⟩;replace l:=l.aw i;replace d:=d.aw i;replace c:=c.trans (Stp.aT _ i);refine sO C (λ_=>⟨l.hd,d⟩) ?_;refine wOq 10 (λK C=>?_);go_simp;refine(gk (y1%65536) X ((m+1)%268435456) w8).mono ?_;rintro e w9 ⟨rfl,i⟩;replace l:=l.aw i;replace d:=d.aw i;replace c:=c.trans (Stp.aT _ i);have BC:dL (y1%65536) X ((m+1)%268435456)=dC g y1:=by unfold dC kH;rw[B.out.2]
  rw[BC];refine sO C (λ_=>⟨l.hd,d⟩) ?_;refine wOq 11 (λK C=>?_);go_simp;refine(nY .free k.l.free g (dC g y1) (λr _ o=>fx th k.me F (Sub.stp th b.got.got (.t3 g y1) r) o) l Z (iB.out.trans (h8 _ _ _ _ _ _))).mono ?_;rintro e uq (⟨a,s,rfl,t⟩|⟨v,rfl,⟨⟨t1,t2⟩,ht,rfl,y,hq5⟩,DE⟩)
  ·exact⟨Z,.inl ⟨a,s,Z,c.trans t⟩⟩
  replace c:=c.trans DE;replace d:=DE.aw d qa;have HT:=N ht;have rK:=N hq5;refine sO C (λ_=>⟨y.hd,d⟩) ?_;refine aG zK ?_ _;cases t2 with
  | false=>
   have Q:=N (show ud k th F log q .t1 z.made w uq from⟨_,y,c,rK.out,by have:=Y.out;show z.made<=b.made+1+1+1;omega⟩);have NT:=cU y;have DI:=N (show log.length+1-madeOf k.gp uq<log.length+1-madeOf k.gp wr by
    rw[NT,JY.out.1];show log.length+1-(b.made+1+1+1)<log.length+1-b.made;have:=JY.out.2;omega)
   go_wp2_with fail;go_roundw
   case rel=>exact Q.out
   case measure=>exact DI.out
  | true=>
   go_upto_region 7 with fail;go_wp2_with fail;refine(jv y (eK _ _)).mono ?_;rintro e qJ ⟨rfl,rfl⟩;have V:((b.got.got.got.made-1:Nat):Int)=(b.got.got.made:Nat):=by show ((b.got.got.made+1-1:Nat):Int)=_;rw[jJ]
   rw[V];have c11:=y.hd.at_ 11 _ Z;have lp:=y.lt;have vm:=N (show q=js th k.me F (.t4 (idxOf g) b.got.got.made) b.got.got.got (log.drop b.got.got.got.made)from rK.out);go_upto_region 8 with fail;go_wp2_with fail;refine(iL .era k.l.era (λr _ o=>fx th k.me F (Sub.stp th b.got.got.got (.t4 (idxOf g) b.got.got.made) r) o) y Z (vm.out.trans (h8 _ _ _ _ _ _))).mono ?_;rintro e DD (⟨a,s,rfl,t⟩|⟨v,rfl,⟨⟨U,b2⟩,CV,rfl,M,hq7⟩,NF⟩)
   ·exact⟨Z,.inl ⟨a,s,Z,c.trans t⟩⟩
   replace c:=c.trans NF;replace d:=NF.aw d qa;have uj:=N (show q=js th k.me F (.t5 (idxOf g) U b.got.got.made) b.got.got.got.got (log.drop b.got.got.got.got.made)from hq7);have x:=d.cell 0;have lr:=d.lt;simp at x;go_upto_region 9 with fail;go_wp2_with fail;refine(fR ix 6 M zO).mono ?_;rintro e w13 ⟨rfl,i⟩;replace M:=M.aw i;replace d:=d.aw i;replace c:=c.trans (Stp.aT _ i);go_wp2_with fail;refine(ir (.nd (idxOf g) 6) (nodeAt k.l ix 6) U (λr _ o=>fx th k.me F (Sub.stp th b.got.got.got.got (.t5 (idxOf g) U b.got.got.made) r) o) M (by rw[<- B.out.1];simp only[adr,idxOf]) (uj.out.trans (h8 _ _ _ _ _ _))).mono ?_;rintro e w14 (⟨a,s,rfl,t⟩|⟨v,rfl,⟨⟨b3,b4⟩,CV,rfl,hp6,hq8⟩,hs6⟩)
   ·exact⟨Z,.inl ⟨a,s,Z,c.trans t⟩⟩
   replace c:=c.trans hs6;replace d:=hs6.aw d qa;have DC:=N (show q=F (.tk (idxOf g) b.got.got.made O) _ (log.drop _)from hq8);have I:idxOf g=ix:=B.out.1;rw[I]at DC;have x:=d.cell 0;have lr:=d.lt;simp at x;go_wp2_with fail;exact aS (v:=.tuple #[aa H ix,aa H (b.got.got.made:Nat),ah O]) (by rw[results_tmp3 Z];rfl) Z (.inr ⟨_,Z,⟨ix,b.got.got.made,O,_,Z,hp6,DC.out,LM.1,LM.2,by have:=Y.out;show z.made<=b.made+1+1+1+1+1;omega⟩,c⟩)
theorem MM(th:Int)(n:Int)(F:Ret->Pz->Log->An β)(h:PcG tp tv fd w k z log)(hn:n<=9223372036854775807)(A:q=js th k.me F (.v1 n) z (log.drop z.made))(hI:(f,tp,tv,fd)∈[(187,211,199,181),(139,174,154,126),(150,186,158,143)]:=by decide):
  Calls ao f #[ptr k.gp,aa H n] w (fN fd k q w λu t=>∃J,u= .tuple #[]/\PcG tp tv fd t k J log/\q=F .un J (log.drop J.made)/\z.made<=J.made):=by
 simp only[aL,ly,be,or_false]at hI;rcases hI with⟨rfl,rfl,rfl,rfl⟩|⟨rfl,rfl,rfl,rfl⟩|⟨rfl,rfl,rfl,rfl⟩;all_goals
  have I:=N (show ud k th F log q (.v1 n) z.made w w from⟨z,h,Stp.refl _ _,A,aq _⟩);have T:=h.lt;clear h A;first|go_enter func187,ntmps187|go_enter func139,ntmps139|go_enter func150,ntmps150
  go_wp2_with fail;go_loopw [4] (λ_ wr=>ud k th F log q (.v1 n) z.made w wr) (λ_ wr=>log.length+1-madeOf k.gp wr)
  case atStart=>exact I.out
  clear I T;obtain⟨j,B,b,A,BF⟩:=hrel;have HM0:=N BF;clear BF;have HM:=N (cU B);have Dm:=B.hd.at_ 12 _ Z;have T:=B.lt;go_wp2_with fail;refine(iL .free k.l.free (λr _ qa=>fx th k.me F (Sub.stp th j (.v1 n) r) qa) B Z (A.trans (h8 _ _ _ _ _ _))).mono ?_;rintro e w2 (⟨a,C,rfl,G⟩|⟨v,rfl,⟨⟨l,x2⟩,hx,rfl,i,zI⟩,hs2⟩)
  ·exact⟨Z,.inl ⟨a,C,Z,b.trans G⟩⟩
  replace b:=b.trans hs2;have JY:=N (al HM.out (aC.1 hx).1);have sT:=N (show q=js th k.me F (.v2 n l) j.got (log.drop j.got.made)from zI);clear B A hs2 hx HM zI Dm T;go_upto_region 1 with fail;go_wp2_with fail;refine(gL l _).mono ?_;rintro e U ⟨rfl,d⟩;replace i:=i.aw d;replace b:=b.trans (Stp.aT _ d);clear d;obtain⟨o,V⟩:=nM (l%65536);obtain⟨x,uC⟩:=nM ((l / 65536%2==1));obtain⟨s,qb⟩:=nM (l / 131072%268435456);rw[V,uC,qb];have xU:=N (al V qb);clear V uC qb;go_upto_region 2 with fail;have c:=Bk.made U 81 #[aa H o,.bool x,aa H s];have zg3:=i.lt;replace i:=i.aw (aA bS (ag #[aa H o,.bool x,aa H s] 81));replace b:=b.alloc (ag #[aa H o,.bool x,aa H s] 81);generalize U.alloc (ag #[aa H o,.bool x,aa H s] 81)=qc at *;generalize U.heap.size=L at *;have qQ:L≠k.gp:=zO;refine aH (S:=λt=>Hd k t/\Bk t L 81 #[aa H o,.bool x,aa H s]) (E:=λ_=>X) zK ?_;replace i:PcG _ _ _ qc.drew k j.got log:=i.aw (bD qc);replace b:=b.drew;replace c:=c.drew;generalize qc.drew=w5 at *;refine wTq 5 [(0,15,ptr k.gp),(1,16,ptr k.gp),(2,17,aa H n),(4,19,ae (some ⟨L,0,none⟩)),(5,20,aa H o)] ?_ ⟨i.hd,c⟩ ?_
  ·intro t y;have R:=y.2.cell 0;simp at R;exact zT
  refine wOq 3 (λK g=>?_);go_simp;refine(fR n 7 i hn).mono ?_;rintro e w6 ⟨rfl,d⟩;replace i:=i.aw d;replace c:=c.aw d;replace b:=b.trans (Stp.aT _ d);refine sO g (λ_=>⟨i.hd,c⟩) ?_;clear g K d;refine wOq 6 (λK g=>?_);go_simp;have Y:=sT.out.trans (h8 _ _ _ _ _ _);rw[show (Sub.v2 n l).acc k.me=⟨2,.nd n 7,0,o⟩from by rw[<- xU.out.1];rfl]at Y;have HDO:=N Y;clear Y;refine(ir (.nd n 7) (nodeAt k.l n 7) o (λr _ qa=>fx th k.me F (Sub.stp th j.got (.v2 n l) r) qa) i rfl HDO.out).mono ?_;rintro e M (⟨a,C,rfl,G⟩|⟨v,rfl,⟨⟨t1,qd⟩,Q,rfl,m,Ju⟩,O⟩)
  ·exact⟨Z,.inl ⟨a,C,Z,b.trans G⟩⟩
  replace b:=b.trans O;replace c:=O.aw c qQ;have mB:=N (show q=js th k.me F (.v3 n l) j.got.got (log.drop j.got.got.made)from Ju);refine sO g (λ_=>⟨m.hd,c⟩) ?_;clear g K i O Q Ju sT;refine aG zK ?_ _;go_upto_region 3 with fail;refine aH (S:=λt=>Hd k t/\Bk t L 81 #[aa H o,.bool x,aa H s]) (E:=λ_=>X) zK ?_;replace m:PcG _ _ _ M.drew k j.got.got log:=m.aw (bD M);replace b:=b.drew;replace c:=c.drew;generalize M.drew=w8 at *;refine wTq 9 [(0,22,ptr k.gp),(1,23,ptr k.gp),(2,24,ptr k.gp),(3,25,ptr k.gp),(4,26,ae (some ⟨k.gp,12,none⟩)),(5,27,aa H k.l.free),(6,28,aa H l),(7,29,mW o x s),(8,30,aa H n)] ?_ ⟨m.hd,c⟩ ?_
  ·intro t y;have Dm:=y.1.at_ 12 _ Z;obtain⟨R,r1,r2⟩:=cE y.2;simp at R r1 r2;exact zT
  refine wOq 9 (λK g=>?_);go_simp;refine(jQ o x s n w8).mono ?_;rintro e w9 ⟨rfl,d⟩;replace m:=m.aw d;replace c:=c.aw d;replace b:=b.trans (Stp.aT _ d);refine sO g (λ_=>⟨m.hd,c⟩) ?_;clear g K d;refine wOq 10 (λK g=>?_);go_simp;refine(gk (n%65536) X ((s+1)%268435456) w9).mono ?_;rintro e uq ⟨rfl,d⟩;replace m:=m.aw d;replace c:=c.aw d;replace b:=b.trans (Stp.aT _ d);have BC:dL (n%65536) X ((s+1)%268435456)=dC l n:=by unfold dC kH;rw[xU.out.2]
  rw[BC];refine sO g (λ_=>⟨m.hd,c⟩) ?_;clear g K d BC;refine wOq 11 (λK g=>?_);go_simp;refine(nY .free k.l.free l (dC l n) (λr _ qa=>fx th k.me F (Sub.stp th j.got.got (.v3 n l) r) qa) m Z (mB.out.trans (h8 _ _ _ _ _ _))).mono ?_;rintro e qJ (⟨a,C,rfl,G⟩|⟨v,rfl,⟨⟨t1,qd⟩,Q,rfl,D,hq5⟩,P⟩)
  ·exact⟨Z,.inl ⟨a,C,Z,b.trans G⟩⟩
  replace b:=b.trans P;replace c:=P.aw c qQ;have W:=N hq5;refine sO g (λ_=>⟨D.hd,c⟩) ?_;clear g K m P Q hq5 mB;refine aG zK ?_ _;cases qd with
  | false=>
   have I:=N (show ud k th F log q (.v1 n) z.made w qJ from⟨_,D,b,W.out,by have:=HM0.out;show z.made<=j.made+1+1+1;omega⟩);have NT:=cU D;have DI:=N (show log.length+1-madeOf k.gp qJ<log.length+1-madeOf k.gp wr by
    rw[NT,JY.out.1];show log.length+1-(j.made+1+1+1)<log.length+1-j.made;have:=JY.out.2;omega)
   clear D b c NT W;go_wp2_with fail;go_roundw
   case rel=>exact I.out
   case measure=>exact DI.out
  | true=>
   go_wp2_with fail;exact aS (v:=.tuple #[]) (gT Z _ _ _) Z (.inr ⟨_,Z,⟨_,Z,D,W.out,by have:=HM0.out;show z.made<=j.made+1+1+1;omega⟩,b⟩)
end
section
variable {w:World} {k:Pk} {z:Pz} {log:Log}
theorem Hd.fn(h:PcG tp tv fd w k z log):w.cell? ⟨k.gp,31,Y⟩=J (doG fd k):=by
 obtain⟨d,e0,c,b,a,-,-⟩:=h.kp;exact a.cell 31
theorem PcG.goneSet(h:PcG tp tv fd w k z log){v:I}{g:cq}(a:GnV w k.gp v g):PcG tp tv fd (w.setCell ⟨k.gp,26,Y⟩ v) k { z with gone:=g } log:=by
 refine h.step (Stp.set w k.gp 26 _) ?_ h.mle;obtain⟨i,e0,b,d,c,e,hE⟩:=h.kp;exact⟨v,e0,b,d,c.stored 26 v,a.stp (Stp.set w k.gp 26 v),hE⟩
theorem zU(h:PcG tp tv fd w k z log):∃v,w.cell? ⟨k.gp,26,Y⟩=J v/\GnV w k.gp v z.gone/\w.frozen? ⟨k.gp,26,Y⟩=X:=by
 obtain⟨c,e0,d,e,a,b,hE⟩:=h.kp;exact⟨c,a.cell 26,b,a.free 26⟩
end
def Dz{β:Type}(fd:Nat)(k:Pk)(c:Nat)(q:An β)(w:W)(R:I->W->Prop)(e:jK)(b:W):Prop:=
 (∃a,q= .ask a/\e= .panicked [{ v:=Bm fd k.l a,recovered:=X }]/\cH k.gp c w b)\/(∃v,e= .returned v/\R v b/\cH k.gp c w b)
theorem fN.two{β:Type}{fd:Nat}{k:Pk}{g:Nat}{q:An β}{w:W}{R:I->W->Prop}{e:jK}{w':W}(h:fN fd k q w R e w'):Dz fd k g q w R e w':=by
 rcases h with⟨a,b,d,c⟩|⟨v,b,d,c⟩
 ·exact .inl ⟨a,b,d,c.two⟩
 exact .inr ⟨v,b,d,c.two⟩
theorem PcG.row{tp tv fd:Nat}{k:Pk}{z:Pz}{log:Log}{w:W}{x:Array I}(h:PcG tp tv fd w k z log)(d:Bk w gb t x)(B:k.B<=gb)(c:tp≠t/\tv≠t/\43≠t/\52≠t)(r:Array I):PcG tp tv fd (w.setRow gb r) k z log:=by
 obtain⟨v,e0,s,A,g,m,u⟩:=h.kp;refine⟨⟨v,e0,s,A,g.a6 (g.typ d c.1) r,m.row d c.2.2.2 r,u⟩,h.kv.a6 (h.kv.typ d c.2.1) r,h.kl.a6 (h.kl.typ d c.2.2.1) r,?_,h.ne,h.bp,h.le,h.mle,h.f⟩;intro n;obtain⟨b,o,e,y,i⟩:=h.sl n;exact⟨b,o,e,y,λj a l=>⟨(kI w gb b _ _ M).trans (i j a l).1,(kI w gb b _ _ M).trans (i j a l).2⟩⟩
theorem PcG.dK{tp tv fd:Nat}{k:Pk}{z:Pz}{log:Log}{w:W}{c:Array I}(h:PcG tp tv fd w k z log)(a:Bk w gb 70 c)(b:k.gp<=gb)(r:Array I)(ho:tp≠70/\tv≠70/\43≠70/\52≠70:=by decide):PcG tp tv fd (w.setRow gb r) k z log:=
 h.row a (aF h.bp b) ho r
theorem PcG.pz{tp tv fd:Nat}{k:Pk}{z:Pz}{log:Log}{w:W}{qa:Array I}(h:PcG tp tv fd w k z log)(d:Bk w gb t qa)(U:k.B<=gb)(g:tp≠t/\tv≠t/\43≠t/\52≠t)(i:Nat)(v:I):PcG tp tv fd (w.setCell ⟨gb,i,Y⟩ v) k z log:=by
 obtain⟨H,e0,F,P,C,N,Q⟩:=h.kp;have O:k.gp≠gb:=Bk.typ C d g.1;refine⟨⟨H,e0,F,P,C.other (p:=⟨gb,i,Y⟩) O v,?_,Q⟩,h.kv.other (p:=⟨gb,i,Y⟩) (h.kv.typ d g.2.1) v,h.kl.other (p:=⟨gb,i,Y⟩) (h.kl.typ d g.2.2.1) v,?_,h.ne,h.bp,h.le,h.mle,h.f⟩
 ·obtain⟨G,n,c,S,R,J,L⟩:=N;refine⟨G,n,c,S,R,J,λm=>?_⟩;obtain⟨x,o,K,T,A,E,B⟩:=L m;have l:x≠gb:=A.typ d g.2.2.2;exact⟨x,o,K,T,A.other (p:=⟨gb,i,Y⟩) l v,E,λj y s=>⟨(iO w ⟨gb,i,Y⟩ x _ _ l).trans (B j y s).1,(iO w ⟨gb,i,Y⟩ x _ _ l).trans (B j y s).2⟩⟩
 intro m;obtain⟨b,o,e,M,D⟩:=h.sl m;exact⟨b,o,e,M,λj a u=>⟨(iO w ⟨gb,i,Y⟩ b _ _ (by dsimp only;omega)).trans (D j a u).1,(iO w ⟨gb,i,Y⟩ b _ _ (by dsimp only;omega)).trans (D j a u).2⟩⟩
end
section
open Go.RowKit
set_option maxRecDepth 100000
attribute [local go_sem ↓] aQ aR
variable {f tp tv fd:Nat}
section
variable {β:Type} {w:W} {k:Pk} {z:Pz} {log:Log} {q:An β}
theorem AE(n:Int)(F:Ret->Pz->Log->An β)(h:PcG tp tv fd w k z log)(hs:1<=k.l.c.aO/\k.l.c.aO<=8)(hq:q=js (2*k.l.c.aO) k.me F (.r1 n) z (log.drop z.made))(mF:q≠ .stuck)(hI:(f,tp,tv,fd)∈[(194,211,199,181),(142,174,154,126),(156,186,158,143)]:=by decide):
  Calls ao f #[ptr k.gp,aa H n] w (fN fd k q w λu g=>∃D,u= .tuple #[]/\PcG tp tv fd g k D log/\q=F .un D (log.drop D.made)/\z.made<=D.made):=by
 simp only[aL,ly,be,or_false]at hI;rcases hI with⟨rfl,rfl,rfl,qb⟩|⟨rfl,rfl,rfl,qb⟩|⟨rfl,rfl,rfl,qb⟩;all_goals
  have qf:=h.lt;have c11:=h.hd.at_ 11 _ Z;have HN:=aj mF;first|go_enter func194,ntmps194|go_enter func142,ntmps142|go_enter func156,ntmps156
  go_wp2_with fail;(with_reducible refine(iL (fd:=fd) (i:=by rw[qb];decide) .era k.l.era (λr _ P=>fx (2*k.l.c.aO) k.me F (Sub.stp (2*k.l.c.aO) z (.r1 n) r) P) h Z (hq.trans (h8 _ _ _ _ _ _))).mono ?_);rintro e N (⟨a,M,rfl,Q⟩|⟨v,rfl,⟨⟨d,x2⟩,hx,rfl,A,zI⟩,m⟩)
  ·exact⟨Z,.inl ⟨a,M,Z,Q⟩⟩
  have sT:=aj (show q=js (2*k.l.c.aO) k.me F (.r2 n d) z.got (log.drop z.got.made)from zI);go_upto_region 1 with fail;refine aH (S:=λg=>Hd k g/\g.cell? ⟨k.gp,31,Y⟩=J (doG fd k)) (E:=λ_=>X) zK ?_;replace A:PcG _ _ _ N.drew k z.got log:=A.aw (bD N);replace m:=m.drew;generalize N.drew=w3 at *;refine wTq 10 [(0,19,ptr k.gp),(1,20,ptr k.gp),(2,21,ae (J ⟨k.gp,31,Y⟩)),(3,22,doG fd k),(4,23,ptr k.gp),(5,24,ptr k.gp),(6,25,ptr k.gp),(7,26,ae (J ⟨k.gp,11,Y⟩)),(8,27,aa H k.l.era),(9,28,.agg #[aa H 4,aa H k.l.era,aa H 0,aa H 1])] ?_ ⟨A.hd,Hd.fn A⟩ ?_
  ·intro g t;have c11:=t.1.at_ 11 _ Z;have c31:=t.2;exact zT
  subst qb;refine wOq 10 (λK hK=>?_);unfold doG;go_simp;have hd:Calls ao _ #[.agg #[aa H 4,aa H k.l.era,aa H 0,aa H 1],ptr k.gv,ptr k.gl] w3 _:=pdo ⟨4,.era,0,1⟩ (λr _ P=>fx (2*k.l.c.aO) k.me F (Sub.stp (2*k.l.c.aO) z.got (.r2 n d) r) P) A (sT.out.trans (h8 _ _ _ _ _ _));(with_reducible refine hd.mono ?_);rintro e x (⟨a,M,rfl,Q⟩|⟨v,rfl,⟨⟨y1,y2⟩,hy,rfl,o,T⟩,sj⟩)
  ·exact⟨Z,.inl ⟨a,M,Z,m.trans Q⟩⟩
  replace m:=m.trans sj;refine sO hK (λ_=>⟨o.hd,Hd.fn o⟩) ?_;refine aG zK ?_ _;by_cases C:(z.gone.length:Int)+1<2*k.l.c.aO;rotate_left
  ·exact absurd (by rw[T];show fx _ k.me F (if (z.gone.length:Int)+1<2*k.l.c.aO then _ else _) _=_;rw[if_neg C];rfl) HN.out
  have hq4:q=F .un { z.got.got with gone:=z.gone++[(n,d)] } (log.drop z.got.got.made):=by
   rw[T];show fx _ k.me F (if (z.gone.length:Int)+1<2*k.l.c.aO then _ else _) _=_;rw[if_pos C];rfl
  have iB:=aj (al hq4 C);have uM:z.gone.length<=1000:=zO;obtain⟨W,l,I,-⟩:=zU o;replace I:GnV x k.gp W z.gone:=I;have qf:=o.lt;have i:=aj (al o m);go_upto_region 2 with fail;go_wp2_with fail;(with_reducible refine(I.clone uM).mono ?_);rintro e B ⟨qe,m1,c1,rfl,rfl,hnil,lH,V⟩;have zb:=V.size;obtain⟨t0,yx,sf,tP,sW⟩:=info_parts tC;have kr:=Bk.made B 52 #[aa H n,aa H d];have qd:=bA B (ag #[aa H n,aa H d] 52);have U:=j7 (show World.ownsRow B x.heap.size 52 2 (.slice qe z.gone.length c1) z.gone.length (cT z.gone)from lH) qd;have O:=aE V qd;have l:=(i.out.1.aw O).lt;have zs6:x.heap.size<=(B.alloc (ag #[aa H n,aa H d] 52)).heap.size:=O.size;go_upto_region 3 with (at_builtin;go_must (refine dI _ rfl (.tmp 35) (.tmp 39) _ rfl x.heap.size 52 t0 _ 2 16 underlying44 yx sf tP sW rfl zO (.slice qe z.gone.length c1) z.gone.length (cT z.gone) rfl U ⟨B.heap.size,0,Y⟩ 1 1 [aa H n,aa H d] rfl rfl (λj u hu=>by rw[gZ,ea,kr.cell j];simpa using hu) (by simp[aB]) (by simp only[sV];omega) zO zP ?_;intro v9 s qg hgrow7 _ _;have y:=bO O U hgrow7 zs6 (aq _);obtain⟨gv7,q26,_,f26⟩:=zU (i.out.1.aw y);have l26:=(i.out.1.aw y).lt;obtain⟨c,b,rfl⟩:=bJ qg));have hrow8:iT s x.heap.size (.slice c (z.gone.length+1) b) (z.gone++[(n,d)]):=by
   unfold iT;rw[mf,bE];exact qg
  have hG7:GnV s k.gp (.slice c (z.gone.length+1) b) (z.gone++[(n,d)]):=own_gnV hrow8 zS qf;have qa:=(i.out.1.aw y).goneSet hG7;have qc:=(i.out.2.trans (Stp.aT _ y)).trans (Stp.set s k.gp 26 (.slice c (z.gone.length+1) b));have l:(s.setCell ⟨k.gp,26,Y⟩ (.slice c (z.gone.length+1) b)).cell? ⟨k.gp,26,Y⟩=J (.slice c (z.gone.length+1) b):=by
   obtain⟨W,e0,e1,e2,kp,-,-⟩:=(i.out.1.aw y).kp;have:=(kp.stored 26 (.slice c (z.gone.length+1) b)).cell 26
   simpa using this
  generalize s.setCell ⟨k.gp,26,Y⟩ (.slice c (z.gone.length+1) b)=L at *;refine aH (S:=λg=>Hd k g/\g.cell? ⟨k.gp,26,Y⟩=J (.slice c (z.gone.length+1) b)) (E:=λ_=>X) zK ?_;replace qa:=qa.aw (bD L);replace qc:=qc.drew;replace l:L.drew.cell? ⟨k.gp,26,Y⟩=J (.slice c (z.gone.length+1) b):=l;generalize L.drew=w9 at *;refine wTq 13 [(0,43,ptr k.gp),(1,44,ptr k.gp),(2,45,ae (J ⟨k.gp,26,Y⟩)),(3,46,.slice c (z.gone.length+1) b),(4,47,aa H ((z.gone.length+1:Nat):Int)),(5,48,ptr k.gp),(6,49,ptr k.gp),(7,50,ptr k.gp),(8,51,ptr k.gp),(9,52,ptr k.gp),(10,53,aa H k.l.c.aO),(11,54,aa H (2*k.l.c.aO)),(12,55,ah true)] ?_ ⟨qa.hd,l⟩ ?_
  ·intro g t;have c0:=t.1.at_ 0 _ Z;have l:=t.2;have hw1:IntKind.i64.wrap (2*k.l.c.aO)=2*k.l.c.aO:=dh _ zO;have hw2:decide (((z.gone.length+1:Nat):Int)<2*k.l.c.aO)=true:=zP;have hw3:(z.gone.length:Int)+1<2*k.l.c.aO:=C;exact zT
  refine aG zK ?_ _;go_wp2_with fail;exact aS (v:=.tuple #[]) (gT Z _ _ _) Z (.inr ⟨_,Z,⟨_,Z,qa,iB.out.1,by show z.made<=z.made+1+1;omega⟩,qc⟩)
end
end
section
open Go.RowKit
attribute [local go_sem ↓] aQ aR
variable {fn tp tv fd:Nat}
def r9(w:W)(l:Ly)(a:Nat)(A:Option Addr)(cap:Nat):Pk:=⟨l,a,A,cap,w.heap.size,w.heap.size+1+1,w.heap.size+1+1+1,w.heap.size+1⟩
abbrev pcZ(l:Ly)(b:Nat)(a:I):Array I:=#[V H l.c.aO,V H l.c.nodes,V H l.c.buckets,V H l.c.slots,V H l.c.tasks,V H l.c.cells,V H l.c.maps,V H l.c.stacks,V H l.c.chans,V H l.done,V H l.count,V H l.era,V H l.free,V H l.alive,V H l.owner,V H l.resv,V H l.deque,V H l.ring,V H l.task,V H l.cell,V H l.map,V H l.stack,V H l.chan,V H l.node,V H l.size,V H b,a,V H 0,V H 0,V H 0,V H 0,.nilFunc]
theorem H9(l:Ly)(a:Nat)(k:I)(g:cq)(A:Option Addr)(cap:Nat)(log:Log)(w:W)(f:eu l)(t:bI w k g)(x:gH w w.heap.size A log)(C:log.length<=100000)(hI:(fn,tp,tv,fd)∈[(164,211,199,181),(93,174,154,126),(101,186,158,143)]:=by decide):
  U ao fn #[lyV l,V H a,k,.slice A log.length cap] w λe w'=>e=ai (ptr (w.heap.size+1+1))/\PcG tp tv fd w' (r9 w l a A cap) ⟨[0,0,0],g,0⟩ log/\D w.heap.size w w':=by
 obtain⟨P,gc,rfl,z,y⟩:=t;obtain⟨k,F⟩:∃v,v=I.slice P g.length gc:=⟨_,Z⟩;have S:=aj (show bI w (.slice P g.length gc) g from⟨P,gc,Z,z,y⟩);have B:=aj x;have h:=((Bk.new (w.alloc (ag (lyC l) 34)) (g:=w.heap.size+1) zS 43 #[.slice A log.length cap]).alloc (ag (pcZ l a (.slice P g.length gc)) tp)).alloc (ag #[ptr (w.heap.size+1+1)] tv);have b:=(Bk.new ((w.alloc (ag (lyC l) 34)).alloc (ag #[.slice A log.length cap] 43)) (g:=w.heap.size+1+1) zS tp (pcZ l a (.slice P g.length gc))).alloc (ag #[ptr (w.heap.size+1+1)] tv);have c:=Bk.new (((w.alloc (ag (lyC l) 34)).alloc (ag #[.slice A log.length cap] 43)).alloc (ag (pcZ l a (.slice P g.length gc)) tp)) (g:=w.heap.size+1+1+1) zS tv #[ptr (w.heap.size+1+1)];have d:=aA (aA (aA (bA w (ag (lyC l) 34)) (ag #[.slice A log.length cap] 43)) (ag (pcZ l a (.slice P g.length gc)) tp)) (ag #[ptr (w.heap.size+1+1)] tv);have u:=(Bk.made w 34 (lyC l)).alloc (ag #[.slice A log.length cap] 43);have L:∀(fn:Fn) (first cap:Array I) (w:W),(uT fn first cap).run ao w= .ok (.func fn first cap) w:=λ_ _ _ _=>Z;obtain⟨q,o⟩:=nM (((((w.alloc (ag (lyC l) 34)).alloc (ag #[.slice A log.length cap] 43)).alloc (ag (pcZ l a (.slice P g.length gc)) tp)).alloc (ag #[ptr (w.heap.size+1+1)] tv)));rw[o]at h b c d;obtain⟨Q,n⟩:∃Q,Q=I.func (.func fd) #[] #[ptr (w.heap.size+1+1+1),ptr (w.heap.size+1)]:=⟨_,Z⟩;simp only[aL,ly,be,or_false]at hI;rcases hI with⟨rfl,rfl,rfl,rfl⟩|⟨rfl,rfl,rfl,rfl⟩|⟨rfl,rfl,rfl,rfl⟩;all_goals
  first|go_enter func164,ntmps164|go_enter func93,ntmps93|go_enter func101,ntmps101
  go_upto_region 2 with (refine aM Z 34 (.tmp 4) Z w.heap.size Z 34 (lyC l) (0,0) _ u aK Z zK ?_);(try rw[o]);obtain⟨b1,i⟩:=nM (w.heap.size+1);obtain⟨b2,j⟩:=nM (b1+1);obtain⟨b3,s⟩:=nM (b2+1);rw[i]at h;rw[i,j]at b;rw[i,j,s]at c n ⊢;have qa:w.heap.size<b1:=zO;have N:b1<b2:=zO;have K:b2<b3:=zO;have m:=c.cell 0;have E:=b.cell 31;have M:=b.free 31;have qb:=b.lt;simp at m E;go_upto_region 3 with fail;rw[<- n];replace h:=h.other (p:=⟨b2,31,Y⟩) (by dsimp only;omega) Q;replace c:=c.other (p:=⟨b2,31,Y⟩) (by dsimp only;omega) Q;replace d:=bu d (p:=⟨b2,31,Y⟩) (by dsimp only;omega) Q;replace b:Bk (q.setCell ⟨b2,31,Y⟩ Q) b2 _ #[V H l.c.aO,V H l.c.nodes,V H l.c.buckets,V H l.c.slots,V H l.c.tasks,V H l.c.cells,V H l.c.maps,V H l.c.stacks,V H l.c.chans,V H l.done,V H l.count,V H l.era,V H l.free,V H l.alive,V H l.owner,V H l.resv,V H l.deque,V H l.ring,V H l.task,V H l.cell,V H l.map,V H l.stack,V H l.chan,V H l.node,V H l.size,V H a,.slice P g.length gc,V H 0,V H 0,V H 0,V H 0,Q]:=b.stored 31 Q;generalize q.setCell ⟨b2,31,Y⟩ Q=J at *;have m:=c.cell 0;simp at m;go_wp2_with fail;go_ret;subst n;subst s j i;refine⟨Z,⟨⟨_,0,0,0,b,(S.out.gnV (gp:=w.heap.size+1+1) zO).aw d,Z⟩,c,h,B.out.below d,⟨by unfold r9;dsimp only;omega,by unfold r9;dsimp only;omega⟩,by unfold r9;dsimp only;omega,C,aN _,f⟩,d⟩
theorem pB(l:Ly)(x:LAc)(ga j go gb:Nat)(w:W)(t:Bk w ga 67 cG)(hI:(fn,fd)∈[(182,181),(128,126),(157,143)]:=by decide):
  CallsD ao fn #[ptr ga,ptr j,ptr go,ptr gb] (.panicking [{ v:=Bm fd l x,recovered:=X }]) w λe u w'=>
   e=ai (.tuple #[])/\u= .panicking [{ v:=Bm fd l x,recovered:=O }]/\Bk w' ga 67 (bj x.k (adr l x.c) x.o x.v)/\Stp ga w w':=by
 obtain⟨k,c,o,v⟩:=x;generalize z:adr l c=a;obtain⟨d,g⟩:=nM (taOf fd);have m:d=213\/d=176\/d=188:=by
  rw[<- g];unfold taOf;split
  ·exact .inl Z
  split
  ·exact .inr (.inl Z)
  exact .inr (.inr Z)
 have e0:Bm fd l ⟨k,c,o,v⟩= .iface d (.agg (bj k a o v)):=by unfold Bm;rw[g,z]
 rw[e0];have i:∀w:W,(binOp .eql 20 (.iface d (.agg (bj k a o v))) .nilIface).run ao w= .ok (ah X) w:=by rcases m with rfl|rfl|rfl<;>exact λ_=>by kernel_rfl
 have F:∀w:W,(eqGuard .eql 20 (.tmp 7) (.const .nilIface) (.iface d (.agg (bj k a o v))) .nilIface).run ao w= .ok () w:=by rcases m with rfl|rfl|rfl<;>exact λ_=>by kernel_rfl
 have D:(#[ptr ga,ptr j,ptr go,ptr gb]++(Array.replicate 19 undef).setIfInBounds 3 (.iface d (.agg (bj k a o v))))=#[ptr ga,ptr j,ptr go,ptr gb,undef,undef,undef,.iface d (.agg (bj k a o v)),undef,undef,undef,undef,undef,undef,undef,undef,undef,undef,undef,undef,undef,undef,undef]:=zK;have G:∀w:W,(Instr.typeAssert (.iface d (.agg (bj k a o v))) 20 d O).run ao w= .ok (.tuple #[.agg (bj k a o v),ah O]) w:=by rcases m with rfl|rfl|rfl<;>exact λ_=>by kernel_rfl
 have E:=t.lt;have C:=Bk.made w d (bj k a o v);have n:=t.alloc (ag (bj k a o v) d);have f:Stp ga w (w.alloc (ag (bj k a o v) d)):=(Stp.refl ga w).alloc _;simp only[aL,ly,be,or_false]at hI;rcases hI with⟨rfl,rfl⟩|⟨rfl,rfl⟩|⟨rfl,rfl⟩;all_goals
  simp[taOf]at g;subst g;first|refine callsD_of_wpS func182 Z λs q h=>?_|refine callsD_of_wpS func128 Z λs q h=>?_|refine callsD_of_wpS func157 Z λs q h=>?_
  apply wpS_seq;apply wpS_region;simp[wpOpsS,go_sem,recoverD,h,ntmps182,ntmps128,ntmps157,Exit.thenS];refine wpS_of_wp ?_;rw[D];go_wp2_with (first
   | (refine eg Z _ (.tmp 5) (.tmp 20) Z Z w.heap.size _ _ (bj k a o v) Z Z Z Z zK Z (by simp[aB]) ?_)
   | (refine aM Z 67 (.tmp 21) Z w.heap.size Z _ (bj k a o v) (0,0) _ C cF Z zK ?_)
   | (refine aI Z 67 (.tmp 0) (.tmp 22) Z Z ga (bj k a o v) Z Z 67 cG n zK Z (by simp[aB]) ?_))
  have A:=setRow_heap _ _ cG (bj k a o v) 67 (0,0) n;have y:Stp ga w ((w.alloc (ag (bj k a o v) _)).setRow ga (bj k a o v)):=
   ⟨f.os,f.tape,f.output,by simp[W.setRow],λb B i=>(setRow_other _ ga b _ i).trans (f.block b B i)⟩
  exact⟨Z,_,Z,_,gT Z _ _ _,Z,Z,A,y⟩
theorem rD(ga c go gb:Nat)(w:W)(hI:fn∈[182,128,157]:=by decide):
  CallsD ao fn #[ptr ga,ptr c,ptr go,ptr gb] .returning w λe g f=>e=ai (.tuple #[])/\g= .returning/\f=w:=by
 simp only[aL,ly,be,or_false]at hI;rcases hI with rfl|rfl|rfl;all_goals
  first|refine callsD_of_wpS func182 Z λb d a=>?_|refine callsD_of_wpS func128 Z λb d a=>?_|refine callsD_of_wpS func157 Z λb d a=>?_
  apply wpS_seq;apply wpS_region;simp[wpOpsS,go_sem,recoverD,a,ntmps182,ntmps128,ntmps157,Exit.thenS];refine wpS_of_wp ?_;have j:∀w:W,(binOp .eql 20 .nilIface .nilIface).run ao w= .ok (ah O) w:=λ_=>by kernel_rfl
  have i:∀w:W,(eqGuard .eql 20 (.tmp 7) (.const .nilIface) .nilIface .nilIface).run ao w= .ok () w:=λ_=>by kernel_rfl
  have h:(#[ptr ga,ptr c,ptr go,ptr gb]++(Array.replicate 19 undef).setIfInBounds 3 .nilIface)=#[ptr ga,ptr c,ptr go,ptr gb,undef,undef,undef,.nilIface,undef,undef,undef,undef,undef,undef,undef,undef,undef,undef,undef,undef,undef,undef,undef]:=zK;rw[h];go_wp2;cases b;simp only at a;subst a;exact⟨Z,_,Z,_,gT Z _ _ _,Z,Z,Z⟩
def IY{β:Type}(l:Ly)(q:An β)(T:Int->Bool->Int->Pz->Prop)(gp i:Nat)(w:W)(e:jK)(d:W):Prop:=
 ((∃a,q= .ask a/\e=ai (.tuple #[.agg (bj a.k (adr l a.c) a.o a.v),.agg aW,ah X]))\/
  (∃b h f c g,T b h f c/\e=ai (.tuple #[.agg cG,.agg (bg b h 0 f g),ah O])/\bI d g c.gone))/\cH gp i w d
theorem rW{β:Type}{k:Pk}{z:Pz}{log:Log}(q:An β)(T:Int->Bool->Int->Pz->Prop)(P:Nat)(R:Array I)(L:Nat)(w:W)(hbm:L<w.heap.size)(h:PcG tp tv fd w k z log)(hcf:∀w:W,(callFunc P R).run ao w= .ok (.enter P R) w)(qc:∀x u s l,T x u s l->l.gone.length<=1000)(hc:∀qe,Below w.heap.size w qe->U ao P R qe (Dz fd k L q qe λv w3=>∃x u s l,T x u s l/\v= .agg (bh x u 0 s)/\PcG tp tv fd w3 k l log))(hI:(fn,tp,tv,fd)∈[(165,211,199,181),(95,174,154,126),(104,186,158,143)]:=by decide):
  U ao fn #[ptr k.gp,.func (.func P) #[] R] w (IY k.l q T k.gp L w):=by
 have B:=(((Bk.made w tv #[ptr k.gp]).alloc (ag cG 67)).alloc (ag aW 70)).alloc (ag #[ah X] 4);have y:=((Bk.new (w.alloc (ag #[ptr k.gp] tv)) (g:=w.heap.size+1) zS 67 cG).alloc (ag aW 70)).alloc (ag #[ah X] 4);have j:=(Bk.new ((w.alloc (ag #[ptr k.gp] tv)).alloc (ag cG 67)) (g:=w.heap.size+1+1) zS 70 aW).alloc (ag #[ah X] 4);have m:=Bk.new (((w.alloc (ag #[ptr k.gp] tv)).alloc (ag cG 67)).alloc (ag aW 70)) (g:=w.heap.size+1+1+1) zS 4 #[ah X];have qb:=aA (aA (aA (bA w (ag #[ptr k.gp] tv)) (ag cG 67)) (ag aW 70)) (ag #[ah X] 4);have zp:=h.lt;have zv:=h.kv.lt;have zl:=h.kl.lt;have HH:=aj h;have HT:=aj qc;have HC:=aj hc;have hmf:∀(fn:Fn) (first cap:Array I) (w:W),(uT fn first cap).run ao w= .ok (.func fn first cap) w:=λ_ _ _ _=>Z;obtain⟨qd,hW4⟩:=nM (((((w.alloc (ag #[ptr k.gp] tv)).alloc (ag cG 67)).alloc (ag aW 70)).alloc (ag #[ah X] 4)));rw[hW4]at B y j m qb;simp only[aL,ly,be,or_false]at hI;rcases hI with⟨rfl,rfl,rfl,rfl⟩|⟨rfl,rfl,rfl,rfl⟩|⟨rfl,rfl,rfl,rfl⟩;all_goals
  first|go_enter_defers func165,ntmps165|go_enter_defers func95,ntmps95|go_enter_defers func104,ntmps104
  go_upto_region 2 with fail;(try rw[hW4]);obtain⟨J,h0⟩:=nM (w.heap.size);have F:=aj h0;rw[h0]at B y j m qb zp zv zl hbm ⊢;obtain⟨b1,qg⟩:=nM (J+1);obtain⟨b2,h2⟩:=nM (b1+1);obtain⟨b3,h3⟩:=nM (b2+1);rw[qg]at y;rw[qg,h2]at j;rw[qg,h2,h3]at m ⊢;have z1:J<b1:=M;have z2:b1<b2:=M;have z3:b2<b3:=M;have y0:=B.lt;have y1:=y.lt;have y2:=j.lt;have y3:=m.lt;go_wp2_with fail;(with_reducible refine(HC.out qd (by rw[F.out];exact qb)).mono ?_);rintro e w5 (⟨a,hq,rfl,D⟩|⟨v,rfl,⟨x,u,s,l,qc,rfl,qi⟩,D⟩)
  ·have HQ:=aj hq;replace y:=D.aw y M M;replace j:=D.aw j M M;replace m:=D.aw m M M;have A:=(cH.aT k.gp L (by rw[F.out];exact qb:Below w.heap.size w qd)).trans D;refine leaves_cons (f:=_) (args:=#[ptr b1,ptr J,ptr b2,ptr b3]) zS (by simp[go_sem];rfl) ?_;refine(pB k.l a b1 J b2 b3 _ y).mono ?_;rintro e u' w6 ⟨rfl,rfl,ka,H⟩;replace j:=H.aw j M;replace m:=H.aw m M;refine⟨_,mL (p:=4) (q:=5) (t:=6) (t1:=67) (t2:=70) (t3:=4) rfl _ _ b1 b2 b3 (bj a.k (adr k.l a.c) a.o a.v) aW (0,0) (0,0) _ _ _ rfl rfl rfl ka j cF rfl zK aJ rfl zK (pW _ b3 X m),?_⟩;refine⟨.inl ⟨a,HQ.out,rfl⟩,?_⟩;exact⟨H.os.trans A.os,H.tape.trans A.tape,H.output.trans A.output,aF A.size H.size,λb C qf va=>(H.block b (aZ C A.size) (by rw[F.out]at C;omega)).trans (A.block b C qf va)⟩
  have HP:=aj (al qc qi);have hg:=HT.out _ _ _ _ qc;obtain⟨gv,e0,e1,e2,qa,kg,-⟩:=qi.kp;replace B:=D.aw B M M;replace y:=D.aw y M M;replace j:=D.aw j M M;replace m:=D.aw m M M;have A:=(cH.aT k.gp L (by rw[F.out];exact qb:Below w.heap.size w qd)).trans D;obtain⟨v,hv⟩:∃v,v=I.agg (bh x u 0 s):=⟨_,Z⟩;go_upto_region 3 with (refine aI Z 70 (.tmp 5) (.tmp 9) Z Z b2 (bh x u 0 s) Z Z 70 aW j zK Z (by simp[aB]) ?_);have kg2:=kg.row j zD (bh x u 0 s);replace qa:=Bk.a6 qa (b:=b2) M (bh x u 0 s);replace B:=B.a6 (b:=b2) M (bh x u 0 s);replace y:=y.a6 (b:=b2) M (bh x u 0 s);replace m:=m.a6 (b:=b2) M (bh x u 0 s);replace j:=j.bG (bh x u 0 s);replace A:=A.row (b:=b2) (.inl (by rw[F.out];omega)) (bh x u 0 s);generalize w5.setRow b2 (bh x u 0 s)=w6 at *;have c0:=B.cell 0;have c26:=Bk.cell qa 26;simp at c0 c26;have lp6:=Bk.lt qa;go_wp2_with fail;(with_reducible refine(GnV.clone kg2 hg).mono ?_);rintro e qh ⟨G,n,c,rfl,qf,hNil,lH,C⟩;subst qf;have HG:=aj (show bI qh (.slice G l.gone.length c) l.gone from⟨G,c,rfl,hNil,rh lH rfl⟩);replace qa:=Bk.aw qa C;replace B:=Bk.aw B C;replace y:=Bk.aw y C;replace j:=Bk.aw j C;replace m:=Bk.aw m C;replace A:=A.trans (.aT k.gp L C);have q4:=j.cell 4;have f4:=j.free 4;have l4:=j.lt;simp at q4;go_upto_region 4 with fail;have E:=HG.out.cell j zD 4 (.slice G l.gone.length c);replace j:Bk (qh.setCell ⟨b2,4,Y⟩ (.slice G l.gone.length c)) b2 70 (bg x u 0 s (.slice G l.gone.length c)):=j.stored 4 (.slice G l.gone.length c);replace y:=y.other (p:=⟨b2,4,Y⟩) (by dsimp only;omega) (.slice G l.gone.length c);replace m:=m.other (p:=⟨b2,4,Y⟩) (by dsimp only;omega) (.slice G l.gone.length c);replace A:=A.cell (p:=⟨b2,4,Y⟩) (.inl (by rw[F.out];dsimp only;omega)) (.slice G l.gone.length c);obtain⟨gv2,hgv2⟩:∃v,v=I.slice G l.gone.length c:=⟨_,rfl⟩;generalize qh.setCell ⟨b2,4,Y⟩ (.slice G l.gone.length c)=LF at *;refine wp_region_held_drew (S:=λQ=>Bk Q b2 70 (bg x u 0 s (.slice G l.gone.length c))) zK j.drew (λhHeld=>?_);replace y:=y.drew;replace j:=j.drew;replace m:=m.drew;replace A:=A.drew;replace E:bI LF.drew (.slice G l.gone.length c) l.gone:=E;generalize LF.drew=w17 at *;refine wpAnyH_take (i:=0) (oi:=_) (v:=.agg cG) rfl zK zK zK (λ_ _ _ h=>by first|exact mi (p:=4) (q:=5) (t:=6) (t1:=67) (t2:=70) (t3:=4) results165 (d:=16) M h|exact mi (p:=4) (q:=5) (t:=6) (t1:=67) (t2:=70) (t3:=4) results95 (d:=16) M h|exact mi (p:=4) (q:=5) (t:=6) (t1:=67) (t2:=70) (t3:=4) results104 (d:=16) M h) (jI ⟨by rfl,?_⟩) j ?_
  ·intro Q hSw;(try simp only[au,an]);go_simp
  (try simp only[au,an,Act.put,ak,ay,az]);refine wpAnyH_take (i:=1) (oi:=_) (v:=.agg (bg x u 0 s (.slice G l.gone.length c))) Z zK zK zK (λ_ _ _ h=>by first|exact mi (p:=4) (q:=5) (t:=6) (t1:=67) (t2:=70) (t3:=4) results165 (d:=17) M h|exact mi (p:=4) (q:=5) (t:=6) (t1:=67) (t2:=70) (t3:=4) results95 (d:=17) M h|exact mi (p:=4) (q:=5) (t:=6) (t1:=67) (t2:=70) (t3:=4) results104 (d:=17) M h) (jI ⟨by rfl,?_⟩) j ?_
  ·intro Q hSw;(try simp only[au,ar,an]);simp only[nO,Instr.loadAt,uS,cD,dF];rw[show (Act.eval _ (Operand.tmp 5))=I.pointer (some ⟨b2,0,Y⟩)from Z];simp only[dF,bC,a7 Q b2 70 70 (bg x u 0 s (.slice G l.gone.length c)) (0,0) _ hSw aJ Z zK]
  (try simp only[au,ar,an,Act.put,ak,ay,az]);refine wpAnyH_ready (rs:=[2]) zK zS ?_;refine AllReadyH.cons (o:=_) Z (λK N=>?_) AllReadyH.nil;rw[if_pos (by rfl)];refine eC 67 (.tmp 4) (.tmp 16) Z b1 cG Z Z 67 cG y zK Z (by simp[aB]) ?_;replace E:=E.row y zD cG;replace j:=j.a6 (b:=b1) M cG;replace m:=m.a6 (b:=b1) M cG;replace y:=y.bG cG;replace A:=A.row (b:=b1) (.inl (by rw[F.out];omega)) cG;refine N.out _ _ j (λhS'=>?_);(try simp only[au,ar,an,Act.put]);generalize w17.setRow b1 cG=w18 at *;refine wpAnyH_ready (rs:=[3]) zK zS ?_;refine AllReadyH.cons (o:=_) Z (λK N=>?_) AllReadyH.nil;rw[if_pos (by rfl)];refine eC 70 (.tmp 5) (.tmp 17) Z b2 (bg x u 0 s (.slice G l.gone.length c)) Z Z 70 (bg x u 0 s (.slice G l.gone.length c)) j zK Z (by simp[aB]) ?_;replace E:=E.row j zD (bg x u 0 s (.slice G l.gone.length c));replace y:=y.a6 (b:=b2) M (bg x u 0 s (.slice G l.gone.length c));replace m:=m.a6 (b:=b2) M (bg x u 0 s (.slice G l.gone.length c));replace j:=j.bG (bg x u 0 s (.slice G l.gone.length c));replace A:=A.row (b:=b2) (.inl (by rw[F.out];omega)) (bg x u 0 s (.slice G l.gone.length c));refine N.out _ _ j (λhS'=>?_);(try simp only[au,ar,an,Act.put]);generalize w18.setRow b2 (bg x u 0 s (.slice G l.gone.length c))=w19 at *;have q6:=m.cell 0;have f6:=m.free 0;have l6:=m.lt;simp at q6;refine wpAnyH_ready (rs:=[4]) zK zS ?_;refine AllReadyH.cons (o:=_) Z (λK N=>?_) AllReadyH.nil;(try simp only[au,ar,an]);go_simp;replace E:=E.cell m zD 0 (ah O);replace m:Bk (w19.setCell ⟨b3,0,Y⟩ (ah O)) b3 4 #[ah O]:=m.stored 0 (ah O);replace y:=y.other (p:=⟨b3,0,Y⟩) (by dsimp only;omega) (ah O);replace j:=j.other (p:=⟨b3,0,Y⟩) (by dsimp only;omega) (ah O);replace A:=A.cell (p:=⟨b3,0,Y⟩) (.inl (by rw[F.out];dsimp only;omega)) (ah O);refine N.out _ _ j (λhS'=>?_);(try simp only[au,ar,an,Act.put,ak,ay,az]);generalize w19.setCell ⟨b3,0,Y⟩ (ah O)=w20 at *;refine wpAnyH_done zK ?_ _;go_wp2;refine leaves_cons (f:=_) (args:=#[ptr b1,ptr J,ptr b2,ptr b3]) zS (by simp[go_sem];rfl) ?_;refine(rD b1 J b2 b3 _).mono ?_;rintro e u' w21 ⟨rfl,rfl,rfl⟩;refine⟨_,mL (p:=4) (q:=5) (t:=6) (t1:=67) (t2:=70) (t3:=4) rfl _ _ b1 b2 b3 cG (bg x u 0 s (.slice G l.gone.length c)) (0,0) (0,0) _ _ _ rfl rfl rfl y j cF rfl zK aJ rfl zK (pW _ b3 O m),?_⟩;exact⟨.inr ⟨x,u,s,l,_,HP.out.1,rfl,E⟩,A⟩
end
end Go.Proofs.YtikdaeddbkopeaaGreatR
namespace Go.Proofs.YtikdaeddbkopeaaGreatR.list
abbrev dz:=PcG 211 199 181
abbrev uO:=Bm 181
abbrev lq{β:Type}:=@fN β 181
abbrev jC{β:Type}:=@Dz β 181
end Go.Proofs.YtikdaeddbkopeaaGreatR.list
namespace Go.Proofs.YtikdaeddbkopeaaGreatR.elim
abbrev dz:=PcG 174 154 126
abbrev uO:=Bm 126
abbrev lq{β:Type}:=@fN β 126
abbrev jC{β:Type}:=@Dz β 126
end Go.Proofs.YtikdaeddbkopeaaGreatR.elim
namespace Go.Proofs.YtikdaeddbkopeaaGreatR.segment
abbrev dz:=PcG 186 158 143
abbrev uO:=Bm 143
abbrev lq{β:Type}:=@fN β 143
abbrev jC{β:Type}:=@Dz β 143
end Go.Proofs.YtikdaeddbkopeaaGreatR.segment
namespace Go.Proofs.YtikdaeddbkopeaaGreatR
namespace list
open Go.RowKit
attribute [local go_sem ↓] aQ aR
theorem iQ(th a:Int)(op:LOp)(x:LPh)(z:Pz)(l:Log):fp th a op x z l=doR (x.acc a op) z (λr _ b=>cK th a op (x.stp th op z r) b) l:=by
 cases l with
 | nil=>rfl
 | cons r l=>exact eH th a op x z r l
theorem vT(th a:Int)(op:LOp)(k:LK)(y:SX)(f:Ret->Pz->LX)(l:Log)(b:∀t s,f t s=ic op t s k):cK th a op (y.lS k f) l=fx th a (λt z l=>cK th a op (ic op t z k) l) y l:=by
 cases y with
 | go x z=>exact kB th a op k l x z
 | ret t z=>show cK th a op (f t z) l=cK th a op (ic op t z k) l;rw[b]
 | stuck=>rfl
theorem gj(n:Int)(w:W):U ao 190 #[V H n] w λe w'=>e=ai (V H (aV n))/\D w.heap.size w w':=by
 go_enter func190,ntmps190;go_wp2_with fail;refine(gk n X 0 w).mono ?_;rintro e b ⟨rfl,a⟩;go_wp2_with fail;go_ret;exact⟨rfl,a⟩
theorem Ik(n:Int)(w:W):U ao 193 #[V H n] w λe w'=>e=ai (V H (eQ n))/\D w.heap.size w w':=by
 go_enter func193,ntmps193;go_wp2_with fail;refine(gk n O 0 w).mono ?_;rintro e b ⟨rfl,a⟩;go_wp2_with fail;go_ret;exact⟨rfl,a⟩
abbrev fdC(k:Pk)(a:Bool)(c b next pt head:Int):Array I:=#[ptr k.gp,.bool a,V H c,V H b,V H next,V H pt,V H head]
variable {a:Act} {head next pt:Int}
theorem Hj{l:List I}{n:Nat}(h:l.length=n+1):∃x a,l=x :: a/\a.length=n:=by
 cases l with
 | nil=>cases h
 | cons x a=>exact⟨x,a,Z,by simpa using h⟩
theorem dp{o:Oper}{x:vn}{w:W}{ty:bM}{g:Nat}{v:I}(ho:o.op= .load ty x)(b:a.eval x=ptr g)(c:(cL ty ⟨g,0,Y⟩).run ao w= .ok v w):(nO a.eval o).run ao w= .ok (.value v) w:=by
 unfold nO;simp only[ho,b,ptr,Instr.loadAt,uS,cD,dF,bC,c]
theorem yf{P:J4}{w:W}{Q:Exit->Act->W->Prop}{r:Code}(l:Nat)(J:Act->W->Prop)(μ:Act->W->Nat)(f:J a w)(d:∀a w,J a w->r.wp P (Exit.jump l (λc b=>J c b/\μ c b<μ a w) Q) a w):(Code.scope ((Code.label l).seq r)).wp P Q a w:=by
 refine wp_scope_jumps (rest:=.seq .skip r) l J μ (by simp[findLabel]) ?_ (λa w h=>wp_seq (wp_skip (d a w h)));refine wp_seq (wp_label ?_);refine wp_mono (d a w f) (λe c b h=>?_);cases e with
 | goto g=>exact⟨h.1,h.2.1⟩
 | _=>exact h
theorem Oi{w:W}{k:Pk}{a:Nat}{c:Bool}{d b:Int}(h:Bk w a 204 (fdC k c d b next pt head)):w.there a 1 5:=by
 intro j e;have:j=0\/j=1\/j=2\/j=3\/j=4:=M;refine⟨?_,h.free _⟩;rw[h.cell];rcases this with rfl|rfl|rfl|rfl|rfl<;>rfl
theorem jy{w d:W}{k:Pk}{z:Pz}{log:Log}{a:Nat}{e:Array I}(b:dz w k z log)(f:cH k.gp a d w)(c:Bk w a 204 e)(g:k.gp<a)(i:Nat)(v:I):
  dz (w.setCell ⟨a,i,Y⟩ v) k z log/\cH k.gp a d (w.setCell ⟨a,i,Y⟩ v)/\Bk (w.setCell ⟨a,i,Y⟩ v) a 204 (e.setIfInBounds i v):=
 ⟨b.pz c (by have:=b.bp;omega) zD i v,f.cell (.inr (.inr Z)) v,c.stored i v⟩
theorem fd_set5{w f:W}{k:Pk}{z:Pz}{log:Log}{a:Nat}{A:Bool}{v D:Int}(h:dz w k z log)(i:cH k.gp a f w)(l:Bk w a 204 (fdC k A v D next pt head))(c:k.gp<a)(b:Bool)(e d nx p:Int):
  dz (((((w.setCell ⟨a,1,Y⟩ (.bool b)).setCell ⟨a,1+1,Y⟩ (V H e)).setCell ⟨a,1+1+1,Y⟩ (V H d)).setCell ⟨a,1+1+1+1,Y⟩ (V H nx)).setCell ⟨a,1+1+1+1+1,Y⟩ (V H p)) k z log/\
  cH k.gp a f (((((w.setCell ⟨a,1,Y⟩ (.bool b)).setCell ⟨a,1+1,Y⟩ (V H e)).setCell ⟨a,1+1+1,Y⟩ (V H d)).setCell ⟨a,1+1+1+1,Y⟩ (V H nx)).setCell ⟨a,1+1+1+1+1,Y⟩ (V H p))/\
  Bk (((((w.setCell ⟨a,1,Y⟩ (.bool b)).setCell ⟨a,1+1,Y⟩ (V H e)).setCell ⟨a,1+1+1,Y⟩ (V H d)).setCell ⟨a,1+1+1+1,Y⟩ (V H nx)).setCell ⟨a,1+1+1+1+1,Y⟩ (V H p)) a 204 (fdC k b e d nx p head):=by
 obtain⟨g,B,s⟩:=jy h i l c 1 (.bool b);obtain⟨F,G,u⟩:=jy g B s c (1+1) (V H e);obtain⟨n,o,t⟩:=jy F G u c (1+1+1) (V H d);obtain⟨E,m,x⟩:=jy n o t c (1+1+1+1) (V H nx);obtain⟨y,j,C⟩:=jy E m x c (1+1+1+1+1) (V H p);exact⟨y,j,C⟩
def FdJ(k:Pk)(th:Int)(op:LOp)(K:FK)(log:Log)(q:An (dx × Pz))(c:Nat)(o:Int)(m0:Nat)(f:W)(a:Act)(w:W):Prop:=
 a.defers=[]/\a.tmps.size=210/\a.tmps.getD 0 undef=ptr c/\a.tmps.getD 1 undef=V H o/\
  ∃b g h e next d,dz w k b log/\cH k.gp c f w/\Bk w c 204 (fdC k g h e next d (nodeAt k.l op.h 0))/\m0<=b.made/\q=fp th k.me op (.sub (.g1 0 (.nd op.h 0)) (.fh K)) b (log.drop b.made)
def FdJ2(k:Pk)(th:Int)(op:LOp)(K:FK)(log:Log)(q:An (dx × Pz))(b:Nat)(m0:Nat)(f:W)(d:Nat)(w:W):Prop:=
 ∃a g h e next c,dz w k a log/\cH k.gp b f w/\Bk w b 204 (fdC k g h e next c (nodeAt k.l op.h 0))/\d<a.made/\m0<=a.made/\q=fp th k.me op (.sub (.g1 0 (.nd op.h 0)) (.fh K)) a (log.drop a.made)
theorem FdJ2.jump{k:Pk}{th:Int}{op:LOp}{K:FK}{log:Log}{q:An (dx × Pz)}{c m0 d:Nat}{e wj:W}{w:W}(h:FdJ2 k th op K log q c m0 e d w)(hd:a.defers=[])(f:a.tmps.size=210)(j:a.tmps.getD 0 undef=ptr c)(i:a.tmps.getD 1 undef=V H op.o)(v:madeOf k.gp wj=d)(A:d<=log.length):FdJ k th op K log q c op.o m0 e a w/\log.length+1-madeOf k.gp w<log.length+1-madeOf k.gp wj:=by
 obtain⟨l,s,n,u,next,t,b,x,g,y,m,o⟩:=h;refine⟨⟨hd,f,j,i,l,s,n,u,next,t,b,x,g,m,o⟩,?_⟩;rw[cU b,v];have:=b.mle;omega
def Bv(k:Pk)(th:Int)(op:LOp)(K:FK)(log:Log)(q:An (dx × Pz))(g:Nat)(m0:Nat)(u:I)(d:W):Prop:=
 ∃e f a next c b,u= .tuple #[]/\dz d k b log/\Bk d g 204 (fdC k e (nodeAt k.l f 0) a next (c:Nat) (nodeAt k.l op.h 0))/\0<=a/\a<65536/\m0<b.made/\q=cK th k.me op (iJ op K e f a next c b) (log.drop b.made)
def JX(k:Pk)(th:Int)(op:LOp)(K:FK)(log:Log)(q:An (dx × Pz))(h i:Nat)(m:W)(v4 j l:I)(w:W):Prop:=
 ∃e a b c f d g,v4=V H (a:Nat)/\j=V H (b:Nat)/\l=V H (c:Nat)/\(a<3/\b<3/\c<3)/\dz w k e log/\cH k.gp h m w/\Bk w h 204 (fdC k X (nodeAt k.l f 0) d 0 (g:Nat) (nodeAt k.l op.h 0))/\
  (0<=d/\d<65536/\f<=9223372036854775807)/\i<e.made/\q=cK th k.me op (eR op K ⟨a,b,c,f,d,g⟩ e) (log.drop e.made)
section
variable {w:W} {k:Pk} {z:Pz} {log:Log} {q:An (dx × Pz)}
theorem kF(th:Int)(op:LOp)(K:FK)(gf:Nat)(there:Bool)(B j next pt:Int)(h:dz w k z log)(rr:th=2*k.l.c.aO)(hs:1<=k.l.c.aO/\k.l.c.aO<=8)(NZ:k.gp<gf)(hh:op.h<=9223372036854775807)(d:Bk w gf 204 (fdC k there B j next pt (nodeAt k.l op.h 0)))(hq:q=fp th k.me op (.sub (.g1 0 (.nd op.h 0)) (.fh K)) z (log.drop z.made))(mF:q≠ .stuck):
  Calls ao 183 #[ptr gf,aa H op.o] w (jC k gf q w (Bv k th op K log q gf z.made)):=by
 have HNS:=N (al mF (al rr (al hs hh)));have HJ0:=N (show ∃z' there B j next pt,dz w k z' log/\cH k.gp gf w w/\Bk w gf 204 (fdC k there B j next pt (nodeAt k.l op.h 0))/\z.made<=z'.made/\q=fp th k.me op (.sub (.g1 0 (.nd op.h 0)) (.fh K)) z' (log.drop z'.made)from⟨z,there,B,j,next,pt,h,cH.refl _ _ _,d,aq _,hq⟩);have lgf:=d.lt;have HGF:=N lgf;have qd:=N NZ;clear h rr hs hh d hq mF there B j next pt lgf
 go_enter func183,ntmps183;refine yf 0 (FdJ k th op K log q gf op.o z.made w) (λ_ w=>log.length+1-madeOf k.gp w) ⟨Z,Z,Z,Z,HJ0.out⟩ ?_;clear HJ0;rintro⟨tmps,ds⟩ wj ⟨hds,R,ht0,ht1,z0,there,B,j,next,pt,f,g,d,BF,hq⟩;obtain rfl:ds=[]:=hds;obtain⟨tmps,rfl⟩:∃l:List Value,tmps=l.toArray:=⟨tmps.toList,zS⟩;replace R:tmps.length=210:=by simpa using R
 have hsy:=Hj R;clear R;obtain⟨t0,tmps,rfl,R⟩:=hsy;have hsy:=Hj R;clear R;obtain⟨t1,tmps,rfl,R⟩:=hsy;obtain rfl:t0=ptr gf:=ht0;obtain rfl:t1=aa H op.o:=ht1
 iterate 208 (have hsy:=Hj R;clear R;obtain⟨_,_,rfl,R⟩:=hsy)
 obtain rfl:=List.eq_nil_of_length_eq_zero R;clear R;have HJ:=N (al (cU f) (al f.mle BF));have HQ:=N (hq.trans (kB _ _ _ _ _ _ _));clear hq BF;go_upto_region 1 with fail;refine aH (S:=λs=>Bk s gf 204 (fdC k there B j next pt (nodeAt k.l op.h 0))) (E:=λ_=>X) zK ?_;replace f:dz wj.drew k z0 log:=f.aw (bD wj);replace g:=g.drew;replace d:=d.drew;generalize wj.drew=w1 at *;refine wTq 9 [(0,16,ae (J ⟨gf,0,Y⟩)),(1,17,ae (J ⟨gf,0,Y⟩)),(2,18,ae (J ⟨gf,0,Y⟩)),(3,19,ae (J ⟨k.gp,0,Y⟩)),(4,20,aa H 0),(5,21,ae (J ⟨gf,0,Y⟩)),(6,22,ae (J ⟨gf,0,Y⟩)),(7,23,ae (J ⟨gf,6,Y⟩)),(8,24,aa H (nodeAt k.l op.h 0))] ?_ d ?_
 ·intro s n;have F:=n.cell 0;have c6:=n.cell 6;simp at F c6;have kE:True:=bd;exact zT
 have hd:Calls ao 196 #[ptr k.gp,aa H 0,aa H (nodeAt k.l op.h 0)] w1 _:=wy th 0 (.nd op.h 0) (nodeAt k.l op.h 0) _ f zO Z HQ.out;refine wOq 9 (λC m=>?_);go_simp;refine(hd).mono ?_;rintro e w2 (⟨x,Q,rfl,qg⟩|⟨v,rfl,⟨x1,p,z1,rfl,qb,M,ru,hpz⟩,G⟩)
 ·exact⟨Z,.inl ⟨x,Q,Z,g.trans qg.two⟩⟩
 replace g:=g.trans G.two;replace d:=G.aw d zO;have rG:=N M;have HM1:=N ru;clear hd f G M ru hpz HQ;have f:=qb;clear qb;refine sO m (λ_=>d) ?_;clear m C;refine wTq 1 [(10,15,.tuple #[aa H x1,aa H (p:Nat)])] ?_ d ?_
 ·intro s n;have kE:True:=bd;exact zT
 refine wTq 2 [(11,26,aa H x1),(12,27,aa H (p:Nat))] ?_ d ?_
 ·intro s n;have kE:True:=bd;exact zT
 refine wTq 2 [(13,7,aa H x1),(14,8,aa H (p:Nat))] ?_ d ?_
 ·intro s n;have kE:True:=bd;exact zT
 refine aG zK ?_ _;have hfl:∀(a:Int) (b:Bool) (c:Int) (w:World),(Instr.field 81 (.agg #[aa H a,.bool b,aa H c]) 0).run ao w= .ok (aa H a) w:=λ_ _ _ _=>by kernel_rfl
 go_upto_region 2 with fail;refine aH (S:=λs=>Bk s gf 204 (fdC k there B j next pt (nodeAt k.l op.h 0))) (E:=λi=>i==12) zK ?_;replace f:dz w2.drew k z1 log:=f.aw (bD w2);replace g:=g.drew;replace d:=d.drew;generalize w2.drew=w3 at *;refine wTq 7 [(0,28,ae (J ⟨gf,0,Y⟩)),(1,29,ae (J ⟨gf,0,Y⟩)),(2,30,ae (J ⟨gf,0,Y⟩)),(3,31,ae (J ⟨gf,6,Y⟩)),(4,32,aa H (nodeAt k.l op.h 0)),(5,33,aa H x1),(8,36,aa H (p:Nat))] ?_ d ?_
 ·intro s n;have c6:=n.cell 6;simp at c6;have kE:True:=bd;exact zT
 refine wOq 6 (λC m=>?_);go_simp;refine(gL x1 _).mono ?_;rintro e w4 ⟨rfl,u⟩;replace f:=f.aw u;replace d:=d.aw u;replace g:=g.trans (cH.aT _ _ u);clear u;obtain⟨y,qD⟩:=nM (x1%65536);have LM:0<=y/\y<65536:=zO;rw[qD];have U:=N qD;clear qD;refine sO m (λ_=>d) ?_;clear m C;refine wTq 1 [(7,35,aa H y)] ?_ d ?_
 ·intro s n;have kE:True:=bd;exact zT
 refine wTq 1 [(9,37,.agg #[ah X,aa H (nodeAt k.l op.h 0),aa H y,aa H 0,aa H (p:Nat)])] ?_ d ?_
 ·intro s n;have kE:True:=bd;exact zT
 refine wOq 10 (λC m=>?_);go_simp;refine sO m (λ_=>d) ?_;clear m C;refine wOq 11 (λC m=>?_);go_simp;refine sO m (λ_=>d) ?_;clear m C;refine wOq 12 (λC m=>?_);rw[if_pos (by rfl)];refine wp_store_mid 202 (.tmp 39) (.tmp 37) Z gf 1 #[ah X,aa H (nodeAt k.l op.h 0),aa H y,aa H 0,aa H (p:Nat)] Z Z (Oi d) zK (by simp[aB]) ?_;simp only[World.setCells];refine m.out _ _ (λh=>absurd h zD) ?_;clear m C;(try simp only[au,ar,an,Act.put]);refine aG zK ?_ _;obtain⟨qf,W,V⟩:=fd_set5 f g d qd.out X (nodeAt k.l op.h 0) y 0 (p:Nat);clear f g d
 revert qf W V
 generalize ((((w4.setCell ⟨gf,1,Y⟩ (ah X)).setCell ⟨gf,1+1,Y⟩ (aa H (nodeAt k.l op.h 0))).setCell ⟨gf,1+1+1,Y⟩ (aa H y)).setCell ⟨gf,1+1+1+1,Y⟩ (aa H 0)).setCell ⟨gf,1+1+1+1+1,Y⟩ (aa H (p:Nat))=w5;intro f g d;have HL:=N (show JX k th op K log q gf z0.made w (aa H (0:Nat)) (aa H (1:Nat)) (aa H (2:Nat)) w5 from⟨z1,0,1,2,op.h,y,p,Z,Z,Z,⟨zD,zD,zD⟩,f,g,d,⟨LM.1,LM.2,HNS.out.2.2.2⟩,HM1.out,by rw[rG.out,<- U.out];rfl⟩);have DI:=N (cU f);clear f g d LM U HM1 rG hfl;go_wp2_with fail;go_loopw [4,5,6] (λv4 v5 v6 wr=>JX k th op K log q gf z0.made w v4 v5 v6 wr) (λ_ _ _ wr=>log.length+1-madeOf k.gp wr)
 case atStart=>exact HL.out
 clear HL DI;obtain⟨z2,a,b,c,B,j,pt,rfl,rfl,rfl,habc,f,g,d,p7,hm,hq⟩:=hrel;have HQ:=N hq;have qe:=N (al (cU f) (al hm f.mle));have P:=N (al habc p7);clear hq hm habc p7;by_cases hcz:j=0
 ·subst hcz;have HP:=N (show Bv k th op K log q gf z.made (.tuple #[]) wr from⟨X,B,0,0,pt,z2,Z,f,d,zD,zD,by have:=HJ.out;have:=qe.out;omega,by rw[HQ.out];unfold eR;rw[if_pos Z]⟩);have uQ:=N g;have D:=d.cell 3;have I:=d.lt;simp at D;clear f g d;go_wp2_with fail;exact bodyPost_end (gT Z _ _ _) Z (.inr ⟨_,Z,HP.out,uQ.out⟩)
 have hce:(j != 0)=O:=by simp[hcz]
 have sT:=N (show q=js th k.me (λt z l=>cK th k.me op (ic op t z (.fn K ⟨a,b,c,B,j,pt⟩)) l) (.g1 b (.nd j 0)) z2 (log.drop z2.made)by
  rw[HQ.out];unfold eR;rw[if_neg hcz];exact kB _ _ _ _ _ _ _)
 clear HQ;generalize hwr:wr=w6 at *;clear hwr;have D:=d.cell 3;have I:=d.lt;simp at D;go_upto_region 4 with fail;clear D I hce;refine aH (S:=λs=>Bk s gf 204 (fdC k X (nodeAt k.l B 0) j 0 (pt:Nat) (nodeAt k.l op.h 0))) (E:=λ_=>X) zK ?_;replace f:=f.aw (bD w6);replace g:=g.drew;replace d:=d.drew;generalize w6.drew=w7 at *;refine wTq 14 [(0,47,ae (J ⟨gf,0,Y⟩)),(1,48,ae (J ⟨gf,0,Y⟩)),(2,49,ae (J ⟨gf,0,Y⟩)),(3,50,ae (J ⟨k.gp,0,Y⟩)),(4,51,aa H (b:Nat)),(5,52,ae (J ⟨gf,0,Y⟩)),(6,53,ae (J ⟨gf,0,Y⟩)),(7,54,ae (J ⟨gf,0,Y⟩)),(8,55,ae (J ⟨k.gp,0,Y⟩)),(9,56,ae (J ⟨gf,0,Y⟩)),(10,57,ae (J ⟨gf,0,Y⟩)),(11,58,ae (J ⟨gf,1,Y⟩)),(12,59,ae (J ⟨gf,3,Y⟩)),(13,60,aa H j)] ?_ d ?_
 ·intro s n;have F:=n.cell 0;have D:=n.cell 3;simp at F D;have kE:True:=bd;exact zT
 refine wOq 14 (λC m=>?_);go_simp;refine(fR j 0 f (by have:=P.out;omega)).mono ?_;rintro e w8 ⟨rfl,u⟩;replace f:=f.aw u;replace d:=d.aw u;replace g:=g.trans (cH.aT _ _ u);clear u;refine sO m (λ_=>d) ?_;clear m C;refine wOq 15 (λC m=>?_);go_simp;refine(wy th b (.nd j 0) (nodeAt k.l j 0) _ f P.out.1.2.1 rfl sT.out).mono ?_;rintro e w9 (⟨x,Q,rfl,qg⟩|⟨v,rfl,⟨qa,L,A,rfl,qb,M,ru,hpz⟩,G⟩)
 ·exact⟨Z,.inl ⟨x,Q,Z,g.trans qg.two⟩⟩
 replace g:=g.trans G.two;replace d:=G.aw d (by have:=qd.out;omega);have mB:=N (show q=fp th k.me op (.fs K ⟨a,b,c,B,j,pt⟩ qa L) A (log.drop A.made)from M);clear f G;have f:=qb;clear qb;have qh:=N ru;clear M ru hpz sT;refine sO m (λ_=>d) ?_;clear m C;refine wTq 1 [(16,46,.tuple #[aa H qa,aa H (L:Nat)])] ?_ d ?_
 ·intro s n;have kE:True:=bd;exact zT
 refine wTq 2 [(17,63,aa H qa),(18,64,aa H (L:Nat))] ?_ d ?_
 ·intro s n;have kE:True:=bd;exact zT
 refine wTq 2 [(19,9,aa H qa),(20,10,aa H (L:Nat))] ?_ d ?_
 ·intro s n;have kE:True:=bd;exact zT
 refine aG zK ?_ _;go_upto_region 5 with fail;refine aH (S:=λs=>Bk s gf 204 (fdC k X (nodeAt k.l B 0) j 0 (pt:Nat) (nodeAt k.l op.h 0))) (E:=λ_=>X) zK ?_;replace f:=f.aw (bD w9);replace g:=g.drew;replace d:=d.drew;generalize w9.drew=uq at *;refine wTq 9 [(0,65,ae (J ⟨gf,0,Y⟩)),(1,66,ae (J ⟨gf,0,Y⟩)),(2,67,ae (J ⟨gf,0,Y⟩)),(3,68,ae (J ⟨k.gp,0,Y⟩)),(4,69,ae (J ⟨gf,0,Y⟩)),(5,70,ae (J ⟨gf,0,Y⟩)),(6,71,ae (J ⟨gf,1,Y⟩)),(7,72,ae (J ⟨gf,2,Y⟩)),(8,73,aa H (nodeAt k.l B 0))] ?_ d ?_
 ·intro s n;have F:=n.cell 0;have c2:=n.cell 2;simp at F c2;exact zT
 refine wOq 9 (λC m=>?_);go_simp;refine(iL (.nd B 0) (nodeAt k.l B 0) _ f Z (mB.out.trans (iQ _ _ _ _ _ _))).mono ?_;rintro e qJ (⟨x,Q,rfl,qg⟩|⟨v,rfl,⟨⟨s1,s2⟩,hx,rfl,qb,M⟩,G⟩)
 ·exact⟨Z,.inl ⟨x,Q,Z,g.trans qg.two⟩⟩
 replace g:=g.trans G.two;replace d:=G.aw d (by have:=qd.out;omega);have iB:=N (show q=cK th k.me op ((LPh.fs K ⟨a,b,c,B,j,pt⟩ qa L).stp th op A (s1,s2)) (log.drop A.got.made)from M);clear f G;have f:=qb;clear qb;clear hx M mB;refine sO m (λ_=>d) ?_;clear m C;refine wTq 1 [(10,11,aa H s1)] ?_ d ?_
 ·intro s n;have F:=n.cell 0;have c2:=n.cell 2;simp at F c2;exact zT
 refine aG zK ?_ _;go_upto_region 6 with fail;have F:=d.cell 0;have I:=d.lt;simp at F;go_wp2_with fail;refine(jv f (eK _ _)).mono ?_;rintro e wa ⟨rfl,rfl⟩;obtain⟨lk,qR⟩:=nM (((A.got.made-1:Nat):Int));have HLK:=N (show (A.made:Int)=lk from qR);rw[qR];clear qR;have D:=d.cell 3;simp at D;go_upto_region 7 with fail;go_wp2_with fail;refine(gj j _).mono ?_;rintro e DD ⟨rfl,u⟩;clear F D I;replace f:=f.aw u;replace d:=d.aw u;replace g:=g.trans (cH.aT _ _ u);clear u;obtain⟨pc,hpc⟩:=nM (aV j);have HPC:=N hpc;rw[hpc];clear hpc;by_cases hsn:s1=pc
 case neg=>
  have hsb:(s1 != pc)=O:=by simp[hsn]
  have HJ2:=N (show FdJ2 k th op K log q gf z.made w z0.made DD from⟨A.got,X,_,_,_,_,f,g,d,by have:=qe.out;have:=qh.out;show z0.made<A.made+1;omega,by have:=HJ.out;have:=qe.out;have:=qh.out;show z.made<=A.made+1;omega,by
   rw[iB.out];show cK th k.me op (if s1≠aV j then _ else _) _=_;rw[if_pos (by rw[HPC.out];exact hsn)];rfl⟩)
  clear f g d iB hsn;go_wp2_with fail;go_step3;exact⟨Z,HJ2.out.jump Z Z Z Z HJ.out.1 HJ.out.2.1⟩
 have hsb:(s1 != pc)=X:=by simp[hsn]
 have rK:=N (show q=fp th k.me op (.fo K ⟨a,b,c,B,j,pt⟩ qa L) A.got (log.drop A.got.made)from by
  rw[iB.out];show cK th k.me op (if s1≠aV j then _ else _) _=_;rw[if_neg (by rw[HPC.out];exact λh=>h hsn)];rfl)
 have HPC2:=N (show aV j=s1 from HPC.out.trans hsn.symm);clear iB hsn;go_upto_region 8 with fail;clear hsb HPC;refine aH (S:=λs=>Bk s gf 204 (fdC k X (nodeAt k.l B 0) j 0 (pt:Nat) (nodeAt k.l op.h 0))) (E:=λ_=>X) zK ?_;replace f:=f.aw (bD DD);replace g:=g.drew;replace d:=d.drew;generalize DD.drew=w13 at *;refine wTq 13 [(0,88,ae (J ⟨gf,0,Y⟩)),(1,89,ae (J ⟨gf,0,Y⟩)),(2,90,ae (J ⟨gf,0,Y⟩)),(3,91,ae (J ⟨k.gp,0,Y⟩)),(4,92,ae (J ⟨gf,0,Y⟩)),(5,93,ae (J ⟨gf,0,Y⟩)),(6,94,ae (J ⟨gf,0,Y⟩)),(7,95,ae (J ⟨k.gp,0,Y⟩)),(8,96,ae (J ⟨gf,0,Y⟩)),(9,97,ae (J ⟨gf,0,Y⟩)),(10,98,ae (J ⟨gf,1,Y⟩)),(11,99,ae (J ⟨gf,3,Y⟩)),(12,100,aa H j)] ?_ d ?_
 ·intro s n;have F:=n.cell 0;have D:=n.cell 3;simp at F D;exact zT
 refine wOq 13 (λC m=>?_);go_simp;refine(fR j 1 f (by have:=P.out;omega)).mono ?_;rintro e w14 ⟨rfl,u⟩;replace f:=f.aw u;replace d:=d.aw u;replace g:=g.trans (cH.aT _ _ u);clear u;refine sO m (λ_=>d) ?_;clear m C;refine wOq 14 (λC m=>?_);go_simp;refine(iL (.nd j 1) (nodeAt k.l j 1) _ f rfl (rK.out.trans (iQ _ _ _ _ _ _))).mono ?_;rintro e w15 (⟨x,Q,rfl,qg⟩|⟨v,rfl,⟨⟨o1,o2⟩,hx,rfl,qb,M⟩,G⟩)
 ·exact⟨Z,.inl ⟨x,Q,Z,g.trans qg.two⟩⟩
 replace g:=g.trans G.two;replace d:=G.aw d (by have:=qd.out;omega);have vm:=N (show q=cK th k.me op ((LPh.fo K ⟨a,b,c,B,j,pt⟩ qa L).stp th op A.got (o1,o2)) (log.drop A.got.got.made)from M);clear f G;have f:=qb;clear qb;clear hx M rK;refine sO m (λ_=>d) ?_;clear m C;refine wTq 1 [(15,13,aa H o1)] ?_ d ?_
 ·intro s n;have F:=n.cell 0;have D:=n.cell 3;simp at F D;exact zT
 refine aG zK ?_ _;go_upto_region 9 with fail;go_wp2_with fail;refine(gL qa _).mono ?_;rintro e LF ⟨rfl,u⟩;replace f:=f.aw u;replace d:=d.aw u;replace g:=g.trans (cH.aT _ _ u);clear u;obtain⟨y,qD⟩:=nM (qa%65536);obtain⟨mk,uC⟩:=nM ((qa / 65536%2==1));obtain⟨ct,KY⟩:=nM (qa / 131072%268435456);have LM:0<=y/\y<65536:=zO;rw[qD,uC,KY];have U:=N (show idxOf qa=y/\dH qa=mk/\0<=y/\y<65536 from⟨qD,uC,LM⟩);clear qD uC KY LM;go_upto_region 11 with fail;have o:=Bk.made LF 81 #[aa H y,.bool mk,aa H ct];have zg:=d.lt;replace f:=f.aw (aA bS (ag #[aa H y,.bool mk,aa H ct] 81));replace d:=d.aw (aA bS (ag #[aa H y,.bool mk,aa H ct] 81));replace g:=g.alloc (ag #[aa H y,.bool mk,aa H ct] 81);generalize LF.alloc (ag #[aa H y,.bool mk,aa H ct] 81)=w17 at *;generalize LF.heap.size=gr at *;have HR:=N (show gf<gr/\k.gp<gr from⟨zg,by have:=qd.out;omega⟩);clear zg;have r1:=o.cell 1;have lr:=o.lt;simp at r1;cases mk
 case true=>
  have uj:=N (show q=fp th k.me op (.fc K ⟨a,b,c,B,j,pt⟩ y) A.got.got (log.drop A.got.got.made)from by
   rw[vm.out];show cK th k.me op (if dH qa then _ else _) _=_;rw[if_pos U.out.2.1,U.out.1];rfl)
  clear vm;go_upto_region 12 with fail;clear r1 lr;refine aH (S:=λs=>Bk s gf 204 (fdC k X (nodeAt k.l B 0) j 0 (pt:Nat) (nodeAt k.l op.h 0))/\Bk s gr 81 #[aa H y,ah O,aa H ct]) (E:=λ_=>X) zK ?_;replace f:=f.aw (bD w17);replace g:=g.drew;replace d:=d.drew;replace o:=o.drew;generalize w17.drew=w18 at *;refine wTq 16 [(0,113,ae (J ⟨gf,0,Y⟩)),(1,114,ae (J ⟨gf,0,Y⟩)),(2,115,ae (J ⟨gf,0,Y⟩)),(3,116,ae (J ⟨k.gp,0,Y⟩)),(4,117,ae (J ⟨gf,0,Y⟩)),(5,118,ae (J ⟨gf,0,Y⟩)),(6,119,ae (J ⟨gf,1,Y⟩)),(7,120,ae (J ⟨gf,2,Y⟩)),(8,121,aa H (nodeAt k.l B 0)),(9,122,ae (J ⟨gf,0,Y⟩)),(10,123,ae (J ⟨gf,0,Y⟩)),(11,124,ae (J ⟨gf,1,Y⟩)),(12,125,ae (J ⟨gf,3,Y⟩)),(13,126,aa H j),(15,128,ae (J ⟨gr,0,Y⟩)),(16,129,aa H y)] ?_ ⟨d,o⟩ ?_
  ·intro s n;have F:=n.1.cell 0;have c2:=n.1.cell 2;have D:=n.1.cell 3;have qc:=n.2.cell 0;simp at F c2 D qc;exact zT
  refine wOq 14 (λC m=>?_);go_simp;refine(gj j _).mono ?_;rintro e w19 ⟨rfl,u⟩;replace f:=f.aw u;replace d:=d.aw u;replace o:=o.aw u;replace g:=g.trans (cH.aT _ _ u);clear u;refine sO m (λ_=>⟨d,o⟩) ?_;clear m C;refine wOq 17 (λC m=>?_);go_simp;refine(gj y _).mono ?_;rintro e w20 ⟨rfl,u⟩;replace f:=f.aw u;replace d:=d.aw u;replace o:=o.aw u;replace g:=g.trans (cH.aT _ _ u);clear u;refine sO m (λ_=>⟨d,o⟩) ?_;clear m C;refine wOq 18 (λC m=>?_);go_simp;refine(nY (.nd B 0) (nodeAt k.l B 0) (aV j) (aV y) _ f rfl (uj.out.trans (iQ _ _ _ _ _ _))).mono ?_;rintro e w21 (⟨x,Q,rfl,qg⟩|⟨v,rfl,⟨⟨t1,t2⟩,ht,rfl,qb,M⟩,G⟩)
  ·exact⟨Z,.inl ⟨x,Q,Z,g.trans qg.two⟩⟩
  replace g:=g.trans G.two;replace d:=G.aw d (by have:=qd.out;omega);replace o:=G.aw o (by have:=HR.out;omega);have DC:=N (show q=cK th k.me op ((LPh.fc K ⟨a,b,c,B,j,pt⟩ y).stp th op A.got.got (t1,t2)) (log.drop A.got.got.got.made)from M);clear f G;have f:=qb;clear qb;clear ht M uj;refine sO m (λ_=>⟨d,o⟩) ?_;clear m C;refine wTq 1 [(19,132,ah (!t2))] ?_ ⟨d,o⟩ ?_
  ·intro s n;have F:=n.1.cell 0;have c2:=n.1.cell 2;have D:=n.1.cell 3;have qc:=n.2.cell 0;simp at F c2 D qc;exact zT
  refine aG zK ?_ _;cases t2 with
  | false=>
   have HJ2:=N (show FdJ2 k th op K log q gf z.made w z0.made w21 from⟨A.got.got.got,X,_,_,_,_,f,g,d,by have:=qe.out;have:=qh.out;show z0.made<A.made+1+1+1;omega,by have:=HJ.out;have:=qe.out;have:=qh.out;show z.made<=A.made+1+1+1;omega,DC.out⟩);clear f g d o DC;go_wp2_with fail;go_step3;exact⟨Z,HJ2.out.jump Z Z Z Z HJ.out.1 HJ.out.2.1⟩
  | true=>
   have HQ9:=N (show q=js (2*k.l.c.aO) k.me (λt z l=>cK th k.me op (ic op t z (.fr K ⟨b,a,c,B,y,A.got.got.made⟩)) l) (.r1 j) A.got.got.got (log.drop A.got.got.got.made)from by
    rw[DC.out,<- HNS.out.2.1];exact kB _ _ _ _ _ _ _)
   clear DC;go_upto_region 13 with fail;have F:=d.cell 0;have c5:=d.cell 5;have f5:=d.free 5;have I:=d.lt;simp at F c5;go_wp2_with fail;refine(jv f (eK _ _)).mono ?_;rintro e wb ⟨rfl,rfl⟩;obtain⟨pl,qB⟩:=nM (((A.got.got.got.made-1:Nat):Int));have HPL:=N (show ((A.got.got.made:Nat):Int)=pl from qB);rw[qB];clear qB;go_upto_region 14 with fail;obtain⟨qf,W,V⟩:=jy f g d qd.out 5 (aa H pl);have Ns:=o.other (p:=⟨gf,5,Y⟩) (by have:=HR.out;dsimp only;omega) (aa H pl);clear f g d o F c5 f5 I
   revert qf W V Ns
   generalize wb.setCell ⟨gf,5,Y⟩ (aa H pl)=w22;intro f g d o;replace d:Bk w22 gf 204 (fdC k X (nodeAt k.l B 0) j 0 pl (nodeAt k.l op.h 0)):=d;refine aH (S:=λs=>Bk s gf 204 (fdC k X (nodeAt k.l B 0) j 0 pl (nodeAt k.l op.h 0))/\Bk s gr 81 #[aa H y,ah O,aa H ct]) (E:=λ_=>X) zK ?_;replace f:=f.aw (bD w22);replace g:=g.drew;replace d:=d.drew;replace o:=o.drew;generalize w22.drew=w23 at *;refine wTq 9 [(0,142,ae (J ⟨gf,0,Y⟩)),(1,143,ae (J ⟨gf,0,Y⟩)),(2,144,ae (J ⟨gf,0,Y⟩)),(3,145,ae (J ⟨k.gp,0,Y⟩)),(4,146,ae (J ⟨gf,0,Y⟩)),(5,147,ae (J ⟨gf,0,Y⟩)),(6,148,ae (J ⟨gf,1,Y⟩)),(7,149,ae (J ⟨gf,3,Y⟩)),(8,150,aa H j)] ?_ ⟨d,o⟩ ?_
   ·intro s n;have F:=n.1.cell 0;have D:=n.1.cell 3;have qc:=n.2.cell 0;simp at F D qc;exact zT
   refine wOq 9 (λC m=>?_);go_simp;refine(AE j _ f HNS.out.2.2.1 HQ9.out HNS.out.1).mono ?_;rintro e w24 (⟨x,Q,rfl,qg⟩|⟨v,rfl,⟨z5,rfl,qb,M,ru⟩,G⟩)
   ·exact⟨Z,.inl ⟨x,Q,Z,g.trans qg.two⟩⟩
   replace g:=g.trans G.two;replace d:=G.aw d (by have:=qd.out;omega);replace o:=G.aw o (by have:=HR.out;omega);have HQ10:=N (show q=cK th k.me op (eR op K ⟨b,a,c,B,y,A.got.got.made⟩ z5) (log.drop z5.made)from M);clear f G;have f:=qb;clear qb;have DI:=N (show A.made+1+1+1<=z5.made from ru);clear M ru HQ9;refine sO m (λ_=>⟨d,o⟩) ?_;clear m C;refine aG zK ?_ _;go_upto_region 15 with fail;have D:=d.cell 3;have f3:=d.free 3;have I:=d.lt;have qc:=o.cell 0;have lr:=o.lt;simp at D qc;go_upto_region 16 with fail;obtain⟨qf,W,V⟩:=jy f g d qd.out 3 (aa H y);clear f g d o D f3 I qc lr
   revert qf W V
   generalize w24.setCell ⟨gf,3,Y⟩ (aa H y)=w25;intro f g d;replace d:Bk w25 gf 204 (fdC k X (nodeAt k.l B 0) y 0 pl (nodeAt k.l op.h 0)):=d;have OY:=N (show JX k th op K log q gf z0.made w (aa H (b:Nat)) (aa H (a:Nat)) (aa H (c:Nat)) w25 from⟨z5,b,a,c,B,y,_,Z,Z,Z,⟨P.out.1.2.1,P.out.1.1,P.out.1.2.2⟩,f,g,by rw[HPL.out];exact d,⟨U.out.2.2.1,U.out.2.2.2,P.out.2.2.2⟩,by have:=qe.out;have:=qh.out;have:=DI.out;omega,HQ10.out⟩);have HMS:=N (show log.length+1-madeOf k.gp w25<log.length+1-madeOf k.gp w6 by
    rw[cU f,qe.out.1];have:=f.mle;have:=qe.out;have:=qh.out;have:=DI.out;omega)
   clear f g d HQ10;go_wp2_with fail;go_roundw
   case rel=>exact OY.out
   case measure=>exact HMS.out
 by_cases fH:o1<op.o
 case pos=>
  have hl1:decide (o1<op.o)=O:=by simp[fH]
  have uj:=N (show q=cK th k.me op (eR op K ⟨b,c,a,j,y,L⟩ A.got.got) (log.drop A.got.got.made)from by
   rw[vm.out];show cK th k.me op (if dH qa then _ else _) _=_;rw[if_neg (by rw[U.out.2.1];decide),if_pos fH,U.out.1])
  clear vm fH;go_upto_region 18 with fail;clear hl1 r1 lr;refine aH (S:=λs=>s.cell? ⟨gf,0,Y⟩=J (ptr k.gp)/\Bk s gr 81 #[aa H y,ah X,aa H ct]) (E:=λ_=>X) zK ?_;replace f:=f.aw (bD w17);replace g:=g.drew;replace d:=d.drew;replace o:=o.drew;generalize w17.drew=w18 at *;have k0:w18.cell? ⟨gf,0,Y⟩=J (ptr k.gp):=d.cell 0;refine wTq 14 [(0,164,ae (J ⟨gf,0,Y⟩)),(1,165,ae (J ⟨gf,0,Y⟩)),(2,166,ae (J ⟨gf,0,Y⟩)),(3,167,ae (J ⟨gf,0,Y⟩)),(4,168,ae (J ⟨gf,0,Y⟩)),(5,169,ae (J ⟨gf,0,Y⟩)),(6,170,ae (J ⟨k.gp,0,Y⟩)),(7,171,ae (J ⟨gf,0,Y⟩)),(8,172,ae (J ⟨gf,0,Y⟩)),(9,173,ae (J ⟨gf,1,Y⟩)),(10,174,ae (J ⟨gf,3,Y⟩)),(13,177,ae (J ⟨gr,0,Y⟩)),(14,178,aa H y),(15,179,aa H (L:Nat))] ?_ ⟨d.cell 0,o⟩ ?_
  ·intro s n;have F:=n.1;have qc:=n.2.cell 0;simp at qc;exact zT
  have D:=d.cell 3;have I:=d.lt;simp at D;refine wOq 11 (λC m=>?_);go_simp;refine sO m (λ_=>⟨d.cell 0,o⟩) ?_;clear m C;clear D I;refine wOq 12 (λC m=>?_);go_simp;refine(fR j 0 f (by have:=P.out;omega)).mono ?_;rintro e w19 ⟨rfl,u⟩;replace f:=f.aw u;replace d:=d.aw u;replace o:=o.aw u;replace g:=g.trans (cH.aT _ _ u);clear u;refine sO m (λ_=>⟨d.cell 0,o⟩) ?_;clear m C;clear k0;refine wTq 3 [(16,180,ae (J ⟨gf,0,Y⟩)),(17,181,ae (J ⟨gf,1,Y⟩)),(18,182,ae (J ⟨gf,2,Y⟩))] ?_ ⟨d.cell 0,o⟩ ?_
  ·intro s n;have F:=n.1;have qc:=n.2.cell 0;simp at qc;exact zT
  have c2:=d.cell 2;have f2:=d.free 2;have I:=d.lt;simp at c2;refine wOq 19 (λC m=>?_);go_simp;obtain⟨qf,W,V⟩:=jy f g d qd.out 2 (aa H (nodeAt k.l j 0));have Ns:=o.other (p:=⟨gf,2,Y⟩) (by have:=HR.out;dsimp only;omega) (aa H (nodeAt k.l j 0));clear f g d o c2 f2 I
  revert qf W V Ns
  generalize w19.setCell ⟨gf,2,Y⟩ (aa H (nodeAt k.l j 0))=w20 at *;intro f g d o;replace d:Bk w20 gf 204 (fdC k X (nodeAt k.l j 0) j 0 (pt:Nat) (nodeAt k.l op.h 0)):=d;refine sO m (λ_=>⟨d.cell 0,o⟩) ?_;clear m C;refine wTq 3 [(20,183,ae (J ⟨gf,0,Y⟩)),(21,184,ae (J ⟨gf,1,Y⟩)),(22,185,ae (J ⟨gf,3,Y⟩))] ?_ ⟨d.cell 0,o⟩ ?_
  ·intro s n;have F:=n.1;have qc:=n.2.cell 0;simp at qc;exact zT
  have D:=d.cell 3;have f3:=d.free 3;have I:=d.lt;simp at D;refine wOq 23 (λC m=>?_);go_simp;obtain⟨qf,W,V⟩:=jy f g d qd.out 3 (aa H y);have Ns:=o.other (p:=⟨gf,3,Y⟩) (by have:=HR.out;dsimp only;omega) (aa H y);clear f g d o D f3 I
  revert qf W V Ns
  generalize w20.setCell ⟨gf,3,Y⟩ (aa H y)=w21 at *;intro f g d o;replace d:Bk w21 gf 204 (fdC k X (nodeAt k.l j 0) y 0 (pt:Nat) (nodeAt k.l op.h 0)):=d;refine sO m (λ_=>⟨d.cell 0,o⟩) ?_;clear m C;refine wTq 3 [(24,186,ae (J ⟨gf,0,Y⟩)),(25,187,ae (J ⟨gf,1,Y⟩)),(26,188,ae (J ⟨gf,5,Y⟩))] ?_ ⟨d.cell 0,o⟩ ?_
  ·intro s n;have F:=n.1;have qc:=n.2.cell 0;simp at qc;exact zT
  have c5:=d.cell 5;have f5:=d.free 5;have I:=d.lt;simp at c5;refine wOq 27 (λC m=>?_);go_simp;obtain⟨qf,W,V⟩:=jy f g d qd.out 5 (aa H (L:Nat));have Ns:=o.other (p:=⟨gf,5,Y⟩) (by have:=HR.out;dsimp only;omega) (aa H (L:Nat));clear f g d o c5 f5 I
  revert qf W V Ns
  generalize w21.setCell ⟨gf,5,Y⟩ (aa H (L:Nat))=w22 at *;intro f g d o;replace d:Bk w22 gf 204 (fdC k X (nodeAt k.l j 0) y 0 (L:Nat) (nodeAt k.l op.h 0)):=d;refine sO m (λ_=>⟨d.cell 0,o⟩) ?_;clear m C;refine aG zK ?_ _;have OY:=N (show JX k th op K log q gf z0.made w (aa H (b:Nat)) (aa H (c:Nat)) (aa H (a:Nat)) w22 from⟨A.got.got,b,c,a,j,y,L,Z,Z,Z,⟨P.out.1.2.1,P.out.1.2.2,P.out.1.1⟩,f,g,d,⟨U.out.2.2.1,U.out.2.2.2,by have:=P.out;omega⟩,by have:=qe.out;have:=qh.out;show z0.made<A.made+1+1;omega,uj.out⟩);have HMS:=N (show log.length+1-madeOf k.gp w22<log.length+1-madeOf k.gp w6 by
   rw[cU f,qe.out.1];have hh:=f.mle;have:=qe.out;have:=qh.out
   revert hh;show A.made+1+1<=_->log.length+1-(A.made+1+1)<_;omega)
  clear f g d o uj;go_wp2_with fail;go_roundw
  case rel=>exact OY.out
  case measure=>exact HMS.out
 have hl1:decide (o1<op.o)=X:=zP;by_cases heq:o1=op.o
 ·have N3:(o1==op.o)=O:=by simp[heq]
  have HP:=N (show ∀s,dz s k A.got.got log->Bk s gf 204 (fdC k O (nodeAt k.l B 0) j qa (L:Nat) (nodeAt k.l op.h 0))->Bv k th op K log q gf z.made (.tuple #[]) s from λs Q h2=>⟨O,B,j,qa,L,A.got.got,Z,Q,h2,P.out.2.1,P.out.2.2.1,by have:=HJ.out;have:=qe.out;have:=qh.out;show z.made<A.made+1+1;omega,by
   rw[vm.out];show cK th k.me op (if dH qa then _ else _) _=_;rw[if_neg (by rw[U.out.2.1];decide),if_neg fH,if_pos heq]⟩)
  clear vm heq fH;go_upto_region 21 with fail;have c1:=d.cell 1;have f1:=d.free 1;have c4:=d.cell 4;have f4:=d.free 4;have c5:=d.cell 5;have f5:=d.free 5;have I:=d.lt;simp at c1 c4 c5;clear hl1 N3 r1 lr;go_wp2_with fail;obtain⟨p1',s1',k1'⟩:=jy f g d qd.out 1 (ah O);obtain⟨p2',s2',k2'⟩:=jy p1' s1' k1' qd.out 4 (aa H qa);obtain⟨p3',s3',k3'⟩:=jy p2' s2' k2' qd.out 5 (aa H (L:Nat));exact aS (gT Z _ _ _) Z (.inr ⟨_,Z,HP.out _ p3' k3',s3'⟩)
 have N3:(o1==op.o)=X:=by simp[heq]
 have HP:=N (show ∀s,dz s k A.got.got log->Bk s gf 204 (fdC k X (nodeAt k.l B 0) j 0 lk (nodeAt k.l op.h 0))->Bv k th op K log q gf z.made (.tuple #[]) s from λs Q h2=>⟨X,B,j,0,A.made,A.got.got,Z,Q,by rw[HLK.out];exact h2,P.out.2.1,P.out.2.2.1,by have:=HJ.out;have:=qe.out;have:=qh.out;show z.made<A.made+1+1;omega,by
  rw[vm.out];show cK th k.me op (if dH qa then _ else _) _=_;rw[if_neg (by rw[U.out.2.1];decide),if_neg fH,if_neg heq];rfl⟩)
 clear vm heq fH;go_upto_region 10 with fail;have c5:=d.cell 5;have f5:=d.free 5;have I:=d.lt;simp at c5;clear hl1 N3 r1 lr;go_wp2_with fail;obtain⟨p3',s3',k3'⟩:=jy f g d qd.out 5 (aa H lk);exact aS (gT Z _ _ _) Z (.inr ⟨_,Z,HP.out _ p3' k3',s3'⟩)
end
end list
namespace list
open Go.RowKit
attribute [local go_sem ↓] aQ aR
def uf(k:Pk)(log:Log)(q:An (dx × Pz))(u:I)(b:W):Prop:=
 ∃o a,q= .fin (o,a)/\u= .agg (bh o.val o.is 0 (o.bc:Nat))/\dz b k a log
theorem jd(th a:Int)(op:LOp)(o:dx)(z:Pz)(l:Log):cK th a op (fF o z) l=fx th a (λt z l=>cK th a op (ic op t z (.out o)) l) (df z 0) l:=
 vT th a op (.out o) (df z 0) _ l (λ_ _=>Z)
section
variable {w:W} {k:Pk} {z:Pz} {log:Log} {q:An (dx × Pz)}
theorem A5(th:Int)(op:LOp)(j:Nat)(t:Bool)(qf u next pt:Int)(h:dz w k z log)(rr:th=2*k.l.c.aO)(hs:1<=k.l.c.aO/\k.l.c.aO<=8)(NZ:k.gp<j)(hh:op.h<=9223372036854775807)(c:Bk w j 204 (fdC k t qf u next pt (nodeAt k.l op.h 0)))(hq:q=fp th k.me op (.sub (.g1 0 (.nd op.h 0)) (.fh .get)) z (log.drop z.made))(mF:q≠ .stuck):
  Calls ao 167 #[ptr j,aa H op.o] w (jC k j q w (uf k log q)):=by
 have f:cH k.gp j w (w.alloc (ag aW 70)):=(cH.refl _ _ _).alloc _;have d:=Bk.made w 70 aW;have V:=c.lt;have qg:=h.lt;have i:=h.aw (aA bS (ag aW 70));replace c:=c.alloc (ag aW 70);have HNS:=N (al mF (al rr (al hs hh)));have HQ:=N hq;have tQ:∃g,w.heap.size=g:=⟨_,Z⟩;clear h hq mF rr hs hh;go_enter func167,ntmps167;go_upto_region 1 with fail;generalize w.alloc (ag aW 70)=w0 at *;obtain⟨F,qi⟩:=tQ;rw[qi]at d V qg ⊢;have l:=N (show k.gp<j/\j<F/\k.gp<F/\w.heap.size=F from⟨NZ,V,qg,qi⟩);clear qi V qg NZ;go_wp2_with fail;refine(kF th op .get j t qf u next pt i HNS.out.2.1 HNS.out.2.2.1 l.out.1 HNS.out.2.2.2 c HQ.out HNS.out.1).mono ?_;clear c;rintro e w1 (⟨x,qa,rfl,qc⟩|⟨v,rfl,⟨t,qf,u,next,pt,P,rfl,B,c,CU,DH,hm,A⟩,n⟩)
 ·exact⟨Z,.inl ⟨x,qa,Z,f.trans qc⟩⟩
 replace f:=f.trans n;replace d:=n.aw d (by have:=l.out;omega) (by have:=l.out;omega);have Q:=N A;have HCB:=N (al CU DH);clear i n A hm CU DH HQ;have i:=B;clear B;go_upto_region 2 with fail;refine aH (S:=λqb=>Bk qb j 204 (fdC k t (nodeAt k.l qf 0) u next (pt:Nat) (nodeAt k.l op.h 0))) (E:=λ_=>X) zK ?_;replace i:=i.aw (bD w1);replace f:=f.drew;replace c:=c.drew;replace d:=d.drew;generalize w1.drew=R at *;refine wTq 10 [(0,9,ae (J ⟨j,0,Y⟩)),(1,10,ae (J ⟨j,0,Y⟩)),(2,11,ae (J ⟨j,1,Y⟩)),(3,12,ae (J ⟨j,1,Y⟩)),(4,13,.bool t),(5,14,ae (J ⟨j,0,Y⟩)),(6,15,ae (J ⟨j,0,Y⟩)),(7,16,ae (J ⟨j,1,Y⟩)),(8,17,ae (J ⟨j,5,Y⟩)),(9,18,aa H (pt:Nat))] ?_ c ?_
 ·intro qb D;have c1:=D.cell 1;have c5:=D.cell 5;simp at c1 c5;exact zT
 refine wTq 1 [(10,19,.agg (bh 0 t 0 (pt:Nat)))] ?_ c ?_
 ·intro qb D;have c1:=D.cell 1;have c5:=D.cell 5;simp at c1 c5;exact zT
 refine wOq 11 (λG s=>?_);go_simp;have m:=Bk.made R 70 aW;have zk:=d.lt;have y:=aA bS (ag aW 70) (a:=R);replace i:=i.aw y;replace c:=c.aw y;replace d:=d.aw y;replace f:=f.trans (cH.aT _ _ y);clear y;generalize R.alloc (ag aW 70)=w3 at *;obtain⟨go,hgo⟩:=nM (R.heap.size);rw[hgo]at m zk ⊢;have C:=N (show F<go from zk);clear hgo zk;refine sO s (λ_=>c) ?_;clear s G;refine wOq 12 (λG s=>?_);rw[if_pos (by rfl)];refine eC 70 (.tmp 5) (.tmp 19) Z go (bh 0 t 0 (pt:Nat)) Z Z 70 aW m zK Z (by simp[aB]) ?_;replace i:=i.dK m (by have:=l.out;have:=C.out;omega) (bh 0 t 0 (pt:Nat));replace c:=c.a6 (b:=go) (by have:=l.out;have:=C.out;omega) (bh 0 t 0 (pt:Nat));replace d:=d.a6 (b:=go) (by have:=C.out;omega) (bh 0 t 0 (pt:Nat));replace f:=f.row (b:=go) (.inl (by have:=l.out;have:=C.out;omega)) (bh 0 t 0 (pt:Nat));replace m:=m.bG (bh 0 t 0 (pt:Nat));generalize w3.setRow go (bh 0 t 0 (pt:Nat))=w4 at *;refine s.out _ _ (λ_=>c) ?_;clear s G;(try simp only[au,ar,an,Act.put]);refine aG zK ?_ _;go_upto_region 3 with fail;have qh:=c.cell 1;have L:=c.lt;simp at qh;cases t
 case false=>
  have qe:=N (Q.out.trans (jd _ _ _ _ _ _));clear Q;go_upto_region 5 with fail;clear qh L;have qd:=c.cell 0;have L:=c.lt;simp at qd;go_wp2_with fail;refine(gK th _ i qe.out).mono ?_;rintro e w5 (⟨x,qa,rfl,qc⟩|⟨v,rfl,⟨U,rfl,B,A⟩,n⟩)
  ·exact⟨Z,.inl ⟨x,qa,Z,f.trans qc.two⟩⟩
  replace f:=f.trans n.two;replace c:=n.aw c (by have:=l.out;omega);replace d:=n.aw d (by have:=l.out;omega);replace m:=n.aw m (by have:=l.out;have:=C.out;omega);have qj:=N (show q= .fin (⟨0,X,pt,0⟩,U)from A);clear i n;have i:=B;clear B;clear A qe qd L;go_wp2_with (first
   | (refine aM Z 70 (.tmp 5) Z go Z 70 (bh 0 X 0 (pt:Nat)) (0,0) _ m aJ Z zK ?_)
   | (refine aI Z 70 (.tmp 4) (.tmp 46) Z Z F (bh 0 X 0 (pt:Nat)) Z Z 70 aW d zK Z (by simp[aB]) ?_))
  have AY:=i.dK d (by have:=l.out;omega) (bh 0 X 0 (pt:Nat));replace d:=d.bG (bh 0 X 0 (pt:Nat));replace f:=f.row (b:=F) (.inl (by have:=l.out;omega)) (bh 0 X 0 (pt:Nat));exact aS (v:=.agg (bh 0 X 0 (pt:Nat))) (bQ (p:=4) (ty:=70) Z _ _ F 70 _ (0,0) _ Z d aJ Z zK) Z (.inr ⟨_,Z,⟨_,_,qj.out,Z,AY⟩,f⟩)
 have qe:=N (show q=fp th k.me op (.gv u pt) P (log.drop P.made)from Q.out);clear Q;go_upto_region 4 with fail;clear qh L;refine aH (S:=λqb=>Bk qb j 204 (fdC k O (nodeAt k.l qf 0) u next (pt:Nat) (nodeAt k.l op.h 0))) (E:=λ_=>X) zK ?_;replace i:=i.aw (bD w4);replace f:=f.drew;replace c:=c.drew;replace d:=d.drew;replace m:=m.drew;generalize w4.drew=w5 at *;refine wTq 13 [(0,25,ae (J ⟨j,0,Y⟩)),(1,26,ae (J ⟨j,0,Y⟩)),(2,27,ae (J ⟨j,0,Y⟩)),(3,28,ae (J ⟨k.gp,0,Y⟩)),(4,29,ae (J ⟨j,0,Y⟩)),(5,30,ae (J ⟨j,0,Y⟩)),(6,31,ae (J ⟨j,0,Y⟩)),(7,32,ae (J ⟨k.gp,0,Y⟩)),(8,33,ae (J ⟨j,0,Y⟩)),(9,34,ae (J ⟨j,0,Y⟩)),(10,35,ae (J ⟨j,1,Y⟩)),(11,36,ae (J ⟨j,3,Y⟩)),(12,37,aa H u)] ?_ c ?_
 ·intro qb D;have K:=D.cell 0;have W:=D.cell 3;simp at K W;exact zT
 refine wOq 13 (λG s=>?_);go_simp;refine(fR u 2 i (by have:=HCB.out;omega)).mono ?_;rintro e w6 ⟨rfl,y⟩;replace i:=i.aw y;replace c:=c.aw y;replace d:=d.aw y;replace m:=m.aw y;replace f:=f.trans (cH.aT _ _ y);clear y;refine sO s (λ_=>c) ?_;clear s G;refine wOq 14 (λG s=>?_);go_simp;refine(iL (.nd u 2) (nodeAt k.l u 2) _ i rfl (qe.out.trans (iQ _ _ _ _ _ _))).mono ?_;rintro e w7 (⟨x,qa,rfl,qc⟩|⟨v,rfl,⟨⟨o,x2⟩,hx,rfl,B,A⟩,n⟩)
 ·exact⟨Z,.inl ⟨x,qa,Z,f.trans qc.two⟩⟩
 replace f:=f.trans n.two;replace c:=n.aw c (by have:=l.out;omega);replace d:=n.aw d (by have:=l.out;omega);replace m:=n.aw m (by have:=l.out;have:=C.out;omega);have mB:=N (show q=cK th k.me op (fF ⟨o,O,pt,u⟩ P.got) (log.drop P.got.made)from A);clear i n;have i:=B;clear B;clear A hx qe;refine sO s (λ_=>c) ?_;clear s G;refine wTq 1 [(15,40,ae (J ⟨go,0,Y⟩))] ?_ c ?_
 ·intro qb D;have K:=D.cell 0;have W:=D.cell 3;simp at K W;exact zT
 have K:=m.cell 0;have f0:=m.free 0;have lo:=m.lt;simp at K;refine wOq 16 (λG s=>?_);go_simp;replace i:=i.pz m (by have:=l.out;have:=C.out;have:=i.bp;omega) zD 0 (aa H o);replace c:=c.other (p:=⟨go,0,Y⟩) (by have:=l.out;have:=C.out;dsimp only;omega) (aa H o);replace d:=d.other (p:=⟨go,0,Y⟩) (by have:=l.out;have:=C.out;dsimp only;omega) (aa H o);replace f:=f.cell (p:=⟨go,0,Y⟩) (.inl (by have:=l.out;have:=C.out;dsimp only;omega)) (aa H o);replace m:Bk (w7.setCell ⟨go,0,Y⟩ (aa H o)) go 70 (bh o O 0 (pt:Nat)):=m.stored 0 (aa H o);clear K f0 lo;generalize w7.setCell ⟨go,0,Y⟩ (aa H o)=w8 at *;refine sO s (λ_=>c) ?_;clear s G;refine aG zK ?_ _;have iB:=N (mB.out.trans (jd _ _ _ _ _ _));clear mB;have qd:=c.cell 0;have L:=c.lt;simp at qd;go_wp2_with fail;refine(gK th _ i iB.out).mono ?_;rintro e w9 (⟨x,qa,rfl,qc⟩|⟨v,rfl,⟨U,rfl,B,A⟩,n⟩)
 ·exact⟨Z,.inl ⟨x,qa,Z,f.trans qc.two⟩⟩
 replace f:=f.trans n.two;replace c:=n.aw c (by have:=l.out;omega);replace d:=n.aw d (by have:=l.out;omega);replace m:=n.aw m (by have:=l.out;have:=C.out;omega);have qj:=N (show q= .fin (⟨o,O,pt,u⟩,U)from A);clear i n;have i:=B;clear B;clear A iB qd L;go_wp2_with (first
  | (refine aM Z 70 (.tmp 5) Z go Z 70 (bh o O 0 (pt:Nat)) (0,0) _ m aJ Z zK ?_)
  | (refine aI Z 70 (.tmp 4) (.tmp 46) Z Z F (bh o O 0 (pt:Nat)) Z Z 70 aW d zK Z (by simp[aB]) ?_))
 have AY:=i.dK d (by have:=l.out;omega) (bh o O 0 (pt:Nat));replace d:=d.bG (bh o O 0 (pt:Nat));replace f:=f.row (b:=F) (.inl (by have:=l.out;omega)) (bh o O 0 (pt:Nat));exact aS (v:=.agg (bh o O 0 (pt:Nat))) (bQ (p:=4) (ty:=70) Z _ _ F 70 _ (0,0) _ Z d aJ Z zK) Z (.inr ⟨_,Z,⟨_,_,qj.out,Z,AY⟩,f⟩)
end
def I4(k:Pk)(th:Int)(op:LOp)(b gb:Nat)(log:Log)(q:An (dx × Pz))(w wr:W):Prop:=
 ∃a e f d next c,dz wr k a log/\cH k.gp b w wr/\Bk wr b 204 (fdC k e f d next c (nodeAt k.l op.h 0))/\Bk wr gb 70 aW/\q=fp th k.me op (.sub (.g1 0 (.nd op.h 0)) (.fh .del)) a (log.drop a.made)
section
variable {w:W} {k:Pk} {z:Pz} {log:Log} {q:An (dx × Pz)}
theorem Ba(th:Int)(op:LOp)(m:Nat)(U:Bool)(F y next pt:Int)(h:dz w k z log)(rr:th=2*k.l.c.aO)(hs:1<=k.l.c.aO/\k.l.c.aO<=8)(NZ:k.gp<m)(hh:op.h<=9223372036854775807)(d:Bk w m 204 (fdC k U F y next pt (nodeAt k.l op.h 0)))(V:q=fp th k.me op (.sub (.g1 0 (.nd op.h 0)) (.fh .del)) z (log.drop z.made))(mF:q≠ .stuck):
  Calls ao 171 #[ptr m,aa H op.o] w (jC k m q w (uf k log q)):=by
 have i:cH k.gp m w (w.alloc (ag aW 70)):=(cH.refl _ _ _).alloc _;have j:=Bk.made w 70 aW;have zf:=d.lt;have zp:=h.lt;have f:=h.aw (aA bS (ag aW 70));replace d:=d.alloc (ag aW 70);have HNS:=N (al mF (al rr (al hs hh)));have qh:=N V;have tQ:∃g,w.heap.size=g:=⟨_,Z⟩;clear h V mF rr hs hh;go_enter func171,ntmps171;go_wp2_with fail;generalize w.alloc (ag aW 70)=w0 at *;obtain⟨G,ya⟩:=tQ;rw[ya]at j zf zp ⊢;have A:=N (show k.gp<m/\m<G/\k.gp<G/\w.heap.size=G from⟨NZ,zf,zp,ya⟩);clear ya zf zp NZ;have HR:=N (show I4 k th op m G log q w w0 from⟨z,U,F,y,next,pt,f,i,d,j,qh.out⟩);have lp:=f.lt;clear f i qh d j;go_loopw [7] (λ_ wr=>I4 k th op m G log q w wr) (λ_ wr=>log.length+1-madeOf k.gp wr)
 case atStart=>exact HR.out
 case round=>
 clear HR lp U F y next pt
 obtain⟨z2,U,F,y,next,pt,f,i,d,j,V⟩:=hrel;have HM:=N (al (cU f) f.mle);have qh:=N V;clear V;go_wp2_with fail;refine(kF th op .del m _ _ _ _ _ f HNS.out.2.1 HNS.out.2.2.1 A.out.1 HNS.out.2.2.2 d qh.out HNS.out.1).mono ?_;clear d;rintro e w1 (⟨x,qb,rfl,qa⟩|⟨v,rfl,⟨U,F,y,next,pt,s,rfl,B,d,CU,DH,hm,C⟩,n⟩)
 ·exact⟨Z,.inl ⟨x,qb,Z,i.trans qa⟩⟩
 replace i:=i.trans n;replace j:=n.aw j (by have:=A.out;omega) (by have:=A.out;omega);have rG:=N C;have OZ:=N (al CU (al DH hm));clear f n C hm CU DH qh;have f:=B;clear B;have OA:=d.cell 1;have L:=d.lt;simp at OA;cases U
 case false=>
  have qg:=N (rG.out.trans (jd _ _ _ _ _ _));clear rG;go_upto_region 3 with fail;clear OA L;have M:=d.cell 0;have L:=d.lt;simp at M;go_wp2_with fail;refine(gK th _ f qg.out).mono ?_;rintro e w2 (⟨x,qb,rfl,qa⟩|⟨v,rfl,⟨qe,rfl,B,C⟩,n⟩)
  ·exact⟨Z,.inl ⟨x,qb,Z,i.trans qa.two⟩⟩
  replace i:=i.trans n.two;replace d:=n.aw d (by have:=A.out;omega);replace j:=n.aw j (by have:=A.out;omega);have R:=N (show q= .fin (⟨0,X,pt,0⟩,qe)from C);clear f n;have f:=B;clear B;clear C qg M L;have Oz:=d.cell 5;have L:=d.lt;simp at Oz;go_wp2_with (refine aI Z 70 (.tmp 4) (.tmp 26) Z Z G (bh 0 X 0 (pt:Nat)) Z Z 70 aW j zK Z (by simp[aB]) ?_);have AY:=f.dK j (by have:=A.out;omega) (bh 0 X 0 (pt:Nat));replace j:=j.bG (bh 0 X 0 (pt:Nat));replace i:=i.row (b:=G) (.inl (by have:=A.out;omega)) (bh 0 X 0 (pt:Nat));exact aS (v:=.agg (bh 0 X 0 (pt:Nat))) (bQ (p:=4) (ty:=70) Z _ _ G 70 _ (0,0) _ Z j aJ Z zK) Z (.inr ⟨_,Z,⟨_,_,R.out,Z,AY⟩,i⟩)
 have qg:=N (show q=fp th k.me op (.dm F y next) s (log.drop s.made)from rG.out);clear rG;have hfl:∀(a:Int) (b:Bool) (c:Int) (w:World),(Instr.field 81 (.agg #[aa H a,.bool b,aa H c]) 0).run ao w= .ok (aa H a) w:=λ_ _ _ _=>by kernel_rfl
 go_upto_region 5 with fail;clear OA L;have ckf4:=d.cell 4;have L:=d.lt;simp at ckf4;go_wp2_with fail;refine(gL next _).mono ?_;rintro e w2 ⟨rfl,u⟩;replace f:=f.aw u;replace d:=d.aw u;replace j:=j.aw u;replace i:=i.trans (cH.aT _ _ u);clear u;obtain⟨P,qD⟩:=nM (next%65536);have xU:=N (show idxOf next=P from qD);rw[qD];clear qD ckf4 L;have HD1:=N (show q=doR ⟨3,.nd y 0,next,eQ P⟩ s (λr _ l'=>cK th k.me op ((LPh.dm F y next).stp th op s r) l') (log.drop s.made)from by rw[<- xU.out];exact qg.out.trans (iQ _ _ _ _ _ _));go_upto_region 6 with fail;clear hfl;refine aH (S:=λqd=>Bk qd m 204 (fdC k O (nodeAt k.l F 0) y next (pt:Nat) (nodeAt k.l op.h 0))) (E:=λ_=>X) zK ?_;replace f:=f.aw (bD w2);replace i:=i.drew;replace d:=d.drew;replace j:=j.drew;generalize w2.drew=w3 at *;refine wTq 19 [(0,34,ae (J ⟨m,0,Y⟩)),(1,35,ae (J ⟨m,0,Y⟩)),(2,36,ae (J ⟨m,0,Y⟩)),(3,37,ae (J ⟨k.gp,0,Y⟩)),(4,38,ae (J ⟨m,0,Y⟩)),(5,39,ae (J ⟨m,0,Y⟩)),(6,40,ae (J ⟨m,0,Y⟩)),(7,41,ae (J ⟨k.gp,0,Y⟩)),(8,42,ae (J ⟨m,0,Y⟩)),(9,43,ae (J ⟨m,0,Y⟩)),(10,44,ae (J ⟨m,1,Y⟩)),(11,45,ae (J ⟨m,3,Y⟩)),(12,46,aa H y),(14,48,ae (J ⟨m,0,Y⟩)),(15,49,ae (J ⟨m,0,Y⟩)),(16,50,ae (J ⟨m,1,Y⟩)),(17,51,ae (J ⟨m,4,Y⟩)),(18,52,aa H next),(19,53,aa H P)] ?_ d ?_
 ·intro qd qc;have qf:=qc.cell 0;have Q:=qc.cell 3;have c4:=qc.cell 4;simp at qf Q c4;exact zT
 refine wOq 13 (λK D=>?_);go_simp;refine(fR y 0 f (by have:=OZ.out;omega)).mono ?_;rintro e w4 ⟨rfl,u⟩;replace f:=f.aw u;replace d:=d.aw u;replace j:=j.aw u;replace i:=i.trans (cH.aT _ _ u);clear u;refine sO D (λ_=>d) ?_;clear D K;refine wOq 20 (λK D=>?_);go_simp;refine(Ik P _).mono ?_;rintro e w5 ⟨rfl,u⟩;replace f:=f.aw u;replace d:=d.aw u;replace j:=j.aw u;replace i:=i.trans (cH.aT _ _ u);clear u;refine sO D (λ_=>d) ?_;clear D K;refine wOq 21 (λK D=>?_);go_simp;refine(nY (.nd y 0) (nodeAt k.l y 0) next (eQ P) _ f rfl HD1.out).mono ?_;rintro e w6 (⟨x,qb,rfl,qa⟩|⟨v,rfl,⟨⟨t1,t2⟩,ht,rfl,B,C⟩,n⟩)
 ·exact⟨Z,.inl ⟨x,qb,Z,i.trans qa.two⟩⟩
 replace i:=i.trans n.two;replace d:=n.aw d (by have:=A.out;omega);replace j:=n.aw j (by have:=A.out;omega);have mB:=N (show q=cK th k.me op ((LPh.dm F y next).stp th op s (t1,t2)) (log.drop s.got.made)from C);clear f n;have f:=B;clear B;clear C ht qg HD1;refine sO D (λ_=>d) ?_;clear D K;refine wTq 1 [(22,56,ah (!t2))] ?_ d ?_
 ·intro qd qc;have qf:=qc.cell 0;have Q:=qc.cell 3;have c4:=qc.cell 4;simp at qf Q c4;exact zT
 refine aG zK ?_ _;cases t2 with
 | false=>
  have OY:=N (show I4 k th op m G log q w w6 from⟨_,_,_,_,_,_,f,i,d,j,mB.out⟩);have HMS:=N (show log.length+1-madeOf k.gp w6<log.length+1-madeOf k.gp wr by
   rw[cU f,HM.out.1];have hh:=f.mle;have:=HM.out;have:=OZ.out
   revert hh;show s.made+1<=_->log.length+1-(s.made+1)<_;omega)
  clear f i d j mB;go_wp2_with fail;go_roundw
  case rel=>exact OY.out
  case measure=>exact HMS.out
 | true=>
  have iB:=N (show q=fp th k.me op (.du F y next s.made) s.got (log.drop s.got.made)from mB.out);have HD2:=N (show q=doR ⟨3,.nd F 0,aV y,aV P⟩ s.got (λr _ l'=>cK th k.me op ((LPh.du F y next s.made).stp th op s.got r) l') (log.drop s.got.made)from by rw[<- xU.out];exact iB.out.trans (iQ _ _ _ _ _ _));clear mB;go_upto_region 7 with fail;have M:=d.cell 0;have L:=d.lt;simp at M;go_wp2_with fail;refine(jv f (eK _ _)).mono ?_;rintro e x6 ⟨rfl,rfl⟩;obtain⟨pl,qB⟩:=nM (((s.got.made-1:Nat):Int));have HPL:=N (show ((s.made:Nat):Int)=pl from qB);rw[qB];clear qB;go_upto_region 8 with fail;clear M L;refine aH (S:=λqd=>Bk qd m 204 (fdC k O (nodeAt k.l F 0) y next (pt:Nat) (nodeAt k.l op.h 0))) (E:=λ_=>X) zK ?_;replace f:=f.aw (bD x6);replace i:=i.drew;replace d:=d.drew;replace j:=j.drew;generalize x6.drew=w8 at *;refine wTq 15 [(0,62,ae (J ⟨m,0,Y⟩)),(1,63,ae (J ⟨m,0,Y⟩)),(2,64,ae (J ⟨m,0,Y⟩)),(3,65,ae (J ⟨k.gp,0,Y⟩)),(4,66,ae (J ⟨m,0,Y⟩)),(5,67,ae (J ⟨m,0,Y⟩)),(6,68,ae (J ⟨m,1,Y⟩)),(7,69,ae (J ⟨m,2,Y⟩)),(8,70,aa H (nodeAt k.l F 0)),(9,71,ae (J ⟨m,0,Y⟩)),(10,72,ae (J ⟨m,0,Y⟩)),(11,73,ae (J ⟨m,1,Y⟩)),(12,74,ae (J ⟨m,3,Y⟩)),(13,75,aa H y),(15,77,aa H P)] ?_ d ?_
  ·intro qd qc;have qf:=qc.cell 0;have c2:=qc.cell 2;have Q:=qc.cell 3;simp at qf c2 Q;exact zT
  refine wOq 14 (λK D=>?_);go_simp;refine(gj y _).mono ?_;rintro e w9 ⟨rfl,u⟩;replace f:=f.aw u;replace d:=d.aw u;replace j:=j.aw u;replace i:=i.trans (cH.aT _ _ u);clear u;refine sO D (λ_=>d) ?_;clear D K;refine wOq 16 (λK D=>?_);go_simp;refine(gj P _).mono ?_;rintro e uq ⟨rfl,u⟩;replace f:=f.aw u;replace d:=d.aw u;replace j:=j.aw u;replace i:=i.trans (cH.aT _ _ u);clear u;refine sO D (λ_=>d) ?_;clear D K;refine wOq 17 (λK D=>?_);go_simp;refine(nY (.nd F 0) (nodeAt k.l F 0) (aV y) (aV P) _ f rfl HD2.out).mono ?_;rintro e qJ (⟨x,qb,rfl,qa⟩|⟨v,rfl,⟨⟨u1,u2⟩,ht,rfl,B,C⟩,n⟩)
  ·exact⟨Z,.inl ⟨x,qb,Z,i.trans qa.two⟩⟩
  replace i:=i.trans n.two;replace d:=n.aw d (by have:=A.out;omega);replace j:=n.aw j (by have:=A.out;omega);have rK:=N (show q=cK th k.me op ((LPh.du F y next s.made).stp th op s.got (u1,u2)) (log.drop s.got.got.made)from C);clear f n;have f:=B;clear B;clear C ht iB HD2;refine sO D (λ_=>d) ?_;clear D K;refine aG zK ?_ _;cases u2 with
  | true=>
   have qi:=N (rK.out.trans (vT th k.me op (.dc y ⟨0,O,s.made,0⟩) (df s.got.got 0) _ _ (λ_ _=>Z)));clear rK;go_upto_region 9 with fail;have M:=d.cell 0;have L:=d.lt;simp at M;go_wp2_with fail;refine(gK th _ f qi.out).mono ?_;rintro e DD (⟨x,qb,rfl,qa⟩|⟨v,rfl,⟨qe,rfl,B,C⟩,n⟩)
   ·exact⟨Z,.inl ⟨x,qb,Z,i.trans qa.two⟩⟩
   replace i:=i.trans n.two;replace d:=n.aw d (by have:=A.out;omega);replace j:=n.aw j (by have:=A.out;omega);have uj:=N (show q=cK th k.me op (retL y ⟨0,O,s.made,0⟩ qe) (log.drop qe.made)from C);clear f n;have f:=B;clear B;clear C qi M L;have DC:=N (show q=js (2*k.l.c.aO) k.me (λt z l=>cK th k.me op (ic op t z (.out ⟨0,O,s.made,0⟩)) l) (.r1 y) qe (log.drop qe.made)from by
    rw[uj.out,<- HNS.out.2.1];exact kB _ _ _ _ _ _ _)
   clear uj;go_upto_region 10 with fail;refine aH (S:=λqd=>Bk qd m 204 (fdC k O (nodeAt k.l F 0) y next (pt:Nat) (nodeAt k.l op.h 0))) (E:=λ_=>X) zK ?_;replace f:=f.aw (bD DD);replace i:=i.drew;replace d:=d.drew;replace j:=j.drew;generalize DD.drew=w13 at *;refine wTq 9 [(0,85,ae (J ⟨m,0,Y⟩)),(1,86,ae (J ⟨m,0,Y⟩)),(2,87,ae (J ⟨m,0,Y⟩)),(3,88,ae (J ⟨k.gp,0,Y⟩)),(4,89,ae (J ⟨m,0,Y⟩)),(5,90,ae (J ⟨m,0,Y⟩)),(6,91,ae (J ⟨m,1,Y⟩)),(7,92,ae (J ⟨m,3,Y⟩)),(8,93,aa H y)] ?_ d ?_
   ·intro qd qc;have qf:=qc.cell 0;have Q:=qc.cell 3;simp at qf Q;exact zT
   refine wOq 9 (λK D=>?_);go_simp;refine(AE y _ f HNS.out.2.2.1 DC.out HNS.out.1).mono ?_;rintro e w14 (⟨x,qb,rfl,qa⟩|⟨v,rfl,⟨z10,rfl,B,C,ru⟩,n⟩)
   ·exact⟨Z,.inl ⟨x,qb,Z,i.trans qa.two⟩⟩
   replace i:=i.trans n.two;replace d:=n.aw d (by have:=A.out;omega);replace j:=n.aw j (by have:=A.out;omega);have R:=N (show q= .fin (⟨0,O,s.made,0⟩,z10)from C);clear f n;have f:=B;clear B;clear C ru DC;refine sO D (λ_=>d) ?_;clear D K;refine aG zK ?_ _;have Bu:=N (show ∃o W,q= .fin (o,W)/\bh 0 O 0 pl=bh o.val o.is 0 (o.bc:Nat)/\W=z10 from⟨_,_,R.out,by rw[<- HPL.out],Z⟩);clear R;go_wp2_with (refine aI Z 70 (.tmp 4) (.tmp 104) Z Z G (bh 0 O 0 pl) Z Z 70 aW j zK Z (by simp[aB]) ?_);have AY:=f.dK j (by have:=A.out;omega) (bh 0 O 0 pl);replace j:=j.bG (bh 0 O 0 pl);replace i:=i.row (b:=G) (.inl (by have:=A.out;omega)) (bh 0 O 0 pl);obtain⟨oo,zz,e1,e2,e3⟩:=Bu.out;exact aS (v:=.agg (bh 0 O 0 pl)) (bQ (p:=4) (ty:=70) Z _ _ G 70 _ (0,0) _ Z j aJ Z zK) Z (.inr ⟨_,Z,⟨oo,zz,e1,congrArg I.agg e2,e3 ▸ AY⟩,i⟩)
  | false=>
   have qi:=N (show q=fp th k.me op (.sub (.g1 0 (.nd op.h 0)) (.fh (.fin s.made))) s.got.got (log.drop s.got.got.made)from rK.out);clear rK;go_upto_region 11 with fail;go_wp2_with fail;refine(kF th op (.fin s.made) m _ _ _ _ _ f HNS.out.2.1 HNS.out.2.2.1 A.out.1 HNS.out.2.2.2 d qi.out HNS.out.1).mono ?_;clear d;rintro e DD (⟨x,qb,rfl,qa⟩|⟨v,rfl,⟨there2,prev2,cur2,next2,pt2,z4,rfl,B,d,CU,DH,hm,C⟩,n⟩)
   ·exact⟨Z,.inl ⟨x,qb,Z,i.trans qa⟩⟩
   replace i:=i.trans n;replace j:=n.aw j (by have:=A.out;omega) (by have:=A.out;omega);have uj:=N (show q=fx th k.me _ (df z4 0) _ from C.trans (jd _ _ _ ⟨0,O,s.made,0⟩ _ _));clear f n C hm CU DH qi;have f:=B;clear B;go_upto_region 12 with fail;have M:=d.cell 0;have L:=d.lt;simp at M;go_wp2_with fail;refine(gK th _ f uj.out).mono ?_;rintro e w13 (⟨x,qb,rfl,qa⟩|⟨v,rfl,⟨qe,rfl,B,C⟩,n⟩)
   ·exact⟨Z,.inl ⟨x,qb,Z,i.trans qa.two⟩⟩
   replace i:=i.trans n.two;replace d:=n.aw d (by have:=A.out;omega);replace j:=n.aw j (by have:=A.out;omega);have R:=N (show q= .fin (⟨0,O,s.made,0⟩,qe)from C);clear f n;have f:=B;clear B;clear C uj M L;have Bu:=N (show ∃o W,q= .fin (o,W)/\bh 0 O 0 pl=bh o.val o.is 0 (o.bc:Nat)/\W=qe from⟨_,_,R.out,by rw[<- HPL.out],Z⟩);clear R;go_wp2_with (refine aI Z 70 (.tmp 4) (.tmp 104) Z Z G (bh 0 O 0 pl) Z Z 70 aW j zK Z (by simp[aB]) ?_);have AY:=f.dK j (by have:=A.out;omega) (bh 0 O 0 pl);replace j:=j.bG (bh 0 O 0 pl);replace i:=i.row (b:=G) (.inl (by have:=A.out;omega)) (bh 0 O 0 pl);obtain⟨oo,zz,e1,e2,e3⟩:=Bu.out;exact aS (v:=.agg (bh 0 O 0 pl)) (bQ (p:=4) (ty:=70) Z _ _ G 70 _ (0,0) _ Z j aJ Z zK) Z (.inr ⟨_,Z,⟨oo,zz,e1,congrArg I.agg e2,e3 ▸ AY⟩,i⟩)
end
def Br(k:Pk)(th:Int)(op:LOp)(b gb:Nat)(log:Log)(q:An (dx × Pz))(w:W)(g:I)(wr:W):Prop:=
 ∃a e f d next c n,g=V H n/\0<=n/\n<65536/\dz wr k a log/\cH k.gp b w wr/\Bk wr b 204 (fdC k e f d next c (nodeAt k.l op.h 0))/\Bk wr gb 70 aW/\q=fp th k.me op (.sub (.g1 0 (.nd op.h 0)) (.fh (.put n))) a (log.drop a.made)
section
variable {w:W} {k:Pk} {z:Pz} {log:Log} {q:An (dx × Pz)}
theorem AD(th:Int)(op:LOp)(i:Nat)(there:Bool)(A s next pt:Int)(h:dz w k z log)(rr:th=2*k.l.c.aO)(hs:1<=k.l.c.aO/\k.l.c.aO<=8)(NZ:k.gp<i)(X:op.h<=9223372036854775807)(a:Bk w i 204 (fdC k there A s next pt (nodeAt k.l op.h 0)))(hq:q=fp th k.me op (.sub (.g1 0 (.nd op.h 0)) (.fh (.put 0))) z (log.drop z.made))(mF:q≠ .stuck):
  Calls ao 169 #[ptr i,aa H op.o,aa H op.v] w (jC k i q w (uf k log q)):=by
 have c:cH k.gp i w (w.alloc (ag aW 70)):=(cH.refl _ _ _).alloc _;have d:=Bk.made w 70 aW;have zf:=a.lt;have zp:=h.lt;have f:=h.aw (aA bS (ag aW 70));replace a:=a.alloc (ag aW 70);have HNS:=N (al mF (al rr (al hs X)));have HQ:=N hq;have tQ:∃g,w.heap.size=g:=⟨_,Z⟩;go_enter func169,ntmps169;go_wp2_with fail;generalize w.alloc (ag aW 70)=w0 at *;obtain⟨qc,ya⟩:=tQ;rw[ya]at d zf zp ⊢;have u:=N (show k.gp<i/\i<qc/\k.gp<qc/\w.heap.size=qc from⟨NZ,zf,zp,ya⟩);have HR:=N (show Br k th op i qc log q w (aa H 0) w0 from⟨z,there,A,s,next,pt,0,Z,zD,zD,f,c,a,d,HQ.out⟩);have lp:=f.lt;go_loopw [7] (λv7 wr=>Br k th op i qc log q w v7 wr) (λ_ wr=>log.length+1-madeOf k.gp wr)
 case atStart=>exact HR.out
 case round=>
 obtain⟨z2,there,A,s,next,pt,n,rfl,Iy,Ix,f,c,a,d,hq⟩:=hrel;have HM:=N (al (cU f) f.mle);have HQ:=N hq;have I1:=N (al Iy Ix);go_wp2_with fail;refine(kF th op (.put n) i _ _ _ _ _ f HNS.out.2.1 HNS.out.2.2.1 u.out.1 HNS.out.2.2.2 a HQ.out HNS.out.1).mono ?_;rintro e w1 (⟨x,C,rfl,F⟩|⟨v,rfl,⟨there,A,s,next,pt,qb,rfl,B,a,CU,DH,hm,G⟩,j⟩)
 ·exact⟨Z,.inl ⟨x,C,Z,c.trans F⟩⟩
 replace c:=c.trans j;replace d:=j.aw d (by have:=u.out;omega) (by have:=u.out;omega);have rG:=N G;have OZ:=N (al CU (al DH hm));have f:=B;have OA:=a.cell 1;have P:=a.lt;simp at OA;cases there
 case true=>
  by_cases Q:n=0
  case pos=>
   have qg:=N (show q=cK th k.me op (fF ⟨0,false,pt,s⟩ qb) (log.drop qb.made)from by
    rw[rG.out];show cK th k.me op (if n≠0 then _ else _) _=_;rw[if_neg (by simp[Q])])
   have xZ:(n != 0)=false:=by simp[Q]
   have HT:=N (qg.out.trans (jd _ _ _ _ _ _));go_upto_region 6 with fail;have qd:=a.cell 0;have P:=a.lt;simp at qd;go_wp2_with fail;refine(gK th _ f HT.out).mono ?_;rintro e w2 (⟨x,C,rfl,F⟩|⟨v,rfl,⟨R,rfl,B,G⟩,j⟩)
   ·exact⟨Z,.inl ⟨x,C,Z,c.trans F.two⟩⟩
   replace c:=c.trans j.two;replace a:=j.aw a (by have:=u.out;omega);replace d:=j.aw d (by have:=u.out;omega);have HT9:=N (show q= .fin (⟨0,false,pt,s⟩,R)from G);have f:=B;have Oz:=a.cell 5;have P:=a.lt;simp at Oz;go_wp2_with (refine aI Z 70 (.tmp 6) (.tmp 38) Z Z qc (bh 0 false 0 (pt:Nat)) Z Z 70 aW d zK Z (by simp[aB]) ?_);have V:=f.dK d (by have:=u.out;omega) (bh 0 false 0 (pt:Nat));replace d:=d.bG (bh 0 false 0 (pt:Nat));replace c:=c.row (b:=qc) (.inl (by have:=u.out;omega)) (bh 0 false 0 (pt:Nat));exact aS (v:=.agg (bh 0 false 0 (pt:Nat))) (bQ (p:=6) (ty:=70) Z _ _ qc 70 _ (0,0) _ Z d aJ Z zK) Z (.inr ⟨_,Z,⟨_,_,HT9.out,Z,V⟩,c⟩)
  have qg:=N (show q=js th k.me (λt z l=>cK th k.me op (ic op t z (.clr ⟨0,false,pt,s⟩)) l) (.v1 n) qb (log.drop qb.made)from by
   rw[rG.out];show cK th k.me op (if n≠0 then _ else _) _=_;rw[if_pos Q];exact kB _ _ _ _ _ _ _)
  have xZ:(n != 0)=O:=by simp[Q]
  go_upto_region 5 with fail;have qd:=a.cell 0;have P:=a.lt;simp at qd;go_wp2_with fail;refine(MM th n _ f (by have:=I1.out;omega) qg.out).mono ?_;rintro e w2 (⟨x,C,rfl,F⟩|⟨v,rfl,⟨D,rfl,B,G,ru⟩,j⟩)
  ·exact⟨Z,.inl ⟨x,C,Z,c.trans F.two⟩⟩
  replace c:=c.trans j.two;replace a:=j.aw a (by have:=u.out;omega);replace d:=j.aw d (by have:=u.out;omega);have mB:=N (show q=cK th k.me op (fF ⟨0,false,pt,s⟩ D) (log.drop D.made)from G);have f:=B;have HT:=N (mB.out.trans (jd _ _ _ _ _ _));go_upto_region 6 with fail;have qd:=a.cell 0;have P:=a.lt;simp at qd;go_wp2_with fail;refine(gK th _ f HT.out).mono ?_;rintro e w3 (⟨x,C,rfl,F⟩|⟨v,rfl,⟨R,rfl,B,G⟩,j⟩)
  ·exact⟨Z,.inl ⟨x,C,Z,c.trans F.two⟩⟩
  replace c:=c.trans j.two;replace a:=j.aw a (by have:=u.out;omega);replace d:=j.aw d (by have:=u.out;omega);have HT9:=N (show q= .fin (⟨0,false,pt,s⟩,R)from G);have f:=B;have Oz:=a.cell 5;have P:=a.lt;simp at Oz;go_wp2_with (refine aI Z 70 (.tmp 6) (.tmp 38) Z Z qc (bh 0 false 0 (pt:Nat)) Z Z 70 aW d zK Z (by simp[aB]) ?_);have V:=f.dK d (by have:=u.out;omega) (bh 0 false 0 (pt:Nat));replace d:=d.bG (bh 0 false 0 (pt:Nat));replace c:=c.row (b:=qc) (.inl (by have:=u.out;omega)) (bh 0 false 0 (pt:Nat));exact aS (v:=.agg (bh 0 false 0 (pt:Nat))) (bQ (p:=6) (ty:=70) Z _ _ qc 70 _ (0,0) _ Z d aJ Z zK) Z (.inr ⟨_,Z,⟨_,_,HT9.out,Z,V⟩,c⟩)
 by_cases Q:n=0
 case neg=>
  have qg:=N (show q=fp th k.me op (.p0 n A s) qb (log.drop qb.made)from by
   rw[rG.out];show cK th k.me op (if n=0 then _ else _) _=_;rw[if_neg Q];rfl)
  have xZ:(n==0)=false:=by simp[Q]
  go_upto_region 16 with fail;refine aH (S:=λL=>Bk L i 204 (fdC k false (nodeAt k.l A 0) s next (pt:Nat) (nodeAt k.l op.h 0))) (E:=λ_=>false) zK ?_;replace f:=f.aw (bD w1);replace c:=c.drew;replace a:=a.drew;replace d:=d.drew;generalize w1.drew=w2 at *;refine wTq 14 [(0,84,ae (J ⟨i,0,Y⟩)),(1,85,ae (J ⟨i,0,Y⟩)),(2,86,ae (J ⟨i,0,Y⟩)),(3,87,ae (J ⟨k.gp,0,Y⟩)),(4,88,ae (J ⟨i,0,Y⟩)),(5,89,ae (J ⟨i,0,Y⟩)),(6,90,ae (J ⟨i,0,Y⟩)),(7,91,ae (J ⟨k.gp,0,Y⟩)),(8,92,aa H n),(10,94,ae (J ⟨i,0,Y⟩)),(11,95,ae (J ⟨i,0,Y⟩)),(12,96,ae (J ⟨i,1,Y⟩)),(13,97,ae (J ⟨i,3,Y⟩)),(14,98,aa H s)] ?_ a ?_
  ·intro L K;have qf:=K.cell 0;have U:=K.cell 3;simp at qf U;exact zT
  refine wOq 9 (λqe y=>?_);go_simp;refine(fR n 0 f (by have:=I1.out;omega)).mono ?_;rintro e w3 ⟨rfl,m⟩;replace f:=f.aw m;replace a:=a.aw m;replace d:=d.aw m;replace c:=c.trans (cH.aT _ _ m);refine sO y (λ_=>a) ?_;refine wOq 15 (λqe y=>?_);go_simp;refine(gj s _).mono ?_;rintro e w4 ⟨rfl,m⟩;replace f:=f.aw m;replace a:=a.aw m;replace d:=d.aw m;replace c:=c.trans (cH.aT _ _ m);refine sO y (λ_=>a) ?_;refine wOq 16 (λqe y=>?_);go_simp;refine(ir (.nd n 0) (nodeAt k.l n 0) (aV s) _ f rfl (qg.out.trans (iQ _ _ _ _ _ _))).mono ?_;rintro e w5 (⟨x,C,rfl,F⟩|⟨v,rfl,⟨⟨t1,t2⟩,ht,rfl,B,G⟩,j⟩)
  ·exact⟨Z,.inl ⟨x,C,Z,c.trans F.two⟩⟩
  replace c:=c.trans j.two;replace a:=j.aw a (by have:=u.out;omega);replace d:=j.aw d (by have:=u.out;omega);have HP1:=N (show q=fp th k.me op (.pc n A s) qb.got (log.drop qb.got.made)from G);have f:=B;refine sO y (λ_=>a) ?_;refine aG zK ?_ _;go_upto_region 17 with fail;refine aH (S:=λL=>Bk L i 204 (fdC k false (nodeAt k.l A 0) s next (pt:Nat) (nodeAt k.l op.h 0))) (E:=λ_=>false) zK ?_;replace f:=f.aw (bD w5);replace c:=c.drew;replace a:=a.drew;replace d:=d.drew;generalize w5.drew=w6 at *;refine wTq 15 [(0,101,ae (J ⟨i,0,Y⟩)),(1,102,ae (J ⟨i,0,Y⟩)),(2,103,ae (J ⟨i,0,Y⟩)),(3,104,ae (J ⟨k.gp,0,Y⟩)),(4,105,ae (J ⟨i,0,Y⟩)),(5,106,ae (J ⟨i,0,Y⟩)),(6,107,ae (J ⟨i,1,Y⟩)),(7,108,ae (J ⟨i,2,Y⟩)),(8,109,aa H (nodeAt k.l A 0)),(9,110,ae (J ⟨i,0,Y⟩)),(10,111,ae (J ⟨i,0,Y⟩)),(11,112,ae (J ⟨i,1,Y⟩)),(12,113,ae (J ⟨i,3,Y⟩)),(13,114,aa H s),(15,116,aa H n)] ?_ a ?_
  ·intro L K;have qf:=K.cell 0;have c2:=K.cell 2;have U:=K.cell 3;simp at qf c2 U;exact zT
  refine wOq 14 (λqe y=>?_);go_simp;refine(gj s _).mono ?_;rintro e w7 ⟨rfl,m⟩;replace f:=f.aw m;replace a:=a.aw m;replace d:=d.aw m;replace c:=c.trans (cH.aT _ _ m);refine sO y (λ_=>a) ?_;refine wOq 16 (λqe y=>?_);go_simp;refine(gj n _).mono ?_;rintro e w8 ⟨rfl,m⟩;replace f:=f.aw m;replace a:=a.aw m;replace d:=d.aw m;replace c:=c.trans (cH.aT _ _ m);refine sO y (λ_=>a) ?_;refine wOq 17 (λqe y=>?_);go_simp;refine(nY (.nd A 0) (nodeAt k.l A 0) (aV s) (aV n) _ f rfl (HP1.out.trans (iQ _ _ _ _ _ _))).mono ?_;rintro e w9 (⟨x,C,rfl,F⟩|⟨v,rfl,⟨⟨u1,u2⟩,ht,rfl,B,G⟩,j⟩)
  ·exact⟨Z,.inl ⟨x,C,Z,c.trans F.two⟩⟩
  replace c:=c.trans j.two;replace a:=j.aw a (by have:=u.out;omega);replace d:=j.aw d (by have:=u.out;omega);have HP2:=N (show q=cK th k.me op ((LPh.pc n A s).stp th op qb.got (u1,u2)) (log.drop qb.got.got.made)from G);have f:=B;refine sO y (λ_=>a) ?_;refine aG zK ?_ _;cases u2 with
  | false=>
   have OY:=N (show Br k th op i qc log q w (aa H n) w9 from⟨_,_,_,_,_,_,_,Z,I1.out.1,I1.out.2,f,c,a,d,HP2.out⟩);have HMS:=N (show log.length+1-madeOf k.gp w9<log.length+1-madeOf k.gp wr by
    rw[cU f,HM.out.1];have X:=f.mle;have:=HM.out;have:=OZ.out;skip
    revert X;show qb.made+1+1<=_->log.length+1-(qb.made+1+1)<_;omega)
   go_wp2_with fail;go_roundw
   case rel=>exact OY.out
   case measure=>exact HMS.out
  | true=>
   have HP3:=N (show q=cK th k.me op (fF ⟨0,O,qb.got.made,n⟩ qb.got.got) (log.drop qb.got.got.made)from HP2.out);have HP4:=N (HP3.out.trans (jd _ _ _ _ _ _));go_upto_region 18 with fail;have qd:=a.cell 0;have P:=a.lt;simp at qd;go_wp2_with fail;refine(jv f (eK _ _)).mono ?_;rintro e x9 ⟨rfl,rfl⟩;obtain⟨pl,qi⟩:=nM (((qb.got.got.made-1:Nat):Int));have HPL:=N (show ((qb.got.made:Nat):Int)=pl from qi);rw[qi];go_upto_region 19 with fail;have qd:=a.cell 0;have P:=a.lt;simp at qd;go_wp2_with fail;refine(gK th _ f HP4.out).mono ?_;rintro e qJ (⟨x,C,rfl,F⟩|⟨v,rfl,⟨R,rfl,B,G⟩,j⟩)
   ·exact⟨Z,.inl ⟨x,C,Z,c.trans F.two⟩⟩
   replace c:=c.trans j.two;replace a:=j.aw a (by have:=u.out;omega);replace d:=j.aw d (by have:=u.out;omega);have HP9:=N (show q= .fin (⟨0,O,qb.got.made,n⟩,R)from G);have f:=B;have Bu:=N (show ∃o qh,q= .fin (o,qh)/\bh 0 O 0 pl=bh o.val o.is 0 (o.bc:Nat)/\qh=R from⟨_,_,HP9.out,by rw[<- HPL.out],Z⟩);go_wp2_with (refine aI Z 70 (.tmp 6) (.tmp 130) Z Z qc (bh 0 O 0 pl) Z Z 70 aW d zK Z (by simp[aB]) ?_);have V:=f.dK d (by have:=u.out;omega) (bh 0 O 0 pl);replace d:=d.bG (bh 0 O 0 pl);replace c:=c.row (b:=qc) (.inl (by have:=u.out;omega)) (bh 0 O 0 pl);obtain⟨oo,zz,e1,e2,e3⟩:=Bu.out;exact aS (v:=.agg (bh 0 O 0 pl)) (bQ (p:=6) (ty:=70) Z _ _ qc 70 _ (0,0) _ Z d aJ Z zK) Z (.inr ⟨_,Z,⟨oo,zz,e1,congrArg I.agg e2,e3 ▸ V⟩,c⟩)
 have qg:=N (show q=js th k.me (λt z l=>cK th k.me op (ic op t z (.pt A s)) l) .t1 qb (log.drop qb.made)from by
  rw[rG.out];show cK th k.me op (if n=0 then _ else _) _=_;rw[if_pos Q];exact kB _ _ _ _ _ _ _)
 have xZ:(n==0)=O:=by simp[Q]
 go_upto_region 9 with fail;have qd:=a.cell 0;have P:=a.lt;simp at qd;go_wp2_with fail;refine(MK th _ f qg.out).mono ?_;rintro e w2 (⟨x,C,rfl,F⟩|⟨v,rfl,⟨qa,p2,ok,D,rfl,B,G,yB,hb1,ru⟩,j⟩)
 ·exact⟨Z,.inl ⟨x,C,Z,c.trans F.two⟩⟩
 replace c:=c.trans j.two;replace a:=j.aw a (by have:=u.out;omega);replace d:=j.aw d (by have:=u.out;omega);have mB:=N (show q=cK th k.me op (ic op (.tk qa p2 ok) D (.pt A s)) (log.drop D.made)from G);have f:=B;have W:=N (al yB hb1);have HM4:=N ru;cases ok with
 | false=>exact absurd mB.out HNS.out.1
 | true=>
  have iB:=N (show q=fp th k.me op (.p1 qa A s) D (log.drop D.made)from mB.out);go_upto_region 14 with fail;refine aH (S:=λL=>Bk L i 204 (fdC k false (nodeAt k.l A 0) s next (pt:Nat) (nodeAt k.l op.h 0))) (E:=λ_=>false) zK ?_;replace f:=f.aw (bD w2);replace c:=c.drew;replace a:=a.drew;replace d:=d.drew;generalize w2.drew=w3 at *;refine wTq 10 [(0,60,ae (J ⟨i,0,Y⟩)),(1,61,ae (J ⟨i,0,Y⟩)),(2,62,ae (J ⟨i,0,Y⟩)),(3,63,ae (J ⟨k.gp,0,Y⟩)),(4,64,ae (J ⟨i,0,Y⟩)),(5,65,ae (J ⟨i,0,Y⟩)),(6,66,ae (J ⟨i,0,Y⟩)),(7,67,ae (J ⟨k.gp,0,Y⟩)),(8,68,aa H qa),(10,70,aa H op.o)] ?_ a ?_
  ·intro L K;have qf:=K.cell 0;simp at qf;exact zT
  refine wOq 9 (λqe y=>?_);go_simp;refine(fR qa 1 f (by have:=W.out;omega)).mono ?_;rintro e w4 ⟨rfl,m⟩;replace f:=f.aw m;replace a:=a.aw m;replace d:=d.aw m;replace c:=c.trans (cH.aT _ _ m);refine sO y (λ_=>a) ?_;refine wOq 11 (λqe y=>?_);go_simp;refine(ir (.nd qa 1) (nodeAt k.l qa 1) op.o _ f rfl (iB.out.trans (iQ _ _ _ _ _ _))).mono ?_;rintro e w5 (⟨x,C,rfl,F⟩|⟨v,rfl,⟨⟨t1,t2⟩,ht,rfl,B,G⟩,j⟩)
  ·exact⟨Z,.inl ⟨x,C,Z,c.trans F.two⟩⟩
  replace c:=c.trans j.two;replace a:=j.aw a (by have:=u.out;omega);replace d:=j.aw d (by have:=u.out;omega);have rK:=N (show q=fp th k.me op (.p2 qa A s) D.got (log.drop D.got.made)from G);have f:=B;refine sO y (λ_=>a) ?_;refine aG zK ?_ _;go_upto_region 15 with fail;refine aH (S:=λL=>Bk L i 204 (fdC k false (nodeAt k.l A 0) s next (pt:Nat) (nodeAt k.l op.h 0))) (E:=λ_=>false) zK ?_;replace f:=f.aw (bD w5);replace c:=c.drew;replace a:=a.drew;replace d:=d.drew;generalize w5.drew=w6 at *;refine wTq 10 [(0,72,ae (J ⟨i,0,Y⟩)),(1,73,ae (J ⟨i,0,Y⟩)),(2,74,ae (J ⟨i,0,Y⟩)),(3,75,ae (J ⟨k.gp,0,Y⟩)),(4,76,ae (J ⟨i,0,Y⟩)),(5,77,ae (J ⟨i,0,Y⟩)),(6,78,ae (J ⟨i,0,Y⟩)),(7,79,ae (J ⟨k.gp,0,Y⟩)),(8,80,aa H qa),(10,82,aa H op.v)] ?_ a ?_
  ·intro L K;have qf:=K.cell 0;simp at qf;exact zT
  refine wOq 9 (λqe y=>?_);go_simp;refine(fR qa 2 f (by have:=W.out;omega)).mono ?_;rintro e w7 ⟨rfl,m⟩;replace f:=f.aw m;replace a:=a.aw m;replace d:=d.aw m;replace c:=c.trans (cH.aT _ _ m);refine sO y (λ_=>a) ?_;refine wOq 11 (λqe y=>?_);go_simp;refine(ir (.nd qa 2) (nodeAt k.l qa 2) op.v _ f rfl (rK.out.trans (iQ _ _ _ _ _ _))).mono ?_;rintro e w8 (⟨x,C,rfl,F⟩|⟨v,rfl,⟨⟨t1,t2⟩,ht,rfl,B,G⟩,j⟩)
  ·exact⟨Z,.inl ⟨x,C,Z,c.trans F.two⟩⟩
  replace c:=c.trans j.two;replace a:=j.aw a (by have:=u.out;omega);replace d:=j.aw d (by have:=u.out;omega);have vm:=N (show q=fp th k.me op (.p0 qa A s) D.got.got (log.drop D.got.got.made)from G);have f:=B;refine sO y (λ_=>a) ?_;refine aG zK ?_ _;go_upto_region 16 with fail;refine aH (S:=λL=>Bk L i 204 (fdC k false (nodeAt k.l A 0) s next (pt:Nat) (nodeAt k.l op.h 0))) (E:=λ_=>false) zK ?_;replace f:=f.aw (bD w8);replace c:=c.drew;replace a:=a.drew;replace d:=d.drew;generalize w8.drew=w9 at *;refine wTq 14 [(0,84,ae (J ⟨i,0,Y⟩)),(1,85,ae (J ⟨i,0,Y⟩)),(2,86,ae (J ⟨i,0,Y⟩)),(3,87,ae (J ⟨k.gp,0,Y⟩)),(4,88,ae (J ⟨i,0,Y⟩)),(5,89,ae (J ⟨i,0,Y⟩)),(6,90,ae (J ⟨i,0,Y⟩)),(7,91,ae (J ⟨k.gp,0,Y⟩)),(8,92,aa H qa),(10,94,ae (J ⟨i,0,Y⟩)),(11,95,ae (J ⟨i,0,Y⟩)),(12,96,ae (J ⟨i,1,Y⟩)),(13,97,ae (J ⟨i,3,Y⟩)),(14,98,aa H s)] ?_ a ?_
  ·intro L K;have qf:=K.cell 0;have U:=K.cell 3;simp at qf U;exact zT
  refine wOq 9 (λqe y=>?_);go_simp;refine(fR qa 0 f (by have:=W.out;omega)).mono ?_;rintro e uq ⟨rfl,m⟩;replace f:=f.aw m;replace a:=a.aw m;replace d:=d.aw m;replace c:=c.trans (cH.aT _ _ m);refine sO y (λ_=>a) ?_;refine wOq 15 (λqe y=>?_);go_simp;refine(gj s _).mono ?_;rintro e qJ ⟨rfl,m⟩;replace f:=f.aw m;replace a:=a.aw m;replace d:=d.aw m;replace c:=c.trans (cH.aT _ _ m);refine sO y (λ_=>a) ?_;refine wOq 16 (λqe y=>?_);go_simp;refine(ir (.nd qa 0) (nodeAt k.l qa 0) (aV s) _ f rfl (vm.out.trans (iQ _ _ _ _ _ _))).mono ?_;rintro e DD (⟨x,C,rfl,F⟩|⟨v,rfl,⟨⟨t1,t2⟩,ht,rfl,B,G⟩,j⟩)
  ·exact⟨Z,.inl ⟨x,C,Z,c.trans F.two⟩⟩
  replace c:=c.trans j.two;replace a:=j.aw a (by have:=u.out;omega);replace d:=j.aw d (by have:=u.out;omega);have HP1:=N (show q=fp th k.me op (.pc qa A s) D.got.got.got (log.drop D.got.got.got.made)from G);have f:=B;refine sO y (λ_=>a) ?_;refine aG zK ?_ _;go_upto_region 17 with fail;refine aH (S:=λL=>Bk L i 204 (fdC k false (nodeAt k.l A 0) s next (pt:Nat) (nodeAt k.l op.h 0))) (E:=λ_=>false) zK ?_;replace f:=f.aw (bD DD);replace c:=c.drew;replace a:=a.drew;replace d:=d.drew;generalize DD.drew=w13 at *;refine wTq 15 [(0,101,ae (J ⟨i,0,Y⟩)),(1,102,ae (J ⟨i,0,Y⟩)),(2,103,ae (J ⟨i,0,Y⟩)),(3,104,ae (J ⟨k.gp,0,Y⟩)),(4,105,ae (J ⟨i,0,Y⟩)),(5,106,ae (J ⟨i,0,Y⟩)),(6,107,ae (J ⟨i,1,Y⟩)),(7,108,ae (J ⟨i,2,Y⟩)),(8,109,aa H (nodeAt k.l A 0)),(9,110,ae (J ⟨i,0,Y⟩)),(10,111,ae (J ⟨i,0,Y⟩)),(11,112,ae (J ⟨i,1,Y⟩)),(12,113,ae (J ⟨i,3,Y⟩)),(13,114,aa H s),(15,116,aa H qa)] ?_ a ?_
  ·intro L K;have qf:=K.cell 0;have c2:=K.cell 2;have U:=K.cell 3;simp at qf c2 U;exact zT
  refine wOq 14 (λqe y=>?_);go_simp;refine(gj s _).mono ?_;rintro e w14 ⟨rfl,m⟩;replace f:=f.aw m;replace a:=a.aw m;replace d:=d.aw m;replace c:=c.trans (cH.aT _ _ m);refine sO y (λ_=>a) ?_;refine wOq 16 (λqe y=>?_);go_simp;refine(gj qa _).mono ?_;rintro e w15 ⟨rfl,m⟩;replace f:=f.aw m;replace a:=a.aw m;replace d:=d.aw m;replace c:=c.trans (cH.aT _ _ m);refine sO y (λ_=>a) ?_;refine wOq 17 (λqe y=>?_);go_simp;refine(nY (.nd A 0) (nodeAt k.l A 0) (aV s) (aV qa) _ f rfl (HP1.out.trans (iQ _ _ _ _ _ _))).mono ?_;rintro e LF (⟨x,C,rfl,F⟩|⟨v,rfl,⟨⟨u1,u2⟩,ht,rfl,B,G⟩,j⟩)
  ·exact⟨Z,.inl ⟨x,C,Z,c.trans F.two⟩⟩
  replace c:=c.trans j.two;replace a:=j.aw a (by have:=u.out;omega);replace d:=j.aw d (by have:=u.out;omega);have HP2:=N (show q=cK th k.me op ((LPh.pc qa A s).stp th op D.got.got.got (u1,u2)) (log.drop D.got.got.got.got.made)from G);have f:=B;refine sO y (λ_=>a) ?_;refine aG zK ?_ _;cases u2 with
  | false=>
   have OY:=N (show Br k th op i qc log q w (aa H qa) LF from⟨_,_,_,_,_,_,_,Z,W.out.1,W.out.2,f,c,a,d,HP2.out⟩);have HMS:=N (show log.length+1-madeOf k.gp LF<log.length+1-madeOf k.gp wr by
    rw[cU f,HM.out.1];have X:=f.mle;have:=HM.out;have:=OZ.out;have h4:D.got.got.made=D.made+1+1:=Z;have:=HM4.out
    revert X;show D.got.got.made+1+1<=_->log.length+1-(D.got.got.made+1+1)<_;omega)
   go_wp2_with fail;go_roundw
   case rel=>exact OY.out
   case measure=>exact HMS.out
  | true=>
   have HP3:=N (show q=cK th k.me op (fF ⟨0,O,D.got.got.got.made,qa⟩ D.got.got.got.got) (log.drop D.got.got.got.got.made)from HP2.out);have HP4:=N (HP3.out.trans (jd _ _ _ _ _ _));go_upto_region 18 with fail;have qd:=a.cell 0;have P:=a.lt;simp at qd;go_wp2_with fail;refine(jv f (eK _ _)).mono ?_;rintro e x16 ⟨rfl,rfl⟩;obtain⟨pl,qi⟩:=nM (((D.got.got.got.got.made-1:Nat):Int));have HPL:=N (show ((D.got.got.got.made:Nat):Int)=pl from qi);rw[qi];go_upto_region 19 with fail;have qd:=a.cell 0;have P:=a.lt;simp at qd;go_wp2_with fail;refine(gK th _ f HP4.out).mono ?_;rintro e w18 (⟨x,C,rfl,F⟩|⟨v,rfl,⟨R,rfl,B,G⟩,j⟩)
   ·exact⟨Z,.inl ⟨x,C,Z,c.trans F.two⟩⟩
   replace c:=c.trans j.two;replace a:=j.aw a (by have:=u.out;omega);replace d:=j.aw d (by have:=u.out;omega);have HP9:=N (show q= .fin (⟨0,O,D.got.got.got.made,qa⟩,R)from G);have f:=B;have Bu:=N (show ∃o qh,q= .fin (o,qh)/\bh 0 O 0 pl=bh o.val o.is 0 (o.bc:Nat)/\qh=R from⟨_,_,HP9.out,by rw[<- HPL.out],Z⟩);go_wp2_with (refine aI Z 70 (.tmp 6) (.tmp 130) Z Z qc (bh 0 O 0 pl) Z Z 70 aW d zK Z (by simp[aB]) ?_);have V:=f.dK d (by have:=u.out;omega) (bh 0 O 0 pl);replace d:=d.bG (bh 0 O 0 pl);replace c:=c.row (b:=qc) (.inl (by have:=u.out;omega)) (bh 0 O 0 pl);obtain⟨oo,zz,e1,e2,e3⟩:=Bu.out;exact aS (v:=.agg (bh 0 O 0 pl)) (bQ (p:=6) (ty:=70) Z _ _ qc 70 _ (0,0) _ Z d aJ Z zK) Z (.inr ⟨_,Z,⟨oo,zz,e1,congrArg I.agg e2,e3 ▸ V⟩,c⟩)
end
section
variable {w:W} {k:Pk} {z:Pz} {log:Log} {q:An (dx × Pz)}
theorem tL(th:Int)(lo:LOp)(op:Opr)(c y I:Nat)(h:dz w k z log)(C:th=2*k.l.c.aO)(B:1<=k.l.c.aO/\k.l.c.aO<=8)(A:k.gp<c)(D:lo.h<=9223372036854775807)(l:Bk w c 204 (fdC k X 0 0 0 0 (nodeAt k.l lo.h 0)))(f:Bk w y 198 #[ptr c])(j:Bk w I 54 (di op))(G:op.a=lo.o/\op.b=lo.v)(u:q=fp th k.me lo (.sub (.g1 0 (.nd lo.h 0)) (.fh .get)) z (log.drop z.made))(E:q≠ .stuck):
  Calls ao 166 #[ptr y,ptr I] w (jC k c q w (uf k log q)):=by
 have a:=Bk.made w 70 aW;have M:=l.lt;have d:cH k.gp c w (w.alloc (ag aW 70)):=(cH.refl _ _ _).alloc _;replace h:=h.aw (aA bS (ag aW 70));replace l:=l.alloc (ag aW 70);replace f:=f.alloc (ag aW 70);replace j:=j.alloc (ag aW 70);have i:=aj (al u (al E (al C (al B D))));have N:=aj G;clear u E C B D G;go_enter func166,ntmps166;go_upto_region 1 with fail;generalize w.alloc (ag aW 70)=U at *;obtain⟨g,t⟩:=nM (w.heap.size);have m:=aj (show w.heap.size=g/\k.gp<c/\c<g from⟨t,A,zO⟩);rw[t]at a M ⊢;clear t;have F:=f.cell 0;have s:=j.cell 2;simp at F s;rw[N.out.1]at s;have K:=f.lt;have O:=j.lt;go_wp2_with fail;refine(A5 th lo c _ _ _ _ _ h i.out.2.2.1 i.out.2.2.2.1 A i.out.2.2.2.2 l i.out.1 i.out.2.1).mono ?_;rintro e T (⟨x,L,rfl,P⟩|⟨v,rfl,⟨o,S,H,rfl,J⟩,n⟩)
 ·exact⟨Z,.inl ⟨x,L,Z,d.trans P⟩⟩
 replace d:=d.trans n;replace a:=n.aw a (by have:=m.out;omega) (by have:=m.out;omega);have R:=aj H;clear h f j F s K O n H;go_wp2_with (refine aI Z 70 (.tmp 2) (.tmp 6) Z Z g (bh o.val o.is 0 (o.bc:Nat)) Z Z 70 aW a zK Z (by simp[aB]) ?_);have Q:=J.dK a (by have:=m.out;omega) (bh o.val o.is 0 (o.bc:Nat));replace a:=a.bG (bh o.val o.is 0 (o.bc:Nat));replace d:=d.row (b:=g) (.inl (by have:=m.out;omega)) (bh o.val o.is 0 (o.bc:Nat));exact aS (v:=.agg (bh o.val o.is 0 (o.bc:Nat))) (bQ (p:=2) (ty:=70) Z _ _ g 70 _ (0,0) _ Z a aJ Z zK) Z (.inr ⟨_,Z,⟨_,_,R.out,Z,Q⟩,d⟩)
theorem Kz(th:Int)(lo:LOp)(op:Opr)(c A K:Nat)(h:dz w k z log)(D:th=2*k.l.c.aO)(C:1<=k.l.c.aO/\k.l.c.aO<=8)(B:k.gp<c)(E:lo.h<=9223372036854775807)(l:Bk w c 204 (fdC k X 0 0 0 0 (nodeAt k.l lo.h 0)))(g:Bk w A 198 #[ptr c])(f:Bk w K 54 (di op))(I:op.a=lo.o/\op.b=lo.v)(y:q=fp th k.me lo (.sub (.g1 0 (.nd lo.h 0)) (.fh (.put 0))) z (log.drop z.made))(F:q≠ .stuck):
  Calls ao 168 #[ptr A,ptr K] w (jC k c q w (uf k log q)):=by
 have a:=Bk.made w 70 aW;have O:=l.lt;have d:cH k.gp c w (w.alloc (ag aW 70)):=(cH.refl _ _ _).alloc _;replace h:=h.aw (aA bS (ag aW 70));replace l:=l.alloc (ag aW 70);replace g:=g.alloc (ag aW 70);replace f:=f.alloc (ag aW 70);have j:=aj (al y (al F (al D (al C E))));have G:=aj I;clear y F D C E I;go_enter func168,ntmps168;go_upto_region 1 with fail;generalize w.alloc (ag aW 70)=V at *;obtain⟨i,t⟩:=nM (w.heap.size);have m:=aj (show w.heap.size=i/\k.gp<c/\c<i from⟨t,B,zO⟩);rw[t]at a O ⊢;clear t;have H:=g.cell 0;have s:=f.cell 2;have u:=f.cell 3;simp at H s u;rw[G.out.1]at s;rw[G.out.2]at u;have M:=g.lt;have P:=f.lt;go_wp2_with fail;refine(AD th lo c _ _ _ _ _ h j.out.2.2.1 j.out.2.2.2.1 B j.out.2.2.2.2 l j.out.1 j.out.2.1).mono ?_;rintro e U (⟨x,N,rfl,Q⟩|⟨v,rfl,⟨o,T,J,rfl,L⟩,n⟩)
 ·exact⟨Z,.inl ⟨x,N,Z,d.trans Q⟩⟩
 replace d:=d.trans n;replace a:=n.aw a (by have:=m.out;omega) (by have:=m.out;omega);have S:=aj J;clear h g f H s M P n J u;go_wp2_with (refine aI Z 70 (.tmp 2) (.tmp 8) Z Z i (bh o.val o.is 0 (o.bc:Nat)) Z Z 70 aW a zK Z (by simp[aB]) ?_);have R:=L.dK a (by have:=m.out;omega) (bh o.val o.is 0 (o.bc:Nat));replace a:=a.bG (bh o.val o.is 0 (o.bc:Nat));replace d:=d.row (b:=i) (.inl (by have:=m.out;omega)) (bh o.val o.is 0 (o.bc:Nat));exact aS (v:=.agg (bh o.val o.is 0 (o.bc:Nat))) (bQ (p:=2) (ty:=70) Z _ _ i 70 _ (0,0) _ Z a aJ Z zK) Z (.inr ⟨_,Z,⟨_,_,S.out,Z,R⟩,d⟩)
theorem Ky(th:Int)(lo:LOp)(op:Opr)(c y I:Nat)(h:dz w k z log)(C:th=2*k.l.c.aO)(B:1<=k.l.c.aO/\k.l.c.aO<=8)(A:k.gp<c)(D:lo.h<=9223372036854775807)(l:Bk w c 204 (fdC k X 0 0 0 0 (nodeAt k.l lo.h 0)))(f:Bk w y 198 #[ptr c])(j:Bk w I 54 (di op))(G:op.a=lo.o/\op.b=lo.v)(u:q=fp th k.me lo (.sub (.g1 0 (.nd lo.h 0)) (.fh .del)) z (log.drop z.made))(E:q≠ .stuck):
  Calls ao 170 #[ptr y,ptr I] w (jC k c q w (uf k log q)):=by
 have a:=Bk.made w 70 aW;have M:=l.lt;have d:cH k.gp c w (w.alloc (ag aW 70)):=(cH.refl _ _ _).alloc _;replace h:=h.aw (aA bS (ag aW 70));replace l:=l.alloc (ag aW 70);replace f:=f.alloc (ag aW 70);replace j:=j.alloc (ag aW 70);have i:=aj (al u (al E (al C (al B D))));have N:=aj G;clear u E C B D G;go_enter func170,ntmps170;go_upto_region 1 with fail;generalize w.alloc (ag aW 70)=U at *;obtain⟨g,t⟩:=nM (w.heap.size);have m:=aj (show w.heap.size=g/\k.gp<c/\c<g from⟨t,A,zO⟩);rw[t]at a M ⊢;clear t;have F:=f.cell 0;have s:=j.cell 2;simp at F s;rw[N.out.1]at s;have K:=f.lt;have O:=j.lt;go_wp2_with fail;refine(Ba th lo c _ _ _ _ _ h i.out.2.2.1 i.out.2.2.2.1 A i.out.2.2.2.2 l i.out.1 i.out.2.1).mono ?_;rintro e T (⟨x,L,rfl,P⟩|⟨v,rfl,⟨o,S,H,rfl,J⟩,n⟩)
 ·exact⟨Z,.inl ⟨x,L,Z,d.trans P⟩⟩
 replace d:=d.trans n;replace a:=n.aw a (by have:=m.out;omega) (by have:=m.out;omega);have R:=aj H;clear h f j F s K O n H;go_wp2_with (refine aI Z 70 (.tmp 2) (.tmp 6) Z Z g (bh o.val o.is 0 (o.bc:Nat)) Z Z 70 aW a zK Z (by simp[aB]) ?_);have Q:=J.dK a (by have:=m.out;omega) (bh o.val o.is 0 (o.bc:Nat));replace a:=a.bG (bh o.val o.is 0 (o.bc:Nat));replace d:=d.row (b:=g) (.inl (by have:=m.out;omega)) (bh o.val o.is 0 (o.bc:Nat));exact aS (v:=.agg (bh o.val o.is 0 (o.bc:Nat))) (bQ (p:=2) (ty:=70) Z _ _ g 70 _ (0,0) _ Z a aJ Z zK) Z (.inr ⟨_,Z,⟨_,_,R.out,Z,Q⟩,d⟩)
end
variable {log:Log} {B:Nat}
theorem dz.reB{k:Pk}{z:Pz}{w:W}(h:dz w k z log)(a:gH w B k.A log)(b:B<=k.gp):dz w { k with B:=B } z log:=
 ⟨h.kp,h.kv,h.kl,a,h.ne,b,h.le,h.mle,h.f⟩
def mS(l:Ly)(q:An (dx × Pz))(w:W)(e:jK)(b:W):Prop:=
 ((∃a,q= .ask a/\e=ai (.tuple #[.agg (bj a.k (adr l a.c) a.o a.v),.agg aW,ah X]))\/
  (∃o c d,q= .fin (o,c)/\e=ai (.tuple #[.agg cG,.agg (bg o.val o.is 0 (o.bc:Nat) d),ah O])/\bI b d c.gone))/\D w.heap.size w b
def lnT:Nat->Nat
 | 4=>33
 | 7=>36
 | 8=>37
 | _=>13
def lnP:Nat->List Nat
 | 7=>[4]
 | 8=>[7]
 | _=>[]
def lnR(l:Ly)(d B a:Nat)(g:cq)(log:Log)(e:Int)(i:Nat)(val:Nat->Option I)(v:I)(w:W):Prop:=
 if i=4 then ∃k:Pk,v=ptr k.gp/\k.l=l/\k.me=d/\k.B=B/\a<=k.gp/\dz w k ⟨[0,0,0],g,0⟩ log
 else if i=7 then ∃k:Pk,v= .agg (fdC k X 0 0 0 0 e)/\k.l=l/\k.me=d/\k.B=B/\a<=k.gp/\dz w k ⟨[0,0,0],g,0⟩ log
 else if i=8 then ∃(k:Pk) (b:Nat),v=ptr b/\Bk w b 204 (fdC k X 0 0 0 0 e)/\k.gp<b/\k.l=l/\k.me=d/\k.B=B/\a<=k.gp/\dz w k ⟨[0,0,0],g,0⟩ log
 else ∃c,v=ptr c/\a<=c/\Bk w c 198 #[.pointer Y]
theorem Nl{l:Ly}{w t:Nat}{g:cq}{s:Int}(i:Nat)(val q:Nat->Option I)(v:I)(o w2:W)(_:∀j u,val j=J u->q j=J u)(n:D o.heap.size o w2)(h:lnR l w B t g log s i val v o):lnR l w B t g log s i q v w2:=by
 unfold lnR at h ⊢;split
 ·rename_i e;rw[if_pos e]at h;obtain⟨k,b,c,a,m,d,f⟩:=h;exact⟨k,b,c,a,m,d,f.aw n⟩
 rename_i e;rw[if_neg e]at h;split
 ·rename_i e;rw[if_pos e]at h;obtain⟨k,b,c,a,m,d,f⟩:=h;exact⟨k,b,c,a,m,d,f.aw n⟩
 rename_i e;rw[if_neg e]at h;split
 ·rename_i e;rw[if_pos e]at h;obtain⟨k,y,b,c,a,m,d,f,z,x⟩:=h;exact⟨k,y,b,c.aw n,a,m,d,f,z,x.aw n⟩
 rename_i e;rw[if_neg e]at h;obtain⟨A,b,c,a⟩:=h;exact⟨A,b,c,a.aw n⟩
theorem lnext(l:Ly)(me:Nat)(lo:LOp)(op:Opr)(g:cq)(gv:I)(A:Option Addr)(cap:Nat)(log:Log)(w:W)(f:eu l)(LG:1<=l.c.aO/\l.c.aO<=8)(hh:lo.h<=9223372036854775807)(ho:op.obj=nodeAt l lo.h 0)(Jw:0<=op.obj/\op.obj<l.size)(hoo:op.a=lo.o/\op.b=lo.v)(hk:op.kind=lo.kind)(oP:lo.kind=1\/lo.kind=2\/lo.kind=3)(hg:bI w gv g)(hs:gH w w.heap.size A log)(hl:log.length<=100000)(q:An (dx × Pz))(hq:q=cK (2*l.c.aO) me lo (cW lo g) log)(mF:q≠ .stuck)(uM:∀o D,q= .fin (o,D)->D.gone.length<=1000):
  Calls ao 125 #[lyV l,aa ab me,gv,.agg (di op),.slice A log.length cap] w (mS l q w):=by
 obtain⟨G,gc,rfl,hN,yc⟩:=hg;have HG:=aj (show bI w (.slice G g.length gc) g from⟨G,gc,Z,hN,yc⟩);have HA:=aj (al f (al hs (al hl (al LG hh))));have HQ:=aj (al hq (al mF uM));have qc:=aj (al ho (al hoo (al hk oP)));have k0:=(((Bk.made w 34 (lyC l)).alloc (ag (di op) 54)).alloc (ag cG 67)).alloc (ag aW 70);have P:=((Bk.new (w.alloc (ag (lyC l) 34)) (g:=w.heap.size+1) zS 54 (di op)).alloc (ag cG 67)).alloc (ag aW 70);have F:=(Bk.new ((w.alloc (ag (lyC l) 34)).alloc (ag (di op) 54)) (g:=w.heap.size+1+1) zS 67 cG).alloc (ag aW 70);have qa:=Bk.new (((w.alloc (ag (lyC l) 34)).alloc (ag (di op) 54)).alloc (ag cG 67)) (g:=w.heap.size+1+1+1) zS 70 aW;have qe:=aA (aA (aA (bA w (ag (lyC l) 34)) (ag (di op) 54)) (ag cG 67)) (ag aW 70);have sf:decide (op.obj<0)=X:=zP;have tP:decide (l.size<=op.obj)=X:=zP;have sW:decide (op.obj>=l.size)=X:=zP;go_enter func125,ntmps125;go_upto_region 1 with fail;generalize (((w.alloc (ag (lyC l) 34)).alloc (ag (di op) 54)).alloc (ag cG 67)).alloc (ag aW 70)=w4 at *;obtain⟨b0,h0⟩:=nM (w.heap.size);have HW:=aj h0;rw[h0]at k0 P F qa ⊢;obtain⟨b1,qb⟩:=nM (b0+1);obtain⟨b2,s⟩:=nM (b1+1);obtain⟨b3,h3⟩:=nM (b2+1);rw[qb]at P;rw[qb,s]at F;rw[qb,s,h3]at qa ⊢;have z1:b0<b1:=zO;have z2:b1<b2:=zO;have z3:b2<b3:=zO;have c1:=P.cell 1;have c24:=k0.cell 24;simp at c1 c24;have l1:=P.lt;have l0:=k0.lt;go_upto_region 3 with fail;refine aH (S:=λw'=>Bk w' b0 34 (lyC l)/\Bk w' b1 54 (di op)) (E:=λ_=>X) zK ?_;replace k0:=k0.drew;replace P:=P.drew;replace F:=F.drew;replace qa:=qa.drew;replace qe:=qe.drew;generalize w4.drew=w5 at *;refine wTq 6 [(0,29,lyV l),(1,30,aa ab me),(2,31,.slice G g.length gc),(3,32,.slice A log.length cap),(5,34,ae (some ⟨b1,1,Y⟩)),(6,35,aa ab op.obj)] ?_ ⟨k0,P⟩ ?_
 ·intro w' hS;have kE:(cL 34 ⟨b0,0,Y⟩).run ao w'= .ok (lyV l) w':=a7 w' b0 34 34 (lyC l) (0,0) _ hS.1 aK Z zK;have c1:=hS.2.cell 1;simp at c1;exact zL
 have rI:w.heap.size<=w5.heap.size:=qe.size;have HB5:=aj qe;have lb3:=qa.lt;obtain⟨ob,Jw⟩:=nM (op.obj);have HOB:=aj (show nodeAt l lo.h 0=ob from qc.out.1.symm.trans Jw);rw[Jw];refine eh (U:=[4,7,8,9]) (tmp:=lnT) (pre:=lnP) (R:=lnR l me w.heap.size w5.heap.size g log ob) zK (λ_ _=>Z) (λw2 h=>⟨k0.aw h,P.aw h⟩) Nl (λi hi=>?_) 1 (λC w7 eI LO=>?_)
 ·simp only[aL,be,or_false]at hi;rcases hi with rfl|rfl|rfl|rfl
  ·refine⟨_,Z,λC w2 K kW fA hK=>?_⟩;simp only[lnP,ba]at hK ⊢;go_simp;have O:=aE HB5.out kW;have hG6:bI w2 (.slice G g.length gc) g:=HG.out.aw O;have rz:gH w2 w.heap.size A log:=HA.out.2.1.below O;have hS6:gH w2 w2.heap.size A log:=rz.more O.size;refine(H9 (tp:=211) (tv:=199) (fd:=181) l me _ g A cap log w2 HA.out.1 hG6 hS6 HA.out.2.2.1).mono ?_;rintro e w8 ⟨rfl,hp,CW⟩;exact hK _ _ ⟨{ r9 w2 l me A cap with B:=w.heap.size },rfl,rfl,rfl,rfl,by have:=kW.size;unfold r9;dsimp only;omega,dz.reB hp (rz.below (CW.mono O.size)) (by have:=O.size;unfold r9;dsimp only;omega)⟩ CW
  ·refine⟨_,Z,λC w2 K kW fA hK=>?_⟩;obtain⟨v,e,k,rfl,r1,r2,r3,r4,r5⟩:=fA 4 (by simp[lnP]);simp only[lnP,ba,e,lnT]at hK ⊢;go_simp;exact hK _ _ ⟨k,Z,r1,r2,r3,r4,r5⟩ bS
  ·refine⟨_,Z,λC w2 K kW fA hK=>?_⟩;obtain⟨v,e,k,rfl,r1,r2,r3,r4,r5⟩:=fA 7 (by simp[lnP]);simp only[lnP,ba,e,lnT]at hK ⊢;go_simp;exact hK _ _ ⟨k,_,Z,Bk.made _ _ _,r5.lt,r1,r2,r3,r4,r5.aw (aA bS _)⟩ (aA bS _)
  refine⟨_,Z,λC w2 K kW fA hK=>?_⟩;simp only[lnP,ba]at hK ⊢;go_simp;exact hK _ _ ⟨_,Z,kW.size,Bk.made _ _ _⟩ (aA bS _)
 obtain⟨v4,e4,-⟩:=eI 4 zS;obtain⟨v7,e7,-⟩:=eI 7 zS;obtain⟨v8,e8,k,H,rfl,kf,NZ,r1,r2,r3,r4,hp⟩:=eI 8 zS;obtain⟨v9,e9,ky,rfl,hb13,Q⟩:=eI 9 zS;replace k0:=k0.aw LO;replace P:=P.aw LO;replace F:=F.aw LO;replace qa:=qa.aw LO;replace qe:=aE qe LO;simp only[lnT,ba,dj,e4,e7,e8,e9,cZ,if_true];have hn13:H≠ky:=kf.typ Q zD;have c:=aj (show k.l=l/\k.me=me/\k.B=w.heap.size/\b3<w5.heap.size/\w5.heap.size<=k.gp/\k.gp<H/\w5.heap.size<=ky/\w.heap.size<=w5.heap.size/\H≠ky/\k.gp≠ky from⟨r1,r2,r3,lb3,r4,NZ,hb13,rI,hn13,by obtain⟨_,_,_,_,O,-⟩:=hp.kp;exact O.typ Q zD⟩);have yd:=Q.cell 0;have f13:=Q.free 0;have Nr:=Q.lt;simp at yd;refine eG (i:=10) (o:=_) zK Z (λKK hK=>?_);(try simp only[au,ar,an,Act.put,ak,ay,az]);go_simp;replace hp:=hp.pz Q (by have:=c.out;omega) zD 0 (ptr H);replace kf:=kf.other (p:=⟨ky,0,Y⟩) (by have:=c.out;dsimp only;omega) (ptr H);replace k0:=k0.other (p:=⟨ky,0,Y⟩) (by have:=c.out;dsimp only;omega) (ptr H);replace P:=P.other (p:=⟨ky,0,Y⟩) (by have:=c.out;dsimp only;omega) (ptr H);replace F:=F.other (p:=⟨ky,0,Y⟩) (by have:=c.out;dsimp only;omega) (ptr H);replace qa:=qa.other (p:=⟨ky,0,Y⟩) (by have:=c.out;dsimp only;omega) (ptr H);replace qe:=bu qe (p:=⟨ky,0,Y⟩) (by have:=c.out;dsimp only;omega) (ptr H);replace Q:Bk (w7.setCell ⟨ky,0,Y⟩ (ptr H)) ky 198 #[ptr H]:=Q.stored 0 (ptr H);generalize w7.setCell ⟨ky,0,Y⟩ (ptr H)=w8 at *;refine sO hK (λ_=>⟨k0,P⟩) ?_;refine aG zK ?_ _;have c0:=P.cell 0;simp at c0;have l1:=P.lt;rcases qc.out.2.2.2 with hk1|yu|KT
 ·have tP:(op.kind==1)=true:=by rw[qc.out.2.2.1,hk1];rfl
  have sW:(op.kind==2)=X:=by rw[qc.out.2.2.1,hk1];rfl
  have hz3:(op.kind==3)=X:=by rw[qc.out.2.2.1,hk1];rfl
  have iB:=aj (show q=fp (2*l.c.aO) k.me lo (.sub (.g1 0 (.nd lo.h 0)) (.fh .get)) ⟨[0,0,0],g,0⟩ (log.drop 0)by
   rw[HQ.out.1];unfold cW;rw[hk1,c.out.2.1];rfl)
  go_upto_region 6 with fail;have yd:=Q.cell 0;have Nr:=Q.lt;have cf:=kf.cell 0;have lf:=kf.lt;simp at yd cf;have hmf:∀(fn:Fn) (first cap:Array I) (w:W),(uT fn first cap).run ao w= .ok (.func fn first cap) w:=λ_ _ _ _=>Z;have HB:=aj (al qe (al F qa));have uQ:=aj (cH.aT k.gp H qe);have V:=aj (al hp (al kf (al Q P)));have Jw:ob=nodeAt k.l lo.h 0:=by rw[c.out.1];exact HOB.out.symm
  go_wp2_with fail;have qB:=rW (fn:=165) (k:=k) (z:=⟨[0,0,0],g,0⟩) (log:=log) q (λC d bc D=>∃o,q= .fin (o,D)/\C=o.val/\d=o.is/\bc=(o.bc:Nat)) 166 #[ptr ky,ptr b1] H w8 lf V.out.1 (by intro w;simp[go_sem]) (λC d bc D hT=>by obtain⟨o,h,-⟩:=hT;exact HQ.out.2.2 _ _ h)
   (λw2 s=>(tL (2*l.c.aO) lo op H ky b1 (V.out.1.aw s) (by rw[c.out.1]) (by rw[c.out.1];exact HA.out.2.2.2.1) c.out.2.2.2.2.2.1 HA.out.2.2.2.2 (by rw[<- Jw];exact V.out.2.1.aw s) (V.out.2.2.1.aw s) (V.out.2.2.2.aw s) qc.out.2.1 iB.out HQ.out.2.1).mono
    λe w3 hh=>by
     rcases hh with⟨a,qb,s,h3⟩|⟨v,qb,⟨o,D,s,h3,h4⟩,h5⟩
     ·exact .inl ⟨a,qb,s,h3⟩
     exact .inr ⟨v,qb,⟨_,_,_,D,⟨o,s,Z,Z,Z⟩,h3,h4⟩,h5⟩)
  (with_reducible refine qB.mono ?_);rintro e qJ ⟨ib,lh⟩;obtain⟨N,M,J,L,T,d,u,y,j,n,m,qd,rfl,ie⟩:∃c0 c1 c2 c3 C d u y j n m qd,e=ai (.tuple #[.agg (bj c0 c1 c2 c3),.agg (bg C d u y (.slice j n m)),.bool qd])/\∀w':W,(∀gg,bI qJ (.slice j n m) gg->bI w' (.slice j n m) gg)->Below w.heap.size w w'->mS l q w (ai (.tuple #[.agg (bj c0 c1 c2 c3),.agg (bg C d u y (.slice j n m)),.bool qd])) w':=by
   rcases ib with⟨x,hx,rfl⟩|⟨C,d,bc,D,gv,⟨o,hT,rfl,rfl,rfl⟩,rfl,mD⟩
   ·exact⟨_,_,_,_,_,_,_,_,_,_,_,_,Z,λw' _ O=>⟨.inl ⟨x,hx,by rw[c.out.1]⟩,O⟩⟩
   obtain⟨j,m,rfl,r1,r2⟩:=mD;exact⟨_,_,_,_,_,_,_,_,_,_,_,_,Z,λw' hk O=>⟨.inr ⟨o,D,_,hT,Z,hk _ ⟨j,m,Z,r1,r2⟩⟩,O⟩⟩
  have HF:=aj ie;have F:=lh.aw HB.out.2.1 (by have:=c.out;omega) (by have:=c.out;omega);have qa:=lh.aw HB.out.2.2 (by have:=c.out;omega) (by have:=c.out;omega);have nC:=uQ.out.trans lh;go_wp2_with (first
   | (refine aI Z 67 (.tmp 10) (.tmp 48) Z Z b2 (bj N M J L) Z Z 67 cG F zK Z (by simp[aB]) ?_)
   | (refine aI Z 70 (.tmp 11) (.tmp 49) Z Z b3 (bg T d u y (.slice j n m)) Z Z 70 aW (qa.a6 (b:=b2) zO (bj N M J L)) zK Z (by simp[aB]) ?_))
  have xc:=qa.a6 (b:=b2) zO (bj N M J L);have ys:=(F.bG (bj N M J L)).a6 (b:=b3) zO (bg T d u y (.slice j n m));have yr:=xc.bG (bg T d u y (.slice j n m));have lG:=(nC.row (b:=b2) (.inl (by rw[HW.out];omega)) (bj N M J L)).row (b:=b3) (.inl (by rw[HW.out];omega)) (bg T d u y (.slice j n m));exact aS (v:=.tuple #[.agg (bj N M J L),.agg (bg T d u y (.slice j n m)),.bool qd]) (eo (p:=10) (q:=11) (t:=12) (t1:=67) (t2:=70) Z _ _ b2 b3 _ _ (0,0) (0,0) _ _ _ Z Z Z ys yr cF Z zK aJ Z zK) Z
   (HF.out _ (λgg hg=>(hg.row F zD _).row xc zD _) (lG.part (by have:=c.out;omega) (by have:=c.out;omega) (aq _)))
 ·have tP:(op.kind==1)=X:=by rw[qc.out.2.2.1,yu];rfl
  have sW:(op.kind==2)=true:=by rw[qc.out.2.2.1,yu];rfl
  have hz3:(op.kind==3)=X:=by rw[qc.out.2.2.1,yu];rfl
  have iB:=aj (show q=fp (2*l.c.aO) k.me lo (.sub (.g1 0 (.nd lo.h 0)) (.fh (.put 0))) ⟨[0,0,0],g,0⟩ (log.drop 0)by
   rw[HQ.out.1];unfold cW;rw[yu,c.out.2.1];rfl)
  go_upto_region 8 with fail;have yd:=Q.cell 0;have Nr:=Q.lt;have cf:=kf.cell 0;have lf:=kf.lt;simp at yd cf;have hmf:∀(fn:Fn) (first cap:Array I) (w:W),(uT fn first cap).run ao w= .ok (.func fn first cap) w:=λ_ _ _ _=>Z;have HB:=aj (al qe (al F qa));have uQ:=aj (cH.aT k.gp H qe);have V:=aj (al hp (al kf (al Q P)));have Jw:ob=nodeAt k.l lo.h 0:=by rw[c.out.1];exact HOB.out.symm
  go_wp2_with fail;have qB:=rW (fn:=165) (k:=k) (z:=⟨[0,0,0],g,0⟩) (log:=log) q (λC d bc D=>∃o,q= .fin (o,D)/\C=o.val/\d=o.is/\bc=(o.bc:Nat)) 168 #[ptr ky,ptr b1] H w8 lf V.out.1 (by intro w;simp[go_sem]) (λC d bc D hT=>by obtain⟨o,h,-⟩:=hT;exact HQ.out.2.2 _ _ h)
   (λw2 s=>(Kz (2*l.c.aO) lo op H ky b1 (V.out.1.aw s) (by rw[c.out.1]) (by rw[c.out.1];exact HA.out.2.2.2.1) c.out.2.2.2.2.2.1 HA.out.2.2.2.2 (by rw[<- Jw];exact V.out.2.1.aw s) (V.out.2.2.1.aw s) (V.out.2.2.2.aw s) qc.out.2.1 iB.out HQ.out.2.1).mono
    λe w3 hh=>by
     rcases hh with⟨a,qb,s,h3⟩|⟨v,qb,⟨o,D,s,h3,h4⟩,h5⟩
     ·exact .inl ⟨a,qb,s,h3⟩
     exact .inr ⟨v,qb,⟨_,_,_,D,⟨o,s,Z,Z,Z⟩,h3,h4⟩,h5⟩)
  (with_reducible refine qB.mono ?_);rintro e qJ ⟨ib,lh⟩;obtain⟨N,M,J,L,T,d,u,y,j,n,m,qd,rfl,ie⟩:∃c0 c1 c2 c3 C d u y j n m qd,e=ai (.tuple #[.agg (bj c0 c1 c2 c3),.agg (bg C d u y (.slice j n m)),.bool qd])/\∀w':W,(∀gg,bI qJ (.slice j n m) gg->bI w' (.slice j n m) gg)->Below w.heap.size w w'->mS l q w (ai (.tuple #[.agg (bj c0 c1 c2 c3),.agg (bg C d u y (.slice j n m)),.bool qd])) w':=by
   rcases ib with⟨x,hx,rfl⟩|⟨C,d,bc,D,gv,⟨o,hT,rfl,rfl,rfl⟩,rfl,mD⟩
   ·exact⟨_,_,_,_,_,_,_,_,_,_,_,_,Z,λw' _ O=>⟨.inl ⟨x,hx,by rw[c.out.1]⟩,O⟩⟩
   obtain⟨j,m,rfl,r1,r2⟩:=mD;exact⟨_,_,_,_,_,_,_,_,_,_,_,_,Z,λw' hk O=>⟨.inr ⟨o,D,_,hT,Z,hk _ ⟨j,m,Z,r1,r2⟩⟩,O⟩⟩
  have HF:=aj ie;have F:=lh.aw HB.out.2.1 (by have:=c.out;omega) (by have:=c.out;omega);have qa:=lh.aw HB.out.2.2 (by have:=c.out;omega) (by have:=c.out;omega);have nC:=uQ.out.trans lh;go_wp2_with (first
   | (refine aI Z 67 (.tmp 10) (.tmp 59) Z Z b2 (bj N M J L) Z Z 67 cG F zK Z (by simp[aB]) ?_)
   | (refine aI Z 70 (.tmp 11) (.tmp 60) Z Z b3 (bg T d u y (.slice j n m)) Z Z 70 aW (qa.a6 (b:=b2) zO (bj N M J L)) zK Z (by simp[aB]) ?_))
  have xc:=qa.a6 (b:=b2) zO (bj N M J L);have ys:=(F.bG (bj N M J L)).a6 (b:=b3) zO (bg T d u y (.slice j n m));have yr:=xc.bG (bg T d u y (.slice j n m));have lG:=(nC.row (b:=b2) (.inl (by rw[HW.out];omega)) (bj N M J L)).row (b:=b3) (.inl (by rw[HW.out];omega)) (bg T d u y (.slice j n m));exact aS (v:=.tuple #[.agg (bj N M J L),.agg (bg T d u y (.slice j n m)),.bool qd]) (eo (p:=10) (q:=11) (t:=12) (t1:=67) (t2:=70) Z _ _ b2 b3 _ _ (0,0) (0,0) _ _ _ Z Z Z ys yr cF Z zK aJ Z zK) Z
   (HF.out _ (λgg hg=>(hg.row F zD _).row xc zD _) (lG.part (by have:=c.out;omega) (by have:=c.out;omega) (aq _)))
 have tP:(op.kind==1)=X:=by rw[qc.out.2.2.1,KT];rfl
 have sW:(op.kind==2)=X:=by rw[qc.out.2.2.1,KT];rfl
 have hz3:(op.kind==3)=true:=by rw[qc.out.2.2.1,KT];rfl
 have iB:=aj (show q=fp (2*l.c.aO) k.me lo (.sub (.g1 0 (.nd lo.h 0)) (.fh .del)) ⟨[0,0,0],g,0⟩ (log.drop 0)by
  rw[HQ.out.1];unfold cW;rw[KT,c.out.2.1];rfl)
 go_upto_region 10 with fail;have yd:=Q.cell 0;have Nr:=Q.lt;have cf:=kf.cell 0;have lf:=kf.lt;simp at yd cf;have hmf:∀(fn:Fn) (first cap:Array I) (w:W),(uT fn first cap).run ao w= .ok (.func fn first cap) w:=λ_ _ _ _=>Z;have HB:=aj (al qe (al F qa));have uQ:=aj (cH.aT k.gp H qe);have V:=aj (al hp (al kf (al Q P)));have Jw:ob=nodeAt k.l lo.h 0:=by rw[c.out.1];exact HOB.out.symm
 go_wp2_with fail;have qB:=rW (fn:=165) (k:=k) (z:=⟨[0,0,0],g,0⟩) (log:=log) q (λC d bc D=>∃o,q= .fin (o,D)/\C=o.val/\d=o.is/\bc=(o.bc:Nat)) 170 #[ptr ky,ptr b1] H w8 lf V.out.1 (by intro w;simp[go_sem]) (λC d bc D hT=>by obtain⟨o,h,-⟩:=hT;exact HQ.out.2.2 _ _ h)
  (λw2 s=>(Ky (2*l.c.aO) lo op H ky b1 (V.out.1.aw s) (by rw[c.out.1]) (by rw[c.out.1];exact HA.out.2.2.2.1) c.out.2.2.2.2.2.1 HA.out.2.2.2.2 (by rw[<- Jw];exact V.out.2.1.aw s) (V.out.2.2.1.aw s) (V.out.2.2.2.aw s) qc.out.2.1 iB.out HQ.out.2.1).mono
   λe w3 hh=>by
    rcases hh with⟨a,qb,s,h3⟩|⟨v,qb,⟨o,D,s,h3,h4⟩,h5⟩
    ·exact .inl ⟨a,qb,s,h3⟩
    exact .inr ⟨v,qb,⟨_,_,_,D,⟨o,s,Z,Z,Z⟩,h3,h4⟩,h5⟩)
 (with_reducible refine qB.mono ?_);rintro e qJ ⟨ib,lh⟩;obtain⟨N,M,J,L,T,d,u,y,j,n,m,qd,rfl,ie⟩:∃c0 c1 c2 c3 C d u y j n m qd,e=ai (.tuple #[.agg (bj c0 c1 c2 c3),.agg (bg C d u y (.slice j n m)),.bool qd])/\∀w':W,(∀gg,bI qJ (.slice j n m) gg->bI w' (.slice j n m) gg)->Below w.heap.size w w'->mS l q w (ai (.tuple #[.agg (bj c0 c1 c2 c3),.agg (bg C d u y (.slice j n m)),.bool qd])) w':=by
  rcases ib with⟨x,hx,rfl⟩|⟨C,d,bc,D,gv,⟨o,hT,rfl,rfl,rfl⟩,rfl,mD⟩
  ·exact⟨_,_,_,_,_,_,_,_,_,_,_,_,Z,λw' _ O=>⟨.inl ⟨x,hx,by rw[c.out.1]⟩,O⟩⟩
  obtain⟨j,m,rfl,r1,r2⟩:=mD;exact⟨_,_,_,_,_,_,_,_,_,_,_,_,Z,λw' hk O=>⟨.inr ⟨o,D,_,hT,Z,hk _ ⟨j,m,Z,r1,r2⟩⟩,O⟩⟩
 have HF:=aj ie;have F:=lh.aw HB.out.2.1 (by have:=c.out;omega) (by have:=c.out;omega);have qa:=lh.aw HB.out.2.2 (by have:=c.out;omega) (by have:=c.out;omega);have nC:=uQ.out.trans lh;go_wp2_with (first
  | (refine aI Z 67 (.tmp 10) (.tmp 70) Z Z b2 (bj N M J L) Z Z 67 cG F zK Z (by simp[aB]) ?_)
  | (refine aI Z 70 (.tmp 11) (.tmp 71) Z Z b3 (bg T d u y (.slice j n m)) Z Z 70 aW (qa.a6 (b:=b2) zO (bj N M J L)) zK Z (by simp[aB]) ?_))
 have xc:=qa.a6 (b:=b2) zO (bj N M J L);have ys:=(F.bG (bj N M J L)).a6 (b:=b3) zO (bg T d u y (.slice j n m));have yr:=xc.bG (bg T d u y (.slice j n m));have lG:=(nC.row (b:=b2) (.inl (by rw[HW.out];omega)) (bj N M J L)).row (b:=b3) (.inl (by rw[HW.out];omega)) (bg T d u y (.slice j n m));exact aS (v:=.tuple #[.agg (bj N M J L),.agg (bg T d u y (.slice j n m)),.bool qd]) (eo (p:=10) (q:=11) (t:=12) (t1:=67) (t2:=70) Z _ _ b2 b3 _ _ (0,0) (0,0) _ _ _ Z Z Z ys yr cF Z zK aJ Z zK) Z
  (HF.out _ (λgg hg=>(hg.row F zD _).row xc zD _) (lG.part (by have:=c.out;omega) (by have:=c.out;omega) (aq _)))
end list
end Go.Proofs.YtikdaeddbkopeaaGreatR
