/- A part of the proof. -/
import Derived.Test.YtikdaeddbkopeaaGreatRV6
import Derived.Test.YtikdaeddbkopeaaGreatRV1
import Derived.Test.YtikdaeddbkopeaaGreatRV2
set_option linter.unusedVariables false
set_option linter.unusedSimpArgs false
set_option maxRecDepth 100000
set_option maxHeartbeats 16000000
open Go.Proofs.Tryz
open And renaming intro → al
open Bool renaming false → X, true → O, and_eq_true → bN
open Classical renaming byContradiction → db
open List renaming getElem?_eq_some_iff → aC, getElem?_eq_getElem → aD, mem_cons → aL, mem_of_getElem? → aU, setIfInBounds_toArray → ak, getElem_cons_zero → an, getElem_cons_succ → ar, getElem_toArray → au, set_cons_zero → ay, set_cons_succ → az, length_append → bE, mem_singleton → bH, not_mem_nil → be, mem_cons_of_mem → cM, nodup_cons → cS, mem_append → cy, getD_eq_getElem?_getD → dJ, range → eF, replicate → fV, mem_filter → jF, length_cons → ku, mem_range → lK, take_length → nP, pairwise_cons → nQ, length_map → qH, map_cons → s8
open Nat renaming le_trans → aF, zero_le → aN, le_refl → aq, le_of_lt → ed, add_sub_cancel → jJ, le_succ → oU
open Option renaming none → Y, some → J
open Prod.mk renaming injEq → ly
open True renaming intro → bd
namespace Go.Proofs.YtikdaeddbkopeaaGreatR
section
variable {S:Nat} {c:Loc}
structure fz where
 pos:Nat
 log:Log
 steps:List Nat
 gone:cq
 made:Nat
structure EvW where
 who:Nat
 a:Acc
 r:Int × Bool
structure cd where
 who:Nat
 op:Opr
 val:Int
 is:Bool
 first:Nat
 last:Nat
 bc:Int
structure cY where
 m:List Int
 aO:List fz
 events:List EvW
 calls:List cd
def eP(a:List Nat)(p:Int):Int:=
 if p < -1/\ -p-2<a.length then -(a.getD (-p-2).toNat 0:Nat)-2
 else if 0<=p/\p<a.length then(a.getD p.toNat 0:Nat)else -1
def mx(l:Ly)(a:LAc):Acc:=⟨a.k,adr l a.c,a.o,a.v⟩
def Ax(a:Acc)(m:List Int):Int × Bool:=(a.had m,a.ok (a.had m))
def jj(l:Ly)(who:Nat)(x:fz)(a:LAc)(t:cY):cY:=
 { m:=(mx l a).make t.m,aO:=t.aO.set who { x with log:=x.log++[Ax (mx l a) t.m],steps:=x.steps++[t.events.length],made:=x.made+1 },events:=t.events++[⟨who,mx l a,Ax (mx l a) t.m⟩],calls:=t.calls }
def mG(who:Nat)(x:fz)(op:Opr)(o:Out)(t:cY):cY:=
 { t with aO:=t.aO.set who ⟨x.pos+1,[],[],o.gone,x.made⟩,calls:=t.calls++[⟨who,op,o.val,o.is,x.steps.headD 0,x.steps.getLastD 0,eP x.steps o.bc⟩] }
def dD(l:Ly)(want:List (List Opr))(who:Nat)(t:cY):cY × Bool:=
 match t.aO[who]?,want[who]? with
 | some x,J ops=>match ops[x.pos]? with
  | none=>(t,X)
  | some b=>match oO (2*l.c.aO) l.c.buckets who b (ee b x.gone) x.log with
   | .ask a=>(jj l who x a t,X)
   | .fin o=>(mG who x b o t,O)
   | .stuck=>(t,X)
 | _,_=>(t,X)
def cfW(S:Nat):Cf:=⟨S,40,2,1,1,0,1,1,1⟩
def lyW(S:Nat):Ly:=yp (cfW S)
def rF(S:Nat):Loc->Prop
 | .nd n i=>1<=n/\n<=40/\0<=i/\i<8
 | .resv s i=>0<=s/\s<S/\0<=i/\i<3
 | .bucket b=>b=0\/b=1
 | _=>True
def jG(S:Nat):Loc->Int
 | .era=>2
 | .free=>3
 | .resv s i=>4+2*S+s*3+i
 | .msize=>8+12*S
 | .mcount=>9+12*S
 | .bucket b=>10+12*S+b
 | .top=>12+12*S
 | .slot=>13+12*S
 | .head=>14+12*S
 | .tail=>15+12*S
 | .nd n i=>16+12*S+(n-1)*8+i
theorem Cv(a:1<=S)(b:S<=3):(lyW S).era=2/\(lyW S).free=3/\(lyW S).resv=4+2*S/\(lyW S).map=8+12*S/\(lyW S).stack=12+12*S/\(lyW S).chan=14+12*S/\(lyW S).node=16+12*S/\(lyW S).size=336+12*S/\(lyW S).c=cfW S:=by
 have:S=1\/S=2\/S=3:=M;rcases this with rfl|rfl|rfl<;>exact⟨by decide+kernel,by decide+kernel,by decide+kernel,by decide+kernel,by decide+kernel,by decide+kernel,by decide+kernel,by decide+kernel,rfl⟩
theorem mQ(o:1<=S)(m:S<=3)(f:rF S c):adr (lyW S) c=jG S c:=by
 obtain⟨l,q,t,g,j,h,k,u,e⟩:=Cv o m;cases c with
 | era=>exact l
 | free=>exact q
 | resv s i=>
  obtain⟨a,b,c,d⟩:=f;show (if 0<=s/\s<(lyW S).c.aO/\0<=i/\i<3 then(lyW S).resv+s*3+i else -1)=_;rw[e,t,if_pos ⟨a,b,c,d⟩];rfl
 | msize=>show (if (1:Int)<0 then -1 else da (lyW S).map (lyW S).c.maps (2+(lyW S).c.buckets) 0 0)=_;rw[e,g];simp[da,cfW,jG]
 | mcount=>show (if (1:Int)<1 then -1 else da (lyW S).map (lyW S).c.maps (2+(lyW S).c.buckets) 0 1)=_;rw[e,g];simp[da,cfW,jG];omega
 | bucket b=>
  show (if b<0\/(lyW S).c.buckets<=b then -1 else da (lyW S).map (lyW S).c.maps (2+(lyW S).c.buckets) 0 (2+b))=_;rw[e,g];rcases (show b=0\/b=1 from f)with rfl|rfl<;>simp[da,cfW,jG]<;>omega
 | top=>show da (lyW S).stack (lyW S).c.stacks (1+(lyW S).c.slots) 0 0=_;rw[e,j];simp[da,cfW,jG]
 | slot=>show (if (0:Int)<0\/(lyW S).c.slots<=0 then -1 else da (lyW S).stack (lyW S).c.stacks (1+(lyW S).c.slots) 0 (1+0))=_;rw[e,j];simp[da,cfW,jG];omega
 | head=>show da (lyW S).chan (lyW S).c.chans 2 0 0=_;rw[e,h];simp[da,cfW,jG]
 | tail=>show da (lyW S).chan (lyW S).c.chans 2 0 1=_;rw[e,h];simp[da,cfW,jG];omega
 | nd n i=>
  obtain⟨a,b,c,d⟩:=f;show (if n<1 then -1 else(if 0<=n-1/\n-1<(lyW S).c.nodes/\0<=i/\i<8 then(lyW S).node+(n-1)*8+i else -1))=_;rw[e,k,if_neg M,if_pos ⟨M,by show n-1<40;omega,c,d⟩];rfl
theorem oe(b:1<=S)(a:rF S c):0<=jG S c/\jG S c<336+12*S:=by
 cases c<;>simp only[rF,jG]at a ⊢<;>omega
theorem Nk{d:Loc}(a:rF S c)(hd:rF S d)(h:jG S c=jG S d):c=d:=by
 cases c<;>cases d<;>simp only[rF,jG]at a hd h ⊢<;>first|omega|(congr 1<;>omega)|skip
theorem uY(d:1<=S)(e:S<=3):LyTop (lyW S):=by
 have h:(cfW S).can:=by
  refine⟨⟨λj m=>?_,show Ci 2=O by decide+kernel⟩,show (1:Int)+1<=40 by decide,show (40:Int)<=1000 by decide⟩;have:j=0\/j=1\/j=2\/j=3\/j=4\/j=5\/j=6\/j=7:=M;rcases this with rfl|rfl|rfl|rfl|rfl|rfl|rfl|rfl<;>simp only[Cf.Cb,cfW]<;>omega
 obtain⟨k,o,q,s,t,l,i,g,f⟩:=Cv d e;refine⟨zA _ h,by rw[f];rfl,by rw[f];show (1:Int)<=S/\(S:Int)<=8;omega,by rw[f];show (1:Int)<=2;decide,?_,?_,?_,?_⟩
 ·intro n a b;have:nodeAt (lyW S) n 0=jG S (.nd n 0):=mQ d e (c:=.nd n 0) ⟨a,b,zD,zD⟩;rw[this,g];exact oe d (c:=.nd n 0) ⟨a,b,zD,zD⟩
 ·have:ft (lyW S) 0 0=jG S .msize:=mQ d e (c:=.msize) trivial;rw[this];exact(oe d (c:=.msize) trivial).1
 ·have:fj (lyW S) 0=jG S .top:=mQ d e (c:=.top) trivial;rw[this];exact(oe d (c:=.top) trivial).1
 have:et (lyW S) 0=jG S .head:=mQ d e (c:=.head) trivial;rw[this];exact(oe d (c:=.head) trivial).1
end
section
variable {g:Gh} {s:Nat} {m:Sm} {x:SX} {op:MOp} {a:LAc}
def Big(v:Int):Prop:=-4611686018427387904<=v/\v<=4611686018427387904
theorem mw(i:Int)(b:Bool)(c:Int):Big (dL i b c):=by
 unfold dL Big;cases b<;>simp<;>omega
theorem nJ(x i:Int):Big (dC x i):=mw _ _ _
theorem nK(i:Int):Big (aV i):=mw _ _ _
theorem OK(i:Int):Big (eQ i):=mw _ _ _
theorem qw(v k c:Int):Big (ld v k c):=by unfold ld Big;omega
theorem JO(x:Int):Big (idxOf x):=by unfold idxOf Big;omega
theorem iZ{v:Int}(b:0<=v)(a:v<4294967298):Big v:=by unfold Big;omega
theorem sM:Big 0:=iZ zD zD
def Sub.eb:Sub->Prop
 | .g3 _ _ e=>Big e
 | .t5 _ b _=>Big b
 | _=>True
def SX.eb:SX->Prop
 | .go x _=>x.eb
 | _=>True
theorem qs(s:Pz)(i:Nat):(df s i).eb:=by unfold df;split<;>trivial
theorem Sub.jU(th:Int)(z:Pz)(x:Sub){r:Int × Bool}(a:Big r.1):(x.stp th z r).eb:=by
 cases x<;>simp only[Sub.stp]<;>(repeat' split)<;>first|trivial|exact a|exact qs _ _
def LPh.eb:LPh->Prop
 | .sub x _=>x.eb
 | _=>True
def LX.eb:LX->Prop
 | .go x _=>x.eb
 | _=>True
theorem vr(h:x.eb)(k:LK){f:Ret->Pz->LX}(a:∀r s,(f r s).eb):(x.lS k f).eb:=by
 cases x with
 | go x s=>exact h
 | ret r s=>exact a r s
 | stuck=>trivial
theorem Bh(o:dx)(s:Pz):(fF o s).eb:=vr (qs _ _) _ λ_ _=>trivial
theorem IK(n:Int)(o:dx)(s:Pz):(fa n o s).eb:=vr (qs _ _) _ λ_ _=>trivial
theorem Dc(op:LOp)(k:FK)(a:Bool)(c b next:Int)(pt:Nat)(s:Pz):(iJ op k a c b next pt s).eb:=by
 unfold iJ;cases k<;>simp only[]<;>(repeat' split)<;>first|trivial|exact Bh _ _
theorem Cx(op:LOp)(k:FK)(f:Fp)(s:Pz):(eR op k f s).eb:=by
 unfold eR;split
 ·exact Dc _ _ _ _ _ _ _ _
 trivial
theorem resL_eb(op:LOp)(r:Ret)(s:Pz)(k:LK):(ic op r s k).eb:=by
 unfold ic;cases k<;>simp only[]<;>(repeat' split)<;>first|trivial|exact Cx _ _ _ _|exact Bh _ _
theorem LPh.jU(th:Int)(op:LOp)(z:Pz)(x:LPh){r:Int × Bool}(a:Big r.1):(x.stp th op z r).eb:=by
 cases x with
 | sub x k=>exact vr (Sub.jU th z x a) k λt s=>resL_eb op t s k
 | _=>simp only[LPh.stp]<;>(repeat' split)<;>first|trivial | exact Cx _ _ _ _ | exact Bh _ _ | exact Dc _ _ _ _ _ _ _ _ | exact IK _ _ _
def MPh.eb:MPh->Prop
 | .ml _ _ _ a x _=>(0<=a.v/\a.v<4294967296)/\x.eb
 | _=>True
def MX.eb:MX->Prop
 | .go x _ _=>x.eb
 | _=>True
theorem Is{x:LX}(h:x.eb)(dm:Bool)(sz:Int)(m:Nat){lo:LOp}(a:0<=lo.v/\lo.v<4294967296){f:dx->Pz->MX}(b:∀o s,(f o s).eb):(x.inM dm sz m lo f).eb:=by
 cases x with
 | go x s=>exact⟨a,h⟩
 | out o s=>exact b o s
 | stuck=>trivial
theorem yQ(lo:LOp)(g:cq):(cW lo g).eb:=by unfold cW;(repeat' split)<;>trivial
theorem Nq(op:MOp)(sz:Int)(o:dx)(n:Nat)(g:cq):(gB op sz o n g).eb:=by unfold gB;(repeat' split)<;>trivial
theorem Ni(a:0<=op.b/\op.b<4294967296)(sz n:Int)(k:Nat)(g:cq):(iH op sz n k g).eb:=by
 unfold iH;split
 ·exact Is (yQ _ _) _ _ _ a λ_ _=>trivial
 trivial
theorem MPh.jU(th bk:Int)(f:0<=op.b/\op.b<4294967296)(n:Nat)(g:cq){x:MPh}(a:x.eb){r:Int × Bool}(c:Big r.1):(x.stp th bk op n g r).eb:=by
 cases x with
 | ml b d m e x s=>
  refine Is (LPh.jU th e s x c) _ _ _ a.1 λo s=>?_;cases b
  ·exact Nq _ _ _ _ _
  exact trivial
 | m3 d=>
  simp only[MPh.stp];split
  ·trivial
  exact Is (yQ _ _) _ _ _ ⟨Int.le_refl 0,show (0:Int)<4294967296 by decide⟩ λ_ _=>trivial
 | _=>simp only[MPh.stp]<;>(repeat' split)<;>first|trivial | exact Ni f _ _ _ _
def EPh.eb:EPh->Prop
 | .sub x _=>x.eb
 | _=>True
def EX.eb:EX->Prop
 | .go x _=>x.eb
 | _=>True
theorem vw(h:x.eb)(k:EK){f:Ret->Pz->EX}(a:∀r s,(f r s).eb):(x.jc k f).eb:=by
 cases x with
 | go x s=>exact h
 | ret r s=>exact a r s
 | stuck=>trivial
theorem JI(a:Int)(b:Bool)(c:Int)(s:Pz):(oT a b c s).eb:=vw (qs _ _) _ λ_ _=>trivial
theorem resE_eb(r:Ret)(s:Pz)(k:EK):(nu r s k).eb:=by
 unfold nu;cases k<;>simp only[]<;>(repeat' split)<;>first|trivial|exact JI _ _ _ _
theorem EPh.jU(th a:Int)(z:Pz)(x:EPh){r:Int × Bool}(b:Big r.1):(x.stp th a z r).eb:=by
 cases x with
 | sub x k=>exact vw (Sub.jU th z x b) k λt s=>resE_eb t s k
 | o4 n p=>exact vw (qs _ _) _ λ_ _=>trivial
 | _=>simp only[EPh.stp]<;>(repeat' split)<;>first|trivial | exact JI _ _ _ _
def CPh.eb:CPh->Prop
 | .sub x _=>x.eb
 | _=>True
def CX.eb:CX->Prop
 | .go x _=>x.eb
 | _=>True
theorem BN(h:x.eb)(k:CK){f:Ret->Pz->CX}(a:∀r s,(f r s).eb):(x.oM k f).eb:=by
 cases x with
 | go x s=>exact h
 | ret r s=>exact a r s
 | stuck=>trivial
theorem JK(a:Int)(b:Bool)(c:Int)(s:Pz):(iY a b c s).eb:=BN (qs _ _) _ λ_ _=>trivial
theorem resC_eb(r:Ret)(s:Pz)(k:CK):(oS r s k).eb:=by
 unfold oS;cases k<;>simp only[]<;>(repeat' split)<;>first|trivial|exact JK _ _ _ _
theorem M9(bq a:Int)(i:Nat)(s:Pz):(jN bq a i s).eb:=by unfold jN;split<;>trivial
theorem Nb(a:Int)(i:Nat)(s:Pz):(jO a i s).eb:=by unfold jO;split<;>trivial
theorem CPh.jU(th a:Int)(z:Pz)(x:CPh){r:Int × Bool}(b:Big r.1):(x.stp th a z r).eb:=by
 cases x with
 | sub x k=>exact BN (Sub.jU th z x b) k λt s=>resC_eb t s k
 | _=>simp only[CPh.stp]<;>(repeat' split)<;>first|trivial | exact JK _ _ _ _ | exact M9 _ _ _ _ | exact Nb _ _ _
def Ph.eb:Ph->Prop
 | .m x _ _=>x.eb
 | .e x _=>x.eb
 | .c x _=>x.eb
def PX.eb:PX->Prop
 | .go x=>x.eb
 | _=>True
theorem Ph.jU(th bk:Int){op:Opr}(ho:kK op){x:Ph}(d:x.eb){r:Int × Bool}(b:Big r.1):(x.stp th bk op r).eb:=by
 cases x with
 | m x n g=>
  have h:=MPh.jU th bk (op:=⟨op.kind,op.a,op.b⟩) ho.b n g d b;show (x.stp th bk ⟨op.kind,op.a,op.b⟩ n g r).p.eb;cases a:x.stp th bk ⟨op.kind,op.a,op.b⟩ n g r<;>rw[a]at h<;>first|exact h|trivial
 | e x z=>
  have h:=EPh.jU th op.a z x b;show (x.stp th op.a z r).p.eb;cases a:x.stp th op.a z r<;>rw[a]at h<;>first|exact h|trivial
 | c x z=>
  have h:=CPh.jU th op.a z x b;show (x.stp th op.a z r).p.eb;cases a:x.stp th op.a z r<;>rw[a]at h<;>first|exact h|trivial
theorem td(op:Opr)(g:cq):(ee op g).eb:=by
 unfold ee te tf AF oN Jk
 (repeat' split)<;>trivial
structure uR (me:Int) (a:LAc):Prop where
 k:(a.k=1/\a.o=0/\a.v=0)\/(a.k=2/\a.o=0)\/a.k=3\/(a.k=4/\a.o=0/\(a.v=1\/a.v= -1)/\(a.c= .era\/a.c= .mcount))
 v:Big a.v
 rs:∀s i,a.c= .resv s i->s=me
 sm:a.c= .era\/a.c= .mcount->a.k=1\/a.k=4
theorem Sub.acOk(f:Int){x:Sub}(d:x.eb)(g:∀i c,(x= .g1 i c)->∀s i,c≠ .resv s i):uR f (x.acc f):=by
 cases x with
 | g1 i c=>exact⟨.inl ⟨Z,Z,Z⟩,sM,λs j e=>absurd e (g i c Z s j),λ_=>.inl Z⟩
 | g2 i c v=>exact⟨.inl ⟨Z,Z,Z⟩,sM,(by intro _ _ e;cases e),λ_=>.inl rfl⟩
 | g3 i c e=>exact⟨.inr (.inl ⟨Z,Z⟩),d,(by intro _ _ e;cases e;rfl),by rintro (e | e)<;>cases e⟩
 | t1=>exact⟨.inl ⟨Z,Z,Z⟩,sM,(by intro _ _ e;cases e),λ_=>.inl rfl⟩
 | t2 a=>exact⟨.inl ⟨Z,Z,Z⟩,sM,(by intro _ _ e;cases e),λ_=>.inl rfl⟩
 | t3 a h=>exact⟨.inr (.inr (.inl Z)),nJ _ _,(by intro _ _ e;cases e),by rintro (e | e)<;>cases e⟩
 | t4 n p=>exact⟨.inl ⟨Z,Z,Z⟩,sM,(by intro _ _ e;cases e),λ_=>.inl rfl⟩
 | t5 n b p=>exact⟨.inr (.inl ⟨Z,Z⟩),d,(by intro _ _ e;cases e),by rintro (e | e)<;>cases e⟩
 | v1 n=>exact⟨.inl ⟨Z,Z,Z⟩,sM,(by intro _ _ e;cases e),λ_=>.inl rfl⟩
 | v2 n a=>exact⟨.inr (.inl ⟨Z,Z⟩),JO _,(by intro _ _ e;cases e),by rintro (e | e)<;>cases e⟩
 | v3 n a=>exact⟨.inr (.inr (.inl Z)),nJ _ _,(by intro _ _ e;cases e),by rintro (e | e)<;>cases e⟩
 | cl i=>exact⟨.inr (.inl ⟨Z,Z⟩),sM,(by intro _ _ e;cases e;rfl),by rintro (e | e)<;>cases e⟩
 | r1 n=>exact⟨.inl ⟨Z,Z,Z⟩,sM,(by intro _ _ e;cases e),λ_=>.inl rfl⟩
 | r2 n e=>exact⟨.inr (.inr (.inr ⟨Z,Z,.inl Z,.inl Z⟩)),iZ (show (0:Int)<=1 by decide) (show (1:Int)<4294967298 by decide),(by intro _ _ e;cases e),λ_=>.inr rfl⟩
def Loc.pl:Loc->Prop
 | .resv _ _ | .era | .mcount=>False
 | _=>True
theorem fY(c:Int)(h:a.c.pl)(b:a.k=1/\a.o=0/\a.v=0):uR c a:=⟨.inl b,by rw[b.2.2];exact sM,(by intro s i e;rw[e]at h;exact h.elim),λ_=>.inl b.1⟩
theorem oG(c:Int)(h:a.c.pl)(d:a.k=2/\a.o=0)(b:Big a.v):uR c a:=⟨.inr (.inl d),b,(by intro s i e;rw[e]at h;exact h.elim),(by rintro (e|e)<;>(rw[e]at h;exact h.elim))⟩
theorem fu(c:Int)(h:a.c.pl)(d:a.k=3)(b:Big a.v):uR c a:=⟨.inr (.inr (.inl d)),b,(by intro s i e;rw[e]at h;exact h.elim),(by rintro (e|e)<;>(rw[e]at h;exact h.elim))⟩
theorem gd_pl{c:Loc}(h:Gd g c):∀s i,c≠ .resv s i:=by rintro s i rfl;exact absurd h (by simp[Gd])
theorem Sub.nL{x:Sub}(b:jB s m g x)(a:x.eb):uR s (x.acc s):=Sub.acOk s a λi c e=>by
 subst e;exact gd_pl b.2
theorem LPh.nL{op:LOp}{x:LPh}(h:LOk s m g op x)(e:x.eb)(o0:0<=op.o)(i:op.o<131072)(v0:0<=op.v)(v1:op.v<4294967296):uR s (x.acc s op):=by
 cases x with
 | sub x k=>exact Sub.nL h.1 e
 | fs k f n t=>exact fY _ trivial ⟨Z,Z,Z⟩
 | fo k f n t=>exact fY _ trivial ⟨Z,Z,Z⟩
 | fc k f n=>exact fu _ trivial Z (nK _)
 | gv n p=>exact fY _ trivial ⟨Z,Z,Z⟩
 | p1 n a b=>exact oG _ trivial ⟨Z,Z⟩ (show Big op.o from iZ o0 M)
 | p2 n a b=>exact oG _ trivial ⟨Z,Z⟩ (show Big op.v from iZ v0 M)
 | p0 n a b=>exact oG _ trivial ⟨Z,Z⟩ (nK _)
 | pc n a b=>exact fu _ trivial Z (nK _)
 | dm a b c=>exact fu _ trivial Z (OK _)
 | du a b c d=>exact fu _ trivial Z (nK _)
theorem MPh.nL{gn:cq}{x:MPh}(c:MOk s m g op gn x)(d:x.eb):uR s (x.acc s):=by
 cases x with
 | m1=>exact fY _ trivial ⟨Z,Z,Z⟩
 | m2 a b=>exact fY _ trivial ⟨Z,Z,Z⟩
 | m3 a=>exact fY _ trivial ⟨Z,Z,Z⟩
 | ml f a k h x z=>exact LPh.nL c.1.ok d.2 c.1.opk.o0 c.1.opk.o1 d.1.1 d.1.2
 | m4 a n=>exact fu _ trivial Z (nK _)
 | m5 a o=>exact⟨.inr (.inr (.inr ⟨Z,Z,.inl Z,.inr Z⟩)),iZ (show (0:Int)<=1 by decide) (show (1:Int)<4294967298 by decide),(by intro _ _ e;cases e),λ_=>.inr rfl⟩
 | m6 a o=>obtain rfl:a=1:=c;exact fu _ trivial Z (show Big 2 from iZ zD zD)
 | m7 o=>exact⟨.inr (.inr (.inr ⟨Z,Z,.inr Z,.inr Z⟩)),⟨show (-4611686018427387904:Int)<= -1 by decide,show (-1:Int)<=4611686018427387904 by decide⟩,(by intro _ _ e;cases e),λ_=>.inr rfl⟩
theorem EPh.nL{a:Int}{x:EPh}(e:EOk s m g a x)(c:x.eb)(d:0<=a)(f:a<65536):uR s (x.acc s a):=by
 cases x with
 | sub x k=>exact Sub.nL e.1 c
 | u1 n=>exact oG _ trivial ⟨Z,Z⟩ (show Big a from iZ d M)
 | u2 n=>exact fY _ trivial ⟨Z,Z,Z⟩
 | u3 n w=>exact oG _ trivial ⟨Z,Z⟩ (JO _)
 | u4 n w=>exact fu _ trivial Z (nJ _ _)
 | u5 n=>exact fY _ trivial ⟨Z,Z,Z⟩
 | u6 n w=>exact fu _ trivial Z (qw _ _ _)
 | u7 j n w p=>exact fY _ trivial ⟨Z,Z,Z⟩
 | u8 n w p=>exact fu _ trivial Z (qw _ _ _)
 | u9 n w p=>exact oG _ trivial ⟨Z,Z⟩ (qw _ _ _)
 | o2 w=>exact fY _ trivial ⟨Z,Z,Z⟩
 | o3 w b=>exact fu _ trivial Z (nJ _ _)
 | o4 n p=>exact fY _ trivial ⟨Z,Z,Z⟩
 | o5=>exact fY _ trivial ⟨Z,Z,Z⟩
 | o6 w=>exact fu _ trivial Z (qw _ _ _)
theorem CPh.nL{a:Int}{x:CPh}(h:Gl m g)(b:COk s m g a x)(c:x.eb)(d:0<=a)(e:a<4294967296):uR s (x.acc s a):=by
 cases x with
 | sub x k=>exact Sub.nL b.1 c
 | s2 n w i=>exact fY _ trivial ⟨Z,Z,Z⟩
 | s3 n w i=>exact fu _ trivial Z (show Big (a+2)from iZ M M)
 | s4 n w=>exact fY _ trivial ⟨Z,Z,Z⟩
 | s5 n w x=>exact fu _ trivial Z (nJ _ _)
 | fl n w j=>
  refine oG _ trivial ⟨Z,Z⟩ ?_;show Big (if j=1 then a+2 else 0);split
  ·exact iZ M M
  exact sM
 | s6 n w=>have:=h.rng n (by rw[b.1];simp);exact fu _ trivial Z (show Big n from iZ M M)
 | s7 n w p=>exact fu _ trivial Z (nJ _ _)
 | r2 w i=>exact fY _ trivial ⟨Z,Z,Z⟩
 | r3 w i x=>exact fu _ trivial Z (show Big 1 from iZ zD zD)
 | r4 w=>exact fY _ trivial ⟨Z,Z,Z⟩
theorem Ph.nL{op:Opr}{x:Ph}(ho:kK op)(h:Gl m g)(d:POk s m g op x)(b:x.eb):uR s (x.acc s op.a):=by
 have a:=ho.a;cases x with
 | m x n f=>exact MPh.nL d.2.ok b
 | e x z=>exact EPh.nL d.2.2.ok b a.1 a.2
 | c x z=>exact CPh.nL h d.2.ok b a.1 M
end
structure Bt (S N:Nat) (m:List Int) (sm:Sm):Prop where
 len:m.length=336+12*S
 cl:∀c,rF S c->m[(jG S c).toNat]? =J (sm c)
 big:∀c,rF S c->Big (sm c)
 er:-((N:Int)+1)<=sm .era/\sm .era<=N+1
 mc:-((N:Int)+1)<=sm .mcount/\sm .mcount<=N+1
section
variable {S N:Nat} {m:List Int} {sm:Sm} {s:Int} {a:LAc}
theorem mem_at(a:LAc)(sm:Sm)(c:Loc):a.mem sm c=if c=a.c then(a.mem sm) a.c else sm c:=by
 unfold LAc.mem bz;by_cases h:c=a.c
 ·rw[h,if_pos Z]
 rw[if_neg h];(repeat' split)<;>first|rfl|simp_all
theorem Bt.step(q:1<=S)(x:S<=3)(R:Bt S N m sm)(g:uR s a)(j:rF S a.c)(G:N+1<=200000000):
  (mx (lyW S) a).err m.length=0/\Ax (mx (lyW S) a) m=a.res sm/\Bt S (N+1) ((mx (lyW S) a).make m) (a.mem sm)/\Big (a.res sm).1:=by
 obtain⟨y,D⟩:=oe q j;have n:(mx (lyW S) a).cell=jG S a.c:=mQ q x j;have z:=R.cl a.c j;have v:(mx (lyW S) a).had m=sm a.c:=by
  unfold Acc.had;rw[n,dJ,z];rfl
 have l:=R.big a.c j;have E:=R.er;have F:=R.mc;have o:=R.len;have A:(mx (lyW S) a).right=O:=by
  unfold Acc.right;rw[n];show (decide (0<=jG S a.c)&&((a.k==1&&a.v==0&&a.o==0)||((a.k==2||a.k==4||a.k==5)&&a.o==0)||a.k==3))=O;rw[decide_eq_true y];rcases g.k with⟨b,f,u⟩|⟨b,f⟩|b|⟨b,f,-⟩<;>simp[*]
 have i:(mx (lyW S) a).next (sm a.c)=a.mem sm a.c/\Big (a.mem sm a.c)/\(a.c= .era\/a.c= .mcount->sm a.c-1<=a.mem sm a.c/\a.mem sm a.c<=sm a.c+1):=by
  unfold Acc.next LAc.mem mx;rcases g.k with⟨b,f,u⟩|⟨b,f⟩|b|⟨b,f,u,B⟩
  ·simp only[b];simp;exact⟨l,λ_=>by omega⟩
  ·simp only[b];simp[bz];exact⟨g.v,λh=>by rcases g.sm h with e|e<;>omega⟩
  ·simp only[b];simp;by_cases h:sm a.c=a.o
   ·simp only[h,if_true,bz];exact⟨trivial,g.v,λh=>by rcases g.sm h with e|e<;>omega⟩
   simp[h];exact⟨l,λ_=>by omega⟩
  simp only[b];simp[bz];have d:sm a.c+a.v=Go.RowKit.wrap64 (sm a.c+a.v):=by unfold Go.RowKit.wrap64;unfold Big at l;omega
  have C:-((N:Int)+1)<=sm a.c/\sm a.c<=N+1:=by rcases B with e|e<;>rw[e]<;>assumption
  exact⟨d.symm,by unfold Big;omega,λ_=>by omega⟩
 obtain⟨w,t⟩:=nM (a.mem sm a.c);have k:∀c,a.mem sm c=if c=a.c then w else sm c:=λc=>t ▸ mem_at a sm c
 rw[t]at i;refine⟨?_,?_,?_,?_⟩
 ·unfold Acc.err;rw[A,if_pos Z,n,if_pos (by rw[o];omega)]
 ·unfold Ax LAc.res Acc.ok;rw[v];show (sm a.c,!(a.k==3&&sm a.c != a.o))=_;by_cases b:a.k=3
  ·by_cases f:sm a.c=a.o<;>simp[b,f]
  simp[b]
 ·unfold Acc.make;rw[v,i.1,n];refine⟨by rw[List.length_set];exact o,?_,?_,?_,?_⟩
  ·intro c d;rw[k];by_cases e:c=a.c
   ·subst e;rw[if_pos Z,List.getElem?_set_self (by rw[o];omega)]
   rw[if_neg e,List.getElem?_set_ne (by
    intro h;have:=oe q d;exact e (Nk d j M))]
   exact R.cl c d
  ·intro c d;rw[k];by_cases e:c=a.c
   ·rw[if_pos e];exact i.2.1
   rw[if_neg e];exact R.big c d
  ·rw[k];split
   ·rename_i e;have:=i.2.2 (.inl e.symm);rw[<- e]at this;push_cast;omega
   push_cast;omega
  rw[k];split
  ·rename_i e;have:=i.2.2 (.inr e.symm);rw[<- e]at this;push_cast;omega
  push_cast;omega
 rw[dv];exact l
end
def IU(th bk:Int)(op:Opr):PX->Log->PX
 | .go x,r :: l=>IU th bk op (x.stp th bk op r) l
 | p,_=>p
def anP(b a:Int):PX->An Out
 | .go x=>.ask (x.acc b a)
 | .out o=>.fin o
 | .stuck=>.stuck
theorem iP(th bk:Int)(op:Opr)(p:PX):IU th bk op p []=p:=by cases p<;>rfl
theorem yV(th bk a:Int)(op:Opr):∀(l:Log) (p:PX),oO th bk a op p l=anP a op.a (IU th bk op p l)
 | [],p=>by rw[iP];cases p<;>rfl
 | r :: l,p=>by
  cases p with
  | go x=>show Ca th bk a op x (r :: l)=_;rw[pQ];exact yV th bk a op l _
  | out o=>rfl
  | stuck=>rfl
theorem xQ(th bk:Int)(op:Opr)(r:Int × Bool){x:Ph}:∀(l:Log) (p:PX),IU th bk op p l= .go x->IU th bk op p (l++[r])=x.stp th bk op r
 | [],p,h=>by rw[iP]at h;subst h;exact iP _ _ _ _
 | a :: l,p,h=>by
  cases p with
  | go y=>exact xQ th bk op r l _ h
  | out o=>cases h
  | stuck=>cases h
abbrev jH(S:Nat)(op:Opr)(x:fz):PX:=IU ((2*S:Nat):Int) 2 op (ee op x.gone) x.log
structure Bq (S:Nat) (ops:List Opr) (q:Sq) (x:fz) (N:Nat):Prop where
 done:q.done=x.pos
 gone:q.gone=x.gone
 cur:q.cur=(ops[x.pos]?).map λop=>jH S op x
 sl:x.steps.length=x.log.length
 ll:x.log.length<=N
 big:∀r∈x.log,Big r.1
 st:∀i∈x.steps,i<N
 gl:x.gone.length<=6
 eb:∀y,q.cur=J y->y.eb
 md:x.made<=N
theorem Bq.more{S:Nat}{ops:List Opr}{q:Sq}{x:fz}{N N':Nat}(h:Bq S ops q x N)(a:N<=N'):Bq S ops q x N':=
 ⟨h.done,h.gone,h.cur,h.sl,by have:=h.ll;omega,h.big,λi hi=>by have:=h.st i hi;omega,h.gl,h.eb,by have:=h.md;omega⟩
structure mY (S:Nat) (want:List (List Opr)) (t:cY) (sm:Sm) (g:Gh) (q:Nat->Sq):Prop where
 wk:Wk S want sm g t.events.length q
 mr:Bt S t.events.length t.m sm
 sl:t.aO.length=S
 sr:∀s x ops,t.aO[s]? =J x->want[s]? =J ops->Bq S ops (q s) x t.events.length
theorem locV_of{S who:Nat}(f:who<S){g:Gh}{a:LAc}(e:uR who a)(c:mz g a.c):rF S a.c:=by
 cases d:a.c with
 | nd n i=>rw[d]at c;exact⟨c.1,c.2.1,c.2.2.1,c.2.2.2.1⟩
 | resv s i=>rw[d]at c;have:=e.rs s i d;subst this;exact⟨M,M,c.1,c.2⟩
 | bucket b=>rw[d]at c;exact c
 | _=>trivial
structure J3 (S:Nat) (t:cY) (g:Gh) (a:LAc):Prop where
 err:(mx (lyW S) a).err t.m.length=0
 lv:rF S a.c
 lo:mz g a.c
section
variable {S who:Nat} {want:List (List Opr)} {t:cY} {sm:Sm} {g:Gh} {q:Nat->Sq} {x:fz} {ops:List Opr} {op:Opr}
theorem mY.lt(W:mY S want t sm g q)(c:who<S):∃x ops,t.aO[who]? =J x/\want[who]? =J ops:=by
 have a:=W.sl;have b:=W.wk.wl;exact⟨_,_,aD M,aD M⟩
theorem th_eq(S:Nat):(2*(lyW S).c.aO:Int)=((2*S:Nat):Int):=by show 2*(S:Int)=_;omega
theorem mY.run(W:mY S want t sm g q)(a:t.aO[who]? =J x):oO (2*(lyW S).c.aO) (lyW S).c.buckets who op (ee op x.gone) x.log=anP who op.a (jH S op x):=by
 rw[th_eq];exact yV _ _ _ _ _ _
theorem mY.turn2(W:mY S want t sm g q)(l:t.aO[who]? =J x)(ho:want[who]? =J ops)(m:ops[x.pos]? =J op)(V:t.events.length+1<=200000000):
  kK op/\
  ((∃y,jH S op x= .go y/\(q who).cur=J (.go y)/\J3 S t g (y.acc who op.a)/\y.rho sm g<=1400/\dD (lyW S) want who t=(jj (lyW S) who x (y.acc who op.a) t,X)/\POk who sm g op y/\Env who sm g ((y.acc who op.a).mem sm) (y.gst who g ((y.acc who op.a).res sm))/\
    ∃f qa,mY S want (jj (lyW S) who x (y.acc who op.a) t) ((y.acc who op.a).mem sm) (y.gst who g ((y.acc who op.a).res sm)) qa/\f={ x with log:=x.log++[Ax (mx (lyW S) (y.acc who op.a)) t.m],steps:=x.steps++[t.events.length],made:=x.made+1 } /\
    (jj (lyW S) who x (y.acc who op.a) t).aO[who]? =J f/\jH S op f=y.stp ((2*S:Nat):Int) 2 op ((y.acc who op.a).res sm)/\(jH S op f).rho ((y.acc who op.a).mem sm) (y.gst who g ((y.acc who op.a).res sm))+1<=y.rho sm g)\/
   (∃o,jH S op x= .out o/\x.log≠[]/\o.gone.length<=6/\dD (lyW S) want who t=(mG who x op o t,O)/\∃qa,mY S want (mG who x op o t) sm g qa)):=by
 have fH:=(aC.1 m).1;have R:=W.sr who x ops l ho;have qb:=W.wk.S1;have Y:who<S:=by have:=(aC.1 l).1;rw[W.sl]at this;exact this
 have I:kK op:=(W.wk.w3 ops (aU ho)).2 op (aU m);have G:(q who).cur=J (jH S op x):=by rw[R.cur,m];rfl
 have C:ops[(q who).done]? =J op:=by rw[R.done];exact m
 refine⟨I,?_⟩;have K:=W.run (op:=op) l;obtain⟨op',n,U⟩:=W.wk.go ho (by rw[R.done];exact fH);rw[G]at U;rcases U with⟨y,B⟩|⟨o,B⟩
 ·left;have c:jH S op x= .go y:=by injection B
  have j:(q who).cur=J (.go y):=G.trans (by rw[c]);have E:dD (lyW S) want who t=(jj (lyW S) who x (y.acc who op.a) t,X):=by
   unfold dD;rw[l,ho];simp only[m];rw[K,c];rfl
  have v:POk who sm g op y:=by
   have k:=W.wk.sq who ops ho;unfold sQ at k;rw[j]at k;obtain⟨op2,n,H⟩:=k;rw[C]at n;injection n with n;rw[n];exact H
  have M:=Ph.nL I W.wk.gl v (R.eb _ j);obtain⟨D,Q,k3,k4,k5⟩:=W.wk.step ho C j V;have P:=locV_of Y M Q;obtain⟨m1,F,qd,qc⟩:=W.mr.step qb.1 qb.2 M P V;refine⟨y,c,j,⟨m1,P,Q⟩,Ph.MA _ _ _,E,v,k5,?_⟩;have A:(jj (lyW S) who x (y.acc who op.a) t).events.length=t.events.length+1:=by simp[jj]
  have T:jH S op { x with log:=x.log++[Ax (mx (lyW S) (y.acc who op.a)) t.m],steps:=x.steps++[t.events.length],made:=x.made+1 } =y.stp ((2*S:Nat):Int) 2 op ((y.acc who op.a).res sm):=by
   rw[<- F];exact xQ _ _ _ _ _ _ c
  refine⟨_,_,⟨by rw[A];exact D,by rw[A];exact qd,by simp[jj,W.sl],?_⟩,Z,List.getElem?_set_self (aC.1 l).1,T,by rw[T];exact k3⟩
  ·intro s f w a b;rw[A];simp only[jj]at a;by_cases e:s=who;rotate_left
   ·rw[List.getElem?_set_ne (λh=>e h.symm)]at a;rw[cQ _ _ e];exact(W.sr s f w a b).more zO
   subst e;rw[ho]at b;injection b with b;subst b;rw[List.getElem?_set_self (aC.1 l).1]at a;injection a with a;subst a;rw[bL];refine⟨R.done,R.gone,?_,by simp[R.sl],by have:=R.ll;simp;omega,?_,?_,R.gl,?_,by have:=R.md;simp;omega⟩
   ·show J _=(ops[x.pos]?).map _;rw[m,<- F];exact congrArg J (xQ _ _ _ _ _ _ c).symm
   ·intro r d;rcases cy.1 d with d|d
    ·exact R.big r d
    rw[bH.1 d,F];exact qc
   ·intro i hi;rcases cy.1 hi with hi|hi
    ·have:=R.st i hi;omega
    rw[bH.1 hi];omega
   intro z u;injection u with u;subst u;exact Ph.jU _ _ I (R.eb _ j) qc
 right;have c:jH S op x= .out o:=by injection B
 have j:(q who).cur=J (.out o):=G.trans (by rw[c]);have E:dD (lyW S) want who t=(mG who x op o t,O):=by
  unfold dD;rw[l,ho];simp only[m];rw[K,c];rfl
 have v:sS who sm g op (.out o):=by
  have k:=W.wk.sq who ops ho;unfold sQ at k;rw[j]at k;obtain⟨op2,n,H⟩:=k;exact H
 have N:o.gone.length<=6:=by
  have k:=(W.wk.bounds who).2.2.2;have L:=congrArg List.length v.2;rw[qH]at L;omega
 have D:=W.wk.fin ho C j;refine⟨o,c,?_,N,E,?_⟩
 ·intro h;have:ee op x.gone= .out o:=by rw[<- c];unfold jH;rw[h,iP]
  have L:=td op x.gone
  revert this
  unfold ee te tf AF oN Jk
  (repeat' split)<;>(intro h;cases h)
 refine⟨_,D,W.mr,by simp[mG,W.sl],?_⟩;intro s f w a b;simp only[mG]at a;show Bq S w _ f t.events.length;by_cases e:s=who
 ·subst e;rw[ho]at b;injection b with b;subst b;rw[List.getElem?_set_self (aC.1 l).1]at a;injection a with a;subst a;rw[bL];refine⟨by show _+1=_;rw[R.done],Z,?_,Z,aN _,(by intro r d;cases d),(by intro r d;cases d),N,?_,R.md⟩
  ·show iC ops _ _=_;unfold iC;rw[R.done];congr 1;funext op;exact(iP _ _ _ _).symm
  intro z u
  revert u
  show iC ops _ _=J z->_;unfold iC;rw[Option.map_eq_some_iff];rintro⟨op3,-,rfl⟩;exact td _ _
 rw[List.getElem?_set_ne (λh=>e h.symm)]at a;rw[cQ _ _ e];exact W.sr s f w a b
theorem nS(a:t.aO[who]? =J x)(ho:want[who]? =J ops)(b:ops[x.pos]? =Y)(l:Ly):dD l want who t=(t,X):=by
 unfold dD;rw[a,ho];simp only[b]
theorem mY.mU(W:mY S want t sm g q)(j:t.aO[who]? =J x)(ho:want[who]? =J ops)(m:ops[x.pos]? =J op)(w:t.events.length+1<=200000000):
  kK op/\
  ((∃y,jH S op x= .go y/\(q who).cur=J (.go y)/\J3 S t g (y.acc who op.a)/\y.rho sm g<=1400/\(dD (lyW S) want who t).2=X/\∃a i l b,mY S want (dD (lyW S) want who t).1 i l b/\
    (dD (lyW S) want who t).1.aO[who]? =J a/\a.pos=x.pos/\a.made=x.made+1/\(jH S op a).rho i l+1<=y.rho sm g)\/
   (∃o,jH S op x= .out o/\x.log≠[]/\o.gone.length<=6/\(dD (lyW S) want who t).2=O/\∃a b,mY S want (dD (lyW S) want who t).1 sm g b/\
    (dD (lyW S) want who t).1.aO[who]? =J a/\a.pos=x.pos+1/\a.made=x.made)):=by
 obtain⟨v,z⟩:=W.turn2 j ho m w;refine⟨v,?_⟩;rcases z with⟨y,h,f,e,d,c,-,-,a,b,u,k,s,-,n⟩|⟨o,h,f,e,d,b,c⟩
 ·exact .inl ⟨y,h,f,e,d,by rw[c],a,_,_,b,by rw[c];exact u,by rw[c];exact s,by rw[k],by rw[k],n⟩
 exact .inr ⟨o,h,f,e,by rw[d],⟨x.pos+1,[],[],o.gone,x.made⟩,b,by rw[d];exact c,by rw[d];exact List.getElem?_set_self (aC.1 j).1,Z,Z⟩
end
section
variable {n:Int} {S:Nat}
def stW(c:Loc)(v:Int):LAc:=⟨2,c,0,v⟩
def initW:List LAc:=
 [stW (.nd 1 0) 0,stW (.nd 1 1) 0,stW (.nd 1 2) 0,stW (.nd 1 6) 1,stW .msize 1,stW .mcount 0,stW (.bucket 0) (dL 1 X 0)]++
 (eF 6).map (λ(i:Nat)=>stW (.nd 2 (i:Int)) 0)++[stW .head (dL 2 X 0),stW .tail (dL 2 X 0)]++
 (eF 38).map (λ(i:Nat)=>stW (.nd ((i:Int)+3) 7) (if i=37 then 0 else(i:Int)+4))++[stW .free (dL 3 X 0),stW .era 1]
def m0(S:Nat):List Int:=initW.foldl (λm a=>(mx (lyW S) a).make m) (fV (336+12*S) 0)
def sm0:Sm
 | .era=>1
 | .free=>dL 3 X 0
 | .msize=>1
 | .bucket b=>if b=0 then aV 1 else 0
 | .head=>dL 2 X 0
 | .tail=>dL 2 X 0
 | .nd n i=>if i=7 then(if 3<=n/\n<40 then n+1 else 0)else if n=1/\i=6 then 1 else 0
 | _=>0
def xv:List Int:=(eF 38).map λ(i:Nat)=>(i:Int)+3
def g0:Gh where
 st:=λn=>if n=1 then .li else if n=2 then .sg else .fr
 fl:=xv
 fc:=0
 ls:=[1]
 sk:=[]
 sg:=[2]
 dd:=λ_=>[]
 dl:=0
 ds:=0
 n:=0
 tk:=0
theorem st0(n:Int):g0.st n=if n=1 then .li else if n=2 then .sg else .fr:=Z
theorem Mc:g0.st n= .fr ↔ n≠1/\n≠2:=by
 rw[st0];(repeat' split)<;>simp_all
theorem Mb:g0.st n= .li ↔ n=1:=by
 rw[st0];(repeat' split)<;>simp_all
theorem st0_sg:g0.st n= .sg ↔ n=2:=by
 rw[st0];(repeat' split)<;>simp_all
theorem Md:(g0.st n).isL=O ↔ n=1:=by
 rw[st0];(repeat' split)<;>simp_all [Pl.isL]
theorem st0_S(n:Int):(g0.st n).isS=X:=by
 rw[st0];(repeat' split)<;>rfl
theorem st0_ow(n:Int)(s:Nat):g0.st n≠ .ow s:=by
 rw[st0];(repeat' split)<;>simp
theorem K6(n:Int):n∈xv ↔ 3<=n/\n<=40:=by
 unfold xv;rw[List.mem_map];constructor
 ·rintro⟨i,hi,rfl⟩;have:=lK.1 hi;omega
 rintro⟨a,b⟩;exact⟨(n-3).toNat,lK.2 M,M⟩
theorem Lf:Chn (λn=>sm0 (.nd n 7)) xv:=by
 have:∀k:Nat,k<=37->Chn (λn=>sm0 (.nd n 7)) ((List.range' (37-k) (k+1)).map λ(i:Nat)=>(i:Int)+3):=by
  intro k;induction k with
  | zero=>intro _;show sm0 (.nd ((37:Nat)+3) 7)=0;decide
  | succ k a=>
   intro b;have:=a M;rw[List.range'_succ,s8,show 37-(k+1)+1=37-k by omega];refine this.cons ?_;rw[List.range'_succ,s8,List.headD_cons];show sm0 (.nd (((37-(k+1):Nat):Int)+3) 7)=_;simp only[sm0,if_true];rw[if_pos M];omega
 have h:=this 37 M;have e:eF 38=List.range' (37-37) (37+1):=zD;unfold xv;rw[e];exact h
theorem gl0:Gl sm0 g0:=by
 constructor
 ·intro n h;have:¬(n≠1/\n≠2):=λk=>h (Mc.2 k);omega
 ·decide
 ·exact Lf
 ·intro n;show n∈xv ↔ _;rw[K6,Mc];omega
 ·show xv.Nodup;decide
 ·decide
 ·decide
 ·exact⟨[],Z⟩
 ·show idxOf (sm0 (.nd 1 0))=0;decide
 ·intro n;rw[Mb];show n∈[(1:Int)] ↔ _;simp
 ·show List.Pairwise _ [(1:Int)];simp
 ·intro n h;obtain rfl:=Md.1 h;exact⟨0,zD,zD,.inl zD,.inl Z⟩
 ·intro n s h;exact absurd h (by rw[st0];(repeat' split)<;>simp)
 ·intro n h;obtain rfl:=Md.1 h;intro k;exact absurd k zD
 ·intro n h;obtain rfl:=Md.1 h;decide
 ·decide
 ·decide
 ·exact .inl zD
 ·exact .inl zD
 ·exact⟨0,zD⟩
 ·exact trivial
 ·intro n;constructor
  ·intro h;cases h
  intro h;exact absurd h (by rw[st0];(repeat' split)<;>simp)
 ·exact List.nodup_nil
 ·intro n h;rw[st0_S]at h;cases h
 ·exact⟨0,zD⟩
 ·exact⟨[],Z⟩
 ·exact⟨2,0,zD,zD⟩
 ·show sm0 (.nd 2 0)=0;decide
 ·intro n;rw[st0_sg];show n∈[(2:Int)] ↔ _;simp
 ·show List.Nodup [(2:Int)];decide
 ·intro n h k;exact absurd (bH.1 h) k
 ·intro n h k;obtain rfl:n=2:=bH.1 h;exact absurd zD k
 ·intro n h i a b;obtain rfl:n=2:=bH.1 h;have:i=1\/i=2\/i=3\/i=4\/i=5:=M;rcases this with rfl|rfl|rfl|rfl|rfl<;>decide
 ·intro s n;constructor
  ·intro h;cases h
  intro h;exfalso;revert h;rw[st0];(repeat' split)<;>simp
 ·intro s;exact List.nodup_nil
 ·intro s;exact aN _
 decide
def e0(S k:Nat):Int:=
 if k=2 then 1 else if k=3 then dL 3 X 0 else if k=8+12*S then 1 else if k=10+12*S then dL 1 X 0
 else if k=14+12*S\/k=15+12*S then dL 2 X 0
 else if 16+12*S<=k then sm0 (.nd (((k-(16+12*S)) / 8:Nat)+1) ((k-(16+12*S))%8:Nat))else 0
theorem Nj(a:1<=S)(b:S<=3):m0 S=(eF (336+12*S)).map (e0 S):=by
 have:S=1\/S=2\/S=3:=M;rcases this with rfl|rfl|rfl<;>decide+kernel
attribute [irreducible] m0
theorem e0_loc(l:1<=S)(m:S<=3){c:Loc}(f:rF S c):e0 S (jG S c).toNat=sm0 c:=by
 cases c with
 | nd n i=>
  obtain⟨a,b,d,e⟩:=f;obtain⟨k,g⟩:∃k:Nat,n=k+1:=⟨(n-1).toNat,M⟩;obtain⟨j,rfl⟩:∃j:Nat,i=j:=⟨i.toNat,M⟩;subst g;have h:(jG S (.nd ((k:Int)+1) j)).toNat=16+12*S+(k*8+j):=by simp only[jG];omega
  rw[h];unfold e0;rw[if_neg M,if_neg M,if_neg M,if_neg M,if_neg M,if_pos M];rw[show (16+12*S+(k*8+j)-(16+12*S)) / 8=k by omega,show (16+12*S+(k*8+j)-(16+12*S))%8=j by omega]
 | resv s i=>
  obtain⟨a,b,d,e⟩:=f;have h:(jG S (.resv s i)).toNat=4+2*S+(3*s.toNat+i.toNat):=by simp only[jG];omega
  rw[h];unfold e0;rw[if_neg M,if_neg M,if_neg M,if_neg M,if_neg M,if_neg M];rfl
 | bucket b=>
  have:S=1\/S=2\/S=3:=M;rcases (show b=0\/b=1 from f)with rfl|rfl<;>rcases this with rfl|rfl|rfl<;>decide+kernel
 | _=>
  have:S=1\/S=2\/S=3:=M;rcases this with rfl|rfl|rfl<;>decide+kernel
theorem sm0_big(c:Loc):Big (sm0 c):=by
 unfold sm0;split
 ·exact iZ zD zD
 ·exact mw _ _ _
 ·exact iZ zD zD
 ·split
  ·exact mw _ _ _
  exact sM
 ·exact mw _ _ _
 ·exact mw _ _ _
 ·split
  ·split
   ·exact iZ M M
   exact sM
  split
  ·exact iZ zD zD
  exact sM
 exact sM
theorem mrel0(a:1<=S)(b:S<=3):Bt S 0 (m0 S) sm0:=by
 refine⟨by rw[Nj a b];simp,?_,λc _=>sm0_big c,zD,zD⟩;intro c d;have e:=oe a d;rw[Nj a b,List.getElem?_map,List.getElem?_range M];exact congrArg J (e0_loc a b d)
def uu:fz:=⟨0,[],[],[],0⟩
def jh(S:Nat):cY:=⟨m0 S,fV S uu,[],[]⟩
def q0(want:List (List Opr))(s:Nat):Sq:=⟨0,match want[s]? with|some a=>iC a 0 []|none=>Y,[]⟩
theorem own0(s:Nat):ey g0 s 0 0:=λy=>⟨λh=>absurd h (st0_ow y s),λh=>by omega⟩
theorem winv0{want:List (List Opr)}(k:1<=want.length)(j:want.length<=3)(h:∀a∈want,a.length<=3/\∀b∈a,kK b):mY want.length want (jh want.length) sm0 g0 (q0 want):=by
 have d:∀s a,want[s]? =J a->(q0 want s).cur=(a[0]?).map λb=>ee b []:=by
  intro s a ho;show (match want[s]? with|some a=>iC a 0 []|none=>Y)=_;rw[ho];rfl
 have q:Bt want.length (jh want.length).events.length (jh want.length).m sm0:=by
  unfold jh;exact mrel0 k j
 have l:(jh want.length).aO.length=want.length:=List.length_replicate;refine mY.mk (Wk.mk gl0 ⟨k,j⟩ Z h ?_ (λs _=>⟨own0 s,Z⟩) ?_ ?_ ?_ ?_ ?_) q l ?_
 ·intro s a ho;unfold sQ;rw[d s a ho];cases f:a[0]? with
  | none=>exact⟨by have:=List.getElem?_eq_none_iff.1 f;show 0=a.length;omega,own0 s,Z⟩
  | some b=>
   obtain⟨x,c,n,-,-⟩:=yO (m:=sm0) (g:=g0) (s:=s) ((h a (aU ho)).2 b (aU f)) (own0 s) (gn:=[]) Z;exact⟨b,f,by show sS s sm0 g0 b (ee b []);rw[c];exact n⟩
 ·intro s o;have:want[s]? =Y:=List.getElem?_eq_none_iff.2 o;unfold Sq.eff Sq.tk q0;rw[this];exact⟨Z,Z⟩
 ·show (0:Nat)<=_;exact aN _
 ·show (0:Nat)<=_;exact aN _
 ·show (0:Nat)<=0;exact aq _
 ·show (0:Nat)<=_;exact aN _
 intro s x a c ho;simp only[jh]at c;obtain rfl:x=uu:=List.eq_of_mem_replicate (aU c);refine⟨Z,Z,?_,Z,aN _,(by intro r e;cases e),(by intro r e;cases e),aN _,?_,aN _⟩
 ·rw[d s a ho];show _=(a[0]?).map _;congr 1;funext b;exact(iP _ _ _ _).symm
 intro z i;rw[d s a ho,Option.map_eq_some_iff]at i;obtain⟨b,-,rfl⟩:=i;exact td _ _
end
section
variable {s:Nat}
def g8(stops:List Nat)(who:Nat)(t:cY):Bool:=
 decide (who<3)&&(decide (stops.getD (min who 2) 0<120)&&decide (stops.getD (min who 2) 0<=(t.aO.getD who uu).made))
def ff(l:Ly)(want:List (List Opr))(stops:List Nat):List Nat->cY->cY
 | [],t=>t
 | u :: r,t=>ff l want stops r (if g8 stops (u%want.length) t then t else(dD l want (u%want.length) t).1)
def eO(l:Ly)(want:List (List Opr))(stops:List Nat)(all:Bool)(who:Nat):Nat->cY->cY
 | 0,t=>t
 | k+1,t=>if (!all&&g8 stops who t)then t else
   match dD l want who t with
   | (t',O)=>t'
   | (t',X)=>eO l want stops all who k t'
def jr(l:Ly)(want:List (List Opr))(stops:List Nat)(all:Bool)(who:Nat)(t:cY):cY:=
 eO l want stops all who 2001 (eO l want stops all who 2001 (eO l want stops all who 2001 t))
def jM(l:Ly)(want:List (List Opr))(stops:List Nat)(all:Bool)(t:cY):cY:=
 (eF want.length).foldl (λt who=>jr l want stops all who t) t
def WE(S:Nat)(want:List (List Opr))(t:cY):Prop:=∃a g q,mY S want t a g q
section
variable {S who:Nat} {want:List (List Opr)} {stops:List Nat} {all:Bool} {t:cY}
theorem rP(l:Ly)(want:List (List Opr))(who:Nat)(t:cY):(dD l want who t).1.events.length<=t.events.length+1:=by
 unfold dD
 (repeat' split)<;>simp[jj,mG]
theorem BW(l:Ly)(want:List (List Opr)){who:Nat}(h:s≠who)(t:cY):(dD l want who t).1.aO[s]? =t.aO[s]?:=by
 unfold dD
 (repeat' split)<;>first|rfl|(simp only[jj,mG];rw[List.getElem?_set_ne (λe=>h e.symm)])
theorem WE.mU(W:WE S want t)(h:who<S)(i:t.events.length+1<=200000000):WE S want (dD (lyW S) want who t).1:=by
 obtain⟨j,g,q,W⟩:=W;obtain⟨x,e,c,ho⟩:=W.lt h;cases b:e[x.pos]? with
 | none=>rw[nS c ho b];exact⟨j,g,q,W⟩
 | some l=>
  rcases (W.mU c ho b i).2 with⟨y,-,-,-,-,-,f,k,m,d,a,-⟩|⟨o,-,-,-,-,f,d,a,-⟩
  ·exact⟨_,_,_,a⟩
  exact⟨_,_,_,a⟩
theorem WE.turns(d:want.length=S)(e:1<=S):∀(c:List Nat) (t:cY),WE S want t->t.events.length+c.length<=200000000->WE S want (ff (lyW S) want stops c t)/\(ff (lyW S) want stops c t).events.length<=t.events.length+c.length
 | [],t,W,_=>⟨W,by simp[ff]⟩
 | u :: r,t,W,hN=>by
  simp only[ku]at hN;have f:u%want.length<S:=by rw[d];exact Nat.mod_lt _ e
  have g:=rP (lyW S) want (u%want.length) t;unfold ff;split
  ·obtain⟨a,b⟩:=WE.turns d e r t W M;exact⟨a,by simp only[ku];omega⟩
  obtain⟨a,b⟩:=WE.turns d e r _ (W.mU f M) M;exact⟨a,by simp only[ku];omega⟩
theorem nU(l:Ly)(h:s≠who):∀(k:Nat) (t:cY),(eO l want stops all who k t).aO[s]? =t.aO[s]?
 | 0,t=>rfl
 | k+1,t=>by
  have a:=BW l want h t;unfold eO;split
  ·rfl
  split
  ·rename_i b e;rw[e]at a;exact a
  rename_i b e;rw[e]at a;rw[nU l h k b];exact a
theorem tg{x:fz}{b:List Opr}(a:t.aO[who]? =J x)(ho:want[who]? =J b)(c:b[x.pos]? =Y)(l:Ly):∀k,eO l want stops all who k t=t
 | 0=>rfl
 | k+1=>by
  unfold eO;rw[nS a ho c];split
  ·rfl
  exact tg a ho c l k
theorem I9:∀(k:Nat) {t:cY} {d:Sm} {g:Gh} {q:Nat->Sq} {x:fz} {s:List Opr} {op:Opr},mY S want t d g q->t.aO[who]? =J x->want[who]? =J s->s[x.pos]? =J op->
  (jH S op x).rho d g+1<=k->t.events.length+k<=200000000->
  WE S want (eO (lyW S) want stops all who k t)/\(eO (lyW S) want stops all who k t).events.length<=t.events.length+k/\
  ∃x',(eO (lyW S) want stops all who k t).aO[who]? =J x'/\x'.made<=x.made+(jH S op x).rho d g/\(x'.pos=x.pos+1\/x'.pos=x.pos/\all=X/\g8 stops who (eO (lyW S) want stops all who k t)=O)
 | 0,_,_,_,_,_,_,_,_,_,_,_,h,_=>by omega
 | k+1,t,d,g,q,x,s,op,W,hx,ho,hp,hk,hN=>by
  unfold eO;by_cases j:(!all&&g8 stops who t)=O
  ·rw[if_pos j];simp only[bN,Bool.not_eq_true']at j;exact⟨⟨_,_,_,W⟩,M,x,hx,M,.inr ⟨Z,j⟩⟩
  rw[if_neg j];have f:=rP (lyW S) want who t;rcases (W.mU hx ho hp M).2 with⟨y,u,-,-,-,n,x',v,z,q',i,e,l,C,I⟩|⟨o,u,-,-,n,x',q',i,e,l,C⟩
  ·rw[u]at hk ⊢;obtain⟨c,m⟩:∃c,dD (lyW S) want who t=(c,X):=⟨_,Prod.ext Z n⟩;rw[m]at i e f ⊢;have H:y.rho d g+1<=k+1:=hk;have B:mY S want c v z q':=i;have E:c.aO[who]? =J x':=e;have F:c.events.length<=t.events.length+1:=f;obtain⟨a,b,w,D,G,A⟩:=I9 k B E ho (by rw[l];exact hp) M M;refine⟨a,by simp only[]at f b ⊢;omega,w,D,by show _<=_+y.rho d g;omega,?_⟩;rw[<- l];exact A
  obtain⟨c,m⟩:∃c,dD (lyW S) want who t=(c,O):=⟨_,Prod.ext Z n⟩;rw[m]at i e f ⊢;exact⟨⟨_,_,_,i⟩,by simp only[]at f ⊢;omega,x',e,M,.inl l⟩
end
end
def rH(want:List (List Opr))(stops:List Nat)(all:Bool)(who:Nat)(t:cY):Prop:=
 (∃x a,t.aO[who]? =J x/\want[who]? =J a/\x.pos=a.length)\/(all=X/\g8 stops who t=O)
theorem Am{stops:List Nat}{who:Nat}{t a:cY}(h:a.aO[who]? =t.aO[who]?):g8 stops who a=g8 stops who t:=by
 unfold g8;rw[dJ,dJ,dJ,h]
theorem rH.congr{want:List (List Opr)}{stops:List Nat}{all:Bool}{who:Nat}{t t':cY}(h:t'.aO[who]? =t.aO[who]?)(F:rH want stops all who t):rH want stops all who t':=by
 rcases F with⟨x,d,a,b,c⟩|⟨a,b⟩
 ·exact .inl ⟨x,d,h.trans a,b,c⟩
 exact .inr ⟨a,(Am h).trans b⟩
section
variable {S who:Nat} {want:List (List Opr)} {stops:List Nat} {all:Bool} {t:cY}
theorem mY.H7{e:Sm}{g:Gh}{q:Nat->Sq}(W:mY S want t e g q){x:fz}{a:List Opr}(d:t.aO[who]? =J x)(ho:want[who]? =J a):x.pos<=a.length/\a.length<=3:=by
 refine⟨?_,(W.wk.w3 a (aU ho)).1⟩;have R:=W.sr who x a d ho;have b:=W.wk.sq who a ho;unfold sQ at b;rw[R.cur]at b;cases c:a[x.pos]? with
 | none=>rw[c]at b;have:=b.1;rw[R.done]at this;omega
 | some f=>have:=(aC.1 c).1;omega
theorem rH.Hp(F:rH want stops all who t)(l:Ly):∀k,eO l want stops all who k t=t:=by
 intro k;rcases F with⟨x,d,a,b,c⟩|⟨a,b⟩
 ·exact tg a b (List.getElem?_eq_none_iff.2 M) l k
 cases k with
 | zero=>rfl
 | succ k=>unfold eO;rw[if_pos (by simp[a,b])]
theorem WE.Hp(W:WE S want t)(n:who<S)(s:t.events.length+2001<=200000000):
  WE S want (eO (lyW S) want stops all who 2001 t)/\(eO (lyW S) want stops all who 2001 t).events.length<=t.events.length+2001/\
  ∀x,t.aO[who]? =J x->rH want stops all who (eO (lyW S) want stops all who 2001 t)\/∃f,(eO (lyW S) want stops all who 2001 t).aO[who]? =J f/\f.pos=x.pos+1:=by
 obtain⟨l,g,q,W⟩:=W;obtain⟨x,k,c,ho⟩:=W.lt n;have v:=W.H7 c ho;cases i:k[x.pos]? with
 | none=>
  rw[tg c ho i];exact⟨⟨l,g,q,W⟩,M,λy d=>.inl (.inl ⟨x,k,c,ho,by have:=List.getElem?_eq_none_iff.1 i;omega⟩)⟩
 | some j=>
  have u:(jH S j x).rho l g<=1400:=by
   cases h:jH S j x with
   | go y=>exact Ph.MA _ _ _
   | _=>exact aN _
  obtain⟨a,b,f,o,-,m⟩:=I9 (stops:=stops) (all:=all) 2001 W c ho i M s;refine⟨a,b,λy d=>?_⟩;rw[c]at d;injection d with d;subst d;rcases m with e|⟨-,e⟩
  ·exact .inr ⟨f,o,e⟩
  exact .inl (.inr e)
theorem WE.Mn(W:WE S want t)(a:who<S)(P:t.events.length+6003<=200000000):
  WE S want (jr (lyW S) want stops all who t)/\(jr (lyW S) want stops all who t).events.length<=t.events.length+6003/\
  rH want stops all who (jr (lyW S) want stops all who t)/\∀s,s≠who->(jr (lyW S) want stops all who t).aO[s]? =t.aO[s]?:=by
 obtain⟨c,e⟩:=nM (eO (lyW S) want stops all who 2001 t);obtain⟨t2,b⟩:=nM (eO (lyW S) want stops all who 2001 c);obtain⟨t3,d⟩:=nM (eO (lyW S) want stops all who 2001 t2);have L:jr (lyW S) want stops all who t=t3:=by unfold jr;rw[e,b,d]
 rw[L];have w:∀s,s≠who->c.aO[s]? =t.aO[s]?:=λs a=>e ▸ nU _ a _ _;have z:∀s,s≠who->t2.aO[s]? =c.aO[s]?:=λs a=>b ▸ nU _ a _ _;have E:∀s,s≠who->t3.aO[s]? =t2.aO[s]?:=λs a=>d ▸ nU _ a _ _;obtain⟨l,y,m⟩:=WE.Hp (stops:=stops) (all:=all) W a zO;rw[e]at l y m;obtain⟨h,K,k⟩:=WE.Hp (stops:=stops) (all:=all) l a zO;rw[b]at h K k;obtain⟨f,C,i⟩:=WE.Hp (stops:=stops) (all:=all) h a zO;rw[d]at f C i;refine⟨f,zO,?_,λs a=>(E s a).trans ((z s a).trans (w s a))⟩;have B:rH want stops all who c->rH want stops all who t2:=λF=>by rw[<- b,F.Hp];exact F
 have j:rH want stops all who t2->rH want stops all who t3:=λF=>by rw[<- d,F.Hp];exact F
 obtain⟨O,g,q,o⟩:=W;obtain⟨x,I,A,ho⟩:=o.lt a;rcases m x A with F|⟨D,u,M⟩
 ·exact j (B F)
 rcases k D u with F|⟨v,G,Q⟩
 ·exact j F
 rcases i v G with F|⟨H,n,N⟩
 ·exact F
 obtain⟨_,_,_,J⟩:=f;have:=J.H7 n ho;exact .inl ⟨H,I,n,ho,zO⟩
theorem WE.aO(l:S<=3)(k:Nat):∀(n:Nat) (t:cY),n+k=S->WE S want t->t.events.length+k*6003<=200000000->(∀s,s<n->rH want stops all s t)->
  WE S want ((List.range' n k).foldl (λt who=>jr (lyW S) want stops all who t) t)/\((List.range' n k).foldl (λt who=>jr (lyW S) want stops all who t) t).events.length<=t.events.length+k*6003/\
  ∀s,s<S->rH want stops all s ((List.range' n k).foldl (λt who=>jr (lyW S) want stops all who t) t):=by
 induction k with
 | zero=>intro n t h W _ F;exact⟨W,zS,λs i=>F s M⟩
 | succ k j=>
  intro n t h W o F;obtain⟨a,b,c,d⟩:=WE.Mn (stops:=stops) (all:=all) W (who:=n) M M;obtain⟨g,m,f⟩:=j (n+1) _ M a M (by
   intro s i;by_cases e:s=n
   ·subst e;exact c
   exact(F s M).congr (d s e))
  rw[List.range'_succ,List.foldl_cons];exact⟨g,M,f⟩
theorem WE.rest(e:want.length=S)(d:S<=3)(W:WE S want t)(f:t.events.length+18009<=200000000):
  WE S want (jM (lyW S) want stops all t)/\(jM (lyW S) want stops all t).events.length<=t.events.length+18009/\∀s,s<S->rH want stops all s (jM (lyW S) want stops all t):=by
 unfold jM;rw[e,List.range_eq_range'];obtain⟨a,b,c⟩:=WE.aO (stops:=stops) (all:=all) d S 0 t M W M (by intro s g;omega);exact⟨a,M,c⟩
end
def qI:List (List Opr):=[[⟨2,0,5,9⟩,⟨4,0,3,0⟩,⟨6,0,4,0⟩],[⟨4,0,8,0⟩]]
def vG:List Nat:=[255,6,0]
def tA1:cY:=ff (lyW 2) qI vG [1,1,1,1,1,1,1,1] (jh 2)
def tA2:cY:=jM (lyW 2) qI vG X tA1
theorem yN:tA2.calls.length=3:=by decide+kernel
def tA3:cY:=jM (lyW 2) qI vG O tA2
theorem J8:tA3.calls.length=4:=by decide+kernel
section
variable {K:Nat} {s z:Pz} {k:EK} {x:SX}
def Lo(K:Nat)(p:Int):Prop:=-(K:Int)-2<=p
theorem xb(K n:Nat):Lo K (n:Int):=by unfold Lo;omega
theorem Lo.more{a:Nat}{p:Int}(h:Lo K p)(b:K<=a):Lo a p:=by unfold Lo at *;omega
def SX.mb(K:Nat):SX->Prop
 | .go _ s=>s.made<=K
 | .ret _ s=>s.made<=K
 | .stuck=>True
theorem Bc(h:s.made<=K)(i:Nat):(df s i).mb K:=by unfold df;split<;>exact h
theorem Sub.stp_mb(th:Int)(h:z.made<=K)(x:Sub)(r:Int × Bool):(x.stp th z r).mb (K+1):=by
 have a:z.got.made<=K+1:=by show z.made+1<=_;omega
 cases x<;>simp only[Sub.stp]<;>(repeat' split)<;>first|trivial|exact a|exact Bc (by exact a) _
def EK.pb(K:Nat):EK->Prop
 | .ug p=>p<=K
 | .oc o=>Lo K o.bc
 | .orr _ o=>Lo K o.bc
 | .od o=>Lo K o.bc
 | _=>True
def EPh.pb(K:Nat):EPh->Prop
 | .sub _ k=>k.pb K
 | .u7 _ _ _ p=>p<=K
 | .u8 _ _ p=>p<=K
 | .u9 _ _ p=>p<=K
 | _=>True
def EX.pb(K:Nat):EX->Prop
 | .go x s=>x.pb K/\s.made<=K
 | .out o=>Lo K o.bc
 | .stuck=>True
theorem EK.pb.more{K':Nat}(h:k.pb K)(a:K<=K'):k.pb K':=by
 cases k<;>first|trivial|exact aF h a|exact Lo.more h a
theorem vu(h:x.mb K)(b:k.pb K){f:Ret->Pz->EX}(a:∀r s,s.made<=K->(f r s).pb K):(x.jc k f).pb K:=by
 cases x with
 | go x s=>exact⟨b,h⟩
 | ret r s=>exact a r s h
 | stuck=>trivial
theorem JG(h:s.made<=K)(a:Int)(b:Bool){c:Int}(d:Lo K c):(oT a b c s).pb K:=vu (Bc h _) (k:=.oc ⟨a,b,c,[]⟩) d λ_ _ _=>d
theorem popE_pb(h:s.made<=K):(AF s).pb K:=⟨trivial,h⟩
theorem resE_pb(h:s.made<=K)(r:Ret)(a:k.pb K):(nu r s k).pb K:=by
 unfold nu;cases k<;>simp only[]<;>(repeat' split)<;>first|trivial|exact⟨trivial,h⟩|exact JG h _ _ (xb _ _)|exact⟨a,h⟩|exact a|(rename_i p;show Lo K (-(p:Int)-2);unfold Lo;have:p<=K:=a;omega)
theorem EPh.q9(th a:Int)(h:z.made<=K){x:EPh}(c:x.pb K)(r:Int × Bool):(x.stp th a z r).pb (K+1):=by
 have b:z.got.made<=K+1:=by show z.made+1<=_;omega
 cases x with
 | sub x k=>
  have f:k.pb K:=c;exact vu (Sub.stp_mb th h x r) (f.more (oU K)) λt s d=>resE_pb d t (f.more (oU K))
 | u6 n w=>simp only[EPh.stp];split;exact⟨show z.made<=K+1 by omega,b⟩;exact⟨trivial,b⟩
 | u7 j n w p=>have e:p<=K:=c;simp only[EPh.stp];(repeat' split)<;>exact⟨show p<=K+1 by omega,b⟩
 | u8 n w p=>have e:p<=K:=c;simp only[EPh.stp];split;exact⟨trivial,b⟩;exact⟨show p<=K+1 by omega,b⟩
 | u9 n w p=>have e:p<=K:=c;exact⟨show p<=K+1 by omega,b⟩
 | o4 n p=>exact vu (Bc b _) (k:=.orr n ⟨r.1,O,p,[]⟩) (xb _ _) λ_ s d=>⟨show Lo _ _ from xb _ _,d⟩
 | _=>simp only[EPh.stp]<;>(repeat' split)<;>first|exact⟨trivial,b⟩ | exact xb _ _ | exact JG b _ _ (xb _ _) | exact popE_pb b
def CPh.pb:CPh->Prop
 | .sub _ (.oc o)=>0<=o.bc
 | _=>True
def CX.pb:CX->Prop
 | .go x _=>x.pb
 | .out o=>0<=o.bc
 | .stuck=>True
theorem BM{k:CK}(b:∀y,(CPh.sub y k).pb){f:Ret->Pz->CX}(a:∀r s,(f r s).pb):(x.oM k f).pb:=by
 cases x with
 | go x s=>exact b x
 | ret r s=>exact a r s
 | stuck=>trivial
theorem JJ(a:Int)(b:Bool)(n:Nat)(s:Pz):(iY a b n s).pb:=BM (k:=.oc ⟨a,b,n,[]⟩) (λ_=>Int.natCast_nonneg n) λ_ _=>Int.natCast_nonneg n
theorem resC_pb(r:Ret)(s:Pz){k:CK}(a:∀y,(CPh.sub y k).pb):(oS r s k).pb:=by
 unfold oS;cases k<;>simp only[]<;>(repeat' split)<;>first|trivial|exact JJ _ _ _ _|exact a .t1
theorem M8(bq a:Int)(i:Nat)(s:Pz):(jN bq a i s).pb:=by unfold jN;split<;>trivial
theorem Na(a:Int)(i:Nat)(s:Pz):(jO a i s).pb:=by unfold jO;split<;>trivial
theorem CPh.q9(th a:Int)(z:Pz){x:CPh}(c:x.pb)(r:Int × Bool):(x.stp th a z r).pb:=by
 cases x with
 | sub x k=>
  have b:∀y,(CPh.sub y k).pb:=λy=>by cases k<;>exact c
  exact BM b λt s=>resC_pb t s b
 | _=>simp only[CPh.stp]<;>(repeat' split)<;>first|trivial | exact JJ _ _ _ _ | exact M8 _ _ _ _ | exact Na _ _ _
def MX.pb:MX->Prop
 | .out o=>0<=o.bc
 | _=>True
theorem Jm(o:dx)(g:cq):(yn o g).pb:=Int.natCast_nonneg _
theorem Ir(x:LX)(dm:Bool)(sz:Int)(m:Nat)(lo:LOp){f:dx->Pz->MX}(a:∀o s,(f o s).pb):(x.inM dm sz m lo f).pb:=by
 cases x with
 | go x s=>trivial
 | out o s=>exact a o s
 | stuck=>trivial
theorem No(op:MOp)(sz:Int)(o:dx)(n:Nat)(g:cq):(gB op sz o n g).pb:=by unfold gB;(repeat' split)<;>first|trivial|exact Jm _ _
theorem Nh(op:MOp)(sz n:Int)(k:Nat)(g:cq):(iH op sz n k g).pb:=by
 unfold iH;split
 ·exact Ir _ _ _ _ _ λ_ _=>trivial
 trivial
theorem MPh.q9(th bk:Int)(op:MOp)(n:Nat)(g:cq)(x:MPh)(r:Int × Bool):(x.stp th bk op n g r).pb:=by
 cases x with
 | ml a c m b x s=>
  refine Ir _ _ _ _ _ λo s=>?_;cases a
  ·exact No _ _ _ _ _
  exact trivial
 | _=>simp only[MPh.stp]<;>(repeat' split)<;>first|trivial | exact Nh _ _ _ _ _ | exact Jm _ _ | exact Ir _ _ _ _ _ λ_ _=>trivial
def PX.pb(K:Nat):PX->Prop
 | .go (.m _ _ _)=>True
 | .go (.e x s)=>x.pb K/\s.made<=K
 | .go (.c x _)=>x.pb
 | .out o=>Lo K o.bc
 | .stuck=>True
theorem Ph.q9(th bk:Int)(op:Opr){x:Ph}(b:(PX.go x).pb K)(r:Int × Bool):(x.stp th bk op r).pb (K+1):=by
 cases x with
 | m x n g=>
  have h:=MPh.q9 th bk ⟨op.kind,op.a,op.b⟩ n g x r;show (x.stp th bk ⟨op.kind,op.a,op.b⟩ n g r).p.pb _;cases a:x.stp th bk ⟨op.kind,op.a,op.b⟩ n g r<;>rw[a]at h
  ·trivial
  ·rename_i o;have d:0<=o.bc:=h;show Lo _ o.bc;unfold Lo;omega
  trivial
 | e x z=>
  have h:=EPh.q9 th op.a b.2 b.1 r;show (x.stp th op.a z r).p.pb _;cases a:x.stp th op.a z r<;>rw[a]at h<;>exact h
 | c x z=>
  have h:=CPh.q9 th op.a z (x:=x) b r;show (x.stp th op.a z r).p.pb _;cases a:x.stp th op.a z r<;>rw[a]at h
  ·exact h
  ·rename_i o;have d:0<=o.bc:=h;show Lo _ o.bc;unfold Lo;omega
  trivial
theorem J9(op:Opr)(g:cq):(ee op g).pb 0:=by
 unfold ee te tf AF oN Jk
 (repeat' split)<;>first|trivial|exact⟨trivial,aq 0⟩
theorem JQ(th bk:Int)(op:Opr):∀(l:Log) (K:Nat) (p:PX),p.pb K->(IU th bk op p l).pb (K+l.length)
 | [],K,p,h=>by rw[iP];exact h
 | r :: l,K,p,h=>by
  cases p with
  | go x=>
   have:=JQ th bk op l (K+1) _ (Ph.q9 th bk op h r);rw[ku,show K+(l.length+1)=K+1+l.length by omega];exact this
  | out o=>exact Lo.more (show Lo K o.bc from h) M
  | stuck=>trivial
theorem curW_lo{S:Nat}{op:Opr}{x:fz}{o:Out}(h:jH S op x= .out o):-(x.log.length:Int)-2<=o.bc:=by
 have:=JQ ((2*S:Nat):Int) 2 op x.log 0 _ (J9 op x.gone);unfold jH at h;rw[h]at this;have a:Lo _ _:=this;unfold Lo at a;omega
end
section
variable {a b c n p:Int} {x:Sub}
structure Ab where
 mp:Int->Int->Prop
 st:List Int
 ch:List Int
def jo(m:Sm)(n:Int):List Int:=([m (.nd n 1),m (.nd n 2),m (.nd n 3),m (.nd n 4),m (.nd n 5)].filter λv=>decide (2<=v)).map (· - 2)
def InM(m:Sm)(g:Gh)(k v:Int):Prop:=(0<=k/\k<65536)/\∃n,g.st n= .li/\dH (m (.nd n 0))=X/\bT m n=eY k/\m (.nd n 2)=v
def dG(m:Sm)(g:Gh):Ab:=⟨InM m g,g.sk.map λn=>m (.nd n 1),g.sg.flatMap (jo m)⟩
inductive Ef where
 | no | put (k v:Int) | del (k:Int) | push (v:Int) | pop (v:Int) | send (v:Int) | recv (v:Int)
def Ef.ap:Ef->Ab->Ab
 | .no,c=>c
 | .put k v,c=>{ c with mp:=λa b=>a=k/\b=v\/c.mp a b }
 | .del k,c=>{ c with mp:=λa b=>a≠k/\c.mp a b }
 | .push v,c=>{ c with st:=v :: c.st }
 | .pop _,c=>{ c with st:=c.st.tail }
 | .send v,c=>{ c with ch:=c.ch++[v] }
 | .recv _,c=>{ c with ch:=c.ch.tail }
def Ef.pre:Ef->Ab->Prop
 | .put k _,c=>∀v,¬c.mp k v
 | .del k,c=>∃v,c.mp k v
 | .pop v,c=>c.st.head?=J v
 | .recv v,c=>c.ch.head?=J v
 | _,_=>True
section
variable {m m':Sm} {g g':Gh} {s t:Nat}
theorem B7(h:∀i,1<=i->i<=5->m' (.nd n i)=m (.nd n i)):jo m' n=jo m n:=by
 unfold jo;rw[h 1 zD zD,h 2 zD zD,h 3 zD zD,h 4 zD zD,h 5 zD zD]
theorem ke{l:List Int}(h:∀n∈l,∀i,1<=i->i<=5->m' (.nd n i)=m (.nd n i)):l.flatMap (jo m')=l.flatMap (jo m):=by
 induction l with
 | nil=>rfl
 | cons a l b=>
  rw[List.flatMap_cons,List.flatMap_cons,B7 (h a zS),b λn c=>h n (cM _ c)]
theorem ab_eq(b:∀k v,InM m' g' k v ↔ InM m g k v)(a:g'.sk.map (λn=>m' (.nd n 1))=g.sk.map λn=>m (.nd n 1))(c:g'.sg.flatMap (jo m')=g.sg.flatMap (jo m)):dG m' g'=dG m g:=by
 unfold dG;rw[a,c];congr 1
 funext k v
 exact propext (b k v)
theorem lO(c:∀n,g'.st n= .li ↔ g.st n= .li)(d:∀n,g.st n= .li->dH (m' (.nd n 0))=dH (m (.nd n 0)))(b:∀n i,i=1\/i=2->g.st n= .li->m' (.nd n i)=m (.nd n i))(k v:Int):InM m' g' k v ↔ InM m g k v:=by
 refine and_congr_right λ_=>exists_congr λn=>?_;rw[c];refine and_congr_right λa=>?_;rw[d n a,show bT m' n=bT m n from b n 1 (.inl Z) a,b n 2 (.inr Z) a]
theorem vi(e:∀n,g'.st n= .li ↔ g.st n= .li)(f:g'.sk=g.sk)(c:g'.sg=g.sg)(b:∀n i,0<=i->i<=5->(g.st n= .li\/n∈g.sk\/n∈g.sg)->m' (.nd n i)=m (.nd n i)):dG m' g'=dG m g:=by
 refine ab_eq (lO e (λn a=>by rw[b n 0 zD zD (.inl a)]) λn i hi a=>b n i M M (.inl a)) ?_ ?_
 ·rw[f];exact List.map_congr_left λn a=>b n 1 zD zD (.inr (.inl a))
 rw[c];exact ke λn a i h d=>b n i M d (.inr (.inr a))
theorem o7(x:Sub)(n i:Int)(hi:i<=5):(x.acc s).mem m (.nd n i)=m (.nd n i):=by
 cases x with
 | g1 j c=>rw[a8 Z]
 | g2 j c v=>rw[a8 Z]
 | g3 j c v=>rw[bF Z];rfl
 | t1=>rw[a8 Z]
 | t2 d=>rw[a8 Z]
 | t3 d f=>
  cases a:(((Sub.t3 d f).acc s).res m).2 with
  | false=>rw[bx Z a]
  | true=>rw[(bP Z a).2];rfl
 | t4 n p=>rw[a8 Z]
 | t5 n b p=>rw[bF Z];exact eV _ _ (by intro e;injection e with _ e;omega)
 | v1 n=>rw[a8 Z]
 | v2 n d=>rw[bF Z];exact eV _ _ (by intro e;injection e with _ e;omega)
 | v3 n d=>
  cases a:(((Sub.v3 n d).acc s).res m).2 with
  | false=>rw[bx Z a]
  | true=>rw[(bP Z a).2];rfl
 | cl i=>rw[bF Z];rfl
 | r1 n=>rw[a8 Z]
 | r2 n e=>rw[iR Z];rfl
theorem vF(x:Sub):(x.acc s).mem m .slot=m .slot:=by
 cases x with
 | t3 b c=>
  cases a:(((Sub.t3 b c).acc s).res m).2 with
  | false=>rw[bx Z a]
  | true=>rw[(bP Z a).2];rfl
 | v3 n b=>
  cases a:(((Sub.v3 n b).acc s).res m).2 with
  | false=>rw[bx Z a]
  | true=>rw[(bP Z a).2];rfl
 | _=>first|rw[a8 Z] | (rw[bF Z];rfl) | (rw[iR Z];rfl)
theorem uU(h:Gl m g)(i:jB s m g x)(n:Int){p:Pl}(o:∀t,p≠ .ow t)(u:p≠ .fr):(x.gst s g ((x.acc s).res m)).st n=p ↔ g.st n=p:=by
 have f:∀(a:Int) (q:Pl),(q= .fr\/∃t,q= .ow t)->(g.st a= .fr\/∃t,g.st a= .ow t)->(dO g.st a q n=p ↔ g.st n=p):=by
  intro a q v l;by_cases e:n=a
  ·subst e;rw[bn];constructor
   ·intro e;subst e;rcases v with e|⟨t,e⟩
    ·exact absurd e u
    exact absurd e (o t)
   intro e;rw[e]at l;rcases l with e|⟨t,e⟩
   ·exact absurd e u
   exact absurd e (o t)
  rw[br _ _ e]
 cases x with
 | t3 fr k=>
  cases b:(((Sub.t3 fr k).acc s).res m).2 with
  | false=>simp[Sub.gst,b]
  | true=>
   have c:=(bP (a:=(Sub.t3 fr k).acc s) Z b).1;have c:m .free=fr:=c;simp only[Sub.gst,b,if_true,Gh.take];refine f _ _ (.inr ⟨s,Z⟩) (.inl ?_);have hd:=pZ h;have d:idxOf (m .free)=g.fl.headD 0:=by rw[h.fw];exact gw _ _ _ hd.1 M
   rw[c]at d;have:=i.1.1;cases j:g.fl with
   | nil=>rw[j]at d;simp at d;omega
   | cons a r=>exact((h.fmem a).1 (by rw[j];simp)).2.2
 | v3 w fr=>
  cases b:(((Sub.v3 w fr).acc s).res m).2 with
  | false=>simp[Sub.gst,b]
  | true=>
   simp only[Sub.gst,b,if_true,Gh.oh];exact f _ _ (.inl Z) (.inr ⟨s,i.1⟩)
 | _=>exact Iff.rfl
theorem B0(x:Sub)(r:Int × Bool):(x.gst s g r).sk=g.sk/\(x.gst s g r).sg=g.sg/\(x.gst s g r).ls=g.ls:=by
 cases x<;>first|exact⟨Z,Z,Z⟩|(simp only[Sub.gst];split<;>exact⟨Z,Z,Z⟩)
theorem Hm(h:Gl m g)(a:jB s m g x):dG ((x.acc s).mem m) (x.gst s g ((x.acc s).res m))=dG m g:=
 vi (λn=>uU h a n zS zS) (B0 x _).1 (B0 x _).2.1 λn i c b _=>o7 x n i b
theorem JL{f k:Int->Int}:∀ {l:List Int},l.Pairwise (λa b=>k a<k b)->Chn f l->p∈l->∀x∈l,k x<=k p\/f p∈l/\k (f p)<=k x
 | [a],_,_,hp,x,hx=>by
  have j:p=a:=by simpa using hp
  have u:x=a:=by simpa using hx
  subst j u;exact .inl (Int.le_refl _)
 | a :: b :: r,hs,hc,hp,x,hx=>by
  obtain⟨q,e⟩:=nQ.1 hs;rcases aL.1 hp with rfl|d
  ·rcases aL.1 hx with rfl|c
   ·exact .inl (Int.le_refl _)
   refine .inr ⟨by rw[hc.1];simp,?_⟩;rw[hc.1];rcases aL.1 c with rfl|i
   ·exact Int.le_refl _
   exact Int.le_of_lt ((nQ.1 e).1 x i)
  rcases aL.1 hx with rfl|c
  ·exact .inl (Int.le_of_lt (q p d))
  rcases JL e hc.2 d x c with h|⟨o,n⟩
  ·exact .inl h
  exact .inr ⟨cM _ o,n⟩
theorem wV(h:Gl m g){o:Int}(d:(g.st p).isL=O)(f:m (.nd p 0)=aV c)(i:0<=c)(q:c<=40)(x:bT m p<o)(b:c=0\/o<bT m c)(k:g.st n= .li):bT m n≠o:=by
 intro e;obtain⟨w,u,j,v⟩:=iS h d i q f;rcases JL h.iX h.sa u n ((h.iu n).2 k)with a|⟨a,l⟩
 ·omega
 rw[j]at a l;rcases b with rfl|b
 ·have:=h.rng 0 (by rw[(h.iu 0).1 a];simp);omega
 omega
theorem Nt(h:Gl m g)(u:g.st a= .li)(n:g.st b= .li)(e:bT m a=bT m b):a=b:=by
 have j:∀ {l:List Int},l.Pairwise (λa b=>bT m a<bT m b)->a∈l->b∈l->a=b:=by
  intro l;induction l with
  | nil=>intro _ h;cases h
  | cons c l o=>
   intro k v i;obtain⟨p,q⟩:=nQ.1 k;rcases aL.1 v with rfl|f
   ·rcases aL.1 i with rfl|d
    ·rfl
    have:=p b d;omega
   rcases aL.1 i with rfl|d
   ·have:=p a f;omega
   exact o q f d
 exact j h.iX ((h.iu a).2 u) ((h.iu b).2 n)
theorem Hi(h:Gl m g){x:Int}(b:(g.st p).isL=O)(f:m (.nd p 0)=aV c)(w:(g.st c).isL=O)(y:0<=x)(B:x<=40)(o:m (.nd c 0)=eQ x):dG (bz m (.nd p 0) (aV x)) (g.unl s c)=dG m g:=by
 have C:=fX h w;obtain⟨D,-,-,-⟩:=iS h b M M f;have j:dH (m (.nd c 0))=O:=by rw[o];exact gu x
 have A:p≠c:=by rintro rfl;rw[f,cP]at j;cases j
 have d:∀n i,n≠p\/i≠0->bz m (.nd p 0) (aV x) (.nd n i)=m (.nd n i):=λn i hi=>dY m p 0 _ hi;have u:∀n∈g.sk,n≠p:=by rintro n a rfl;rw[(h.smem n).1 a]at b;cases b
 have q:∀n∈g.sg,n≠p:=by rintro n a rfl;rw[(h.cmem n).1 a]at b;cases b
 refine ab_eq (λk v=>and_congr_right λ_=>exists_congr λn=>?_) (List.map_congr_left λn a=>d n 1 (.inl (u n a))) (ke λn a i _ _=>d n i (.inl (q n a)));show dO g.st c (.dli s) n= .li/\_ ↔ _;by_cases e:n=c
 ·subst e;rw[bn];constructor
  ·rintro⟨e,-⟩;cases e
  rintro⟨-,e,-⟩;rw[j]at e;cases e
 rw[br _ _ e,show bT (bz m (.nd p 0) (aV x)) n=bT m n from d n 1 (.inr zD),d n 2 (.inr zD)];by_cases l:n=p
 ·subst l;rw[bU,cP,f,cP]
 rw[d n 0 (.inl l)]
def LPh.ef:LPh->Bool->Bool × Bool
 | .pc _ _ _,r=>(r,X)
 | .dm _ _ _,r=>(X,r)
 | _,_=>(X,X)
variable {op:LOp} {z:Pz}
def lEf(op:LOp)(x:LPh)(r:Bool)(k:Int):Ef:=if (x.ef r).1=O then(if op.o%2=1 then .put k op.v else .no)else if (x.ef r).2=O then .del k else .no
theorem Cg(A:0<=a/\a<65536)(w:0<=b/\b<65536)(h:eY a=eY b):a=b:=by
 have o:∀(i x y:Nat),x<2 ^ i->y<2 ^ i->rv i x=rv i y->x=y:=by
  intro i;induction i with
  | zero=>intro x y c f _;omega
  | succ i k=>
   intro x y c f e;have B:=Jf i (x / 2);have v:=Jf i (y / 2);unfold rv at e;rw[Nat.pow_succ]at c f;have j:x%2=0\/x%2=1:=M;have l:y%2=0\/y%2=1:=M;generalize 2 ^ i=q at *;have n:x%2=y%2/\rv i (x / 2)=rv i (y / 2):=by
    rcases j with p|p<;>rcases l with d|d<;>rw[p,d]at e ⊢<;>simp at e ⊢<;>omega
   have:=k (x / 2) (y / 2) M M n.2;omega
 have u:nt a=nt b:=by unfold eY at h;omega
 unfold nt at u;have:=o 16 (a%65536).toNat (b%65536).toNat M M M;omega
theorem LPh.cont(h:Gl m g){x:LPh}(hx:ui s m g op z x){k:Int}(X:op.o%2=1->(0<=k/\k<65536)/\op.o=eY k):
  dG ((x.acc s op).mem m) (x.gst s g op ((x.acc s op).res m))=(lEf op x ((x.acc s op).res m).2 k).ap (dG m g)/\(lEf op x ((x.acc s op).res m).2 k).pre (dG m g):=by
 have B:=hx.ok;have bq:∀(n i v:Int),g.st n= .ow s->dG (bz m (.nd n i) v) g=dG m g:=λn i v C=>vi (λ_=>Iff.rfl) Z Z λy j _ _ d=>dY m n i v (.inl (by
  rintro rfl;rcases d with d|d|d
  ·rw[C]at d;cases d
  ·rw[(h.smem _).1 d]at C;cases C
  rw[(h.cmem _).1 d]at C;cases C))
 cases x with
 | sub x L=>exact⟨Hm h B.1,trivial⟩
 | fs L f next told=>rw[a8 Z];exact⟨Z,trivial⟩
 | fo L f next told=>rw[a8 Z];exact⟨Z,trivial⟩
 | gv n p=>rw[a8 Z];exact⟨Z,trivial⟩
 | p1 n prev cur=>rw[bF Z];exact⟨bq n 1 _ B.2.1,trivial⟩
 | p2 n prev cur=>rw[bF Z];exact⟨bq n 2 _ B.2.1,trivial⟩
 | p0 n prev cur=>rw[bF Z];exact⟨bq n 0 _ B.2.1,trivial⟩
 | fc L f nx=>
  obtain⟨V,hf,K,E⟩:=B;have M:(g.st f.cur).isL=O:=by rcases hf.2.2.2.2.2 with h|h;exact absurd h K;exact h.1
  refine⟨?_,trivial⟩;show _=dG m g;cases l:(((LPh.fc L f nx).acc s op).res m).2 with
  | false=>rw[bx Z l];simp only[LPh.gst,l];rfl
  | true=>
   obtain⟨u,A⟩:=bP (a:=(LPh.fc L f nx).acc s op) Z l;rw[A];simp only[LPh.gst,l,if_true];exact Hi h hf.2.2.2.1 u M E.1 E.2.1 E.2.2
 | du prev cur next p=>
  obtain⟨-,-,qa,K,E⟩:=B;have M:(g.st cur).isL=O:=by rcases qa.2.2 with h|h;exact absurd h K;exact h.1
  refine⟨?_,trivial⟩;show _=dG m g;cases l:(((LPh.du prev cur next p).acc s op).res m).2 with
  | false=>rw[bx Z l];simp only[LPh.gst,l];rfl
  | true=>
   obtain⟨u,A⟩:=bP (a:=(LPh.du prev cur next p).acc s op) Z l;rw[A];simp only[LPh.gst,l,if_true];exact Hi h qa.1 u M E.1 E.2.1 E.2.2
 | pc n prev cur=>
  obtain⟨-,C,J,Ix,va,Iy⟩:=B;cases l:(((LPh.pc n prev cur).acc s op).res m).2 with
  | false=>
   rw[bx Z l];simp only[LPh.gst,l];exact⟨Z,trivial⟩
  | true=>
   obtain⟨u,A⟩:=bP (a:=(LPh.pc n prev cur).acc s op) Z l;have u:m (.nd prev 0)=aV cur:=u;have P:0<=cur/\cur<=40:=by
    rcases J.2.2 with e|e
    ·omega
    have:=fX h e.1;omega
   obtain⟨F,-,-,-⟩:=iS h J.1 P.1 P.2 u;have hnp:n≠prev:=by rintro rfl;rw[C]at F;cases F
   have A:((LPh.pc n prev cur).acc s op).mem m=bz m (.nd prev 0) (aV n):=A;rw[A];simp only[LPh.gst,l,if_true];have o:∀y i,y≠prev\/i≠0->bz m (.nd prev 0) (aV n) (.nd y i)=m (.nd y i):=λy i hi=>dY m prev 0 _ hi;have T:∀y∈g.sk,y≠prev:=by rintro y d rfl;rw[(h.smem y).1 d]at F;cases F
   have U:∀y∈g.sg,y≠prev:=by rintro y d rfl;rw[(h.cmem y).1 d]at F;cases F
   have no:∀y,g.st y= .li->bT m y≠op.o:=λy d=>wV h J.1 u P.1 P.2 J.2.1 (J.2.2.imp_right λe=>e.2) d;have W:∀q v',InM (bz m (.nd prev 0) (aV n)) (g.ins prev n (qz op.o)) q v' ↔ ((0<=q/\q<65536)/\op.o=eY q/\op.v=v')\/InM m g q v':=by
    intro q v';have R:∀y,dO g.st n .li y= .li/\dH (bz m (.nd prev 0) (aV n) (.nd y 0))=false/\bT (bz m (.nd prev 0) (aV n)) y=eY q/\bz m (.nd prev 0) (aV n) (.nd y 2)=v' ↔ (y=n/\op.o=eY q/\op.v=v')\/(g.st y= .li/\dH (m (.nd y 0))=false/\bT m y=eY q/\m (.nd y 2)=v'):=by
     intro y;rw[show bT (bz m (.nd prev 0) (aV n)) y=bT m y from o y 1 (.inr zD),o y 2 (.inr zD)];by_cases e:y=n
     ·subst e;rw[bn,o y 0 (.inl hnp),Iy,cP,show bT m y=op.o from Ix,va,C];simp
     rw[br _ _ e];by_cases qb:y=prev
     ·subst qb;rw[bU,cP,u,cP];simp[e]
     rw[o y 0 (.inl qb)];simp[e]
    unfold InM;show (_/\∃y,dO g.st n .li y= .li/\_) ↔ _;constructor
    ·rintro⟨w,y,d⟩;rcases (R y).1 d with⟨-,a,b⟩|d
     ·exact .inl ⟨w,a,b⟩
     exact .inr ⟨w,y,d⟩
    rintro (⟨w,a,b⟩|⟨w,y,d⟩)
    ·exact⟨w,n,(R n).2 (.inl ⟨Z,a,b⟩)⟩
    exact⟨w,y,(R y).2 (.inr d)⟩
   have uB:dG (bz m (.nd prev 0) (aV n)) (g.ins prev n (qz op.o))=⟨InM (bz m (.nd prev 0) (aV n)) (g.ins prev n (qz op.o)),(dG m g).st,(dG m g).ch⟩:=by
    unfold dG;congr 1
    ·exact List.map_congr_left λy d=>o y 1 (.inl (T y d))
    exact ke λy d i _ _=>o y i (.inl (U y d))
   rw[uB];simp only[lEf,LPh.ef,if_true];by_cases ho:op.o%2=1
   ·obtain⟨N,D⟩:=X ho;rw[if_pos ho];refine⟨?_,?_⟩
    ·simp only[Ef.ap];congr 1
     funext q v'
     refine propext ((W q v').trans (or_congr_left ⟨?_,?_⟩))
     ·rintro⟨a,b,c⟩;exact⟨Cg a N (b.symm.trans D),c.symm⟩
     rintro⟨rfl,rfl⟩;exact⟨N,D,rfl⟩
    rintro v ⟨-,y,d,-,hky,-⟩;exact no y d (hky.trans D.symm)
   rw[if_neg ho];refine⟨?_,trivial⟩;show _=dG m g
   conv=>rhs;unfold dG
   simp only[dG];congr 1
   funext q v'
   refine propext ((W q v').trans ⟨?_,.inr⟩);rintro (⟨a,b,c⟩|e)
   ·have:=(nv q).2.2.1;omega
   exact e
 | dm prev cur next=>
  obtain⟨-,hodd,qa,K,S,hnm,hrd⟩:=B;have M:(g.st cur).isL=O:=by rcases qa.2.2 with h|h;exact absurd h K;exact h.1
  obtain⟨N,D⟩:=X hodd;cases l:(((LPh.dm prev cur next).acc s op).res m).2 with
  | false=>
   rw[bx Z l];simp only[LPh.gst,l];exact⟨Z,trivial⟩
  | true=>
   obtain⟨u,A⟩:=bP (a:=(LPh.dm prev cur next).acc s op) Z l;have u:m (.nd cur 0)=next:=u
   have Y:dH (m (.nd cur 0))=false:=by rw[u];exact hnm
   have H:=xe h M Y;rw[A];simp only[LPh.gst,l,if_true];have o:∀y i,y≠cur\/i≠0->bz m (.nd cur 0) (eQ (idxOf next)) (.nd y i)=m (.nd y i):=λy i hi=>dY m cur 0 _ hi;have T:∀y∈g.sk,y≠cur:=by rintro y d rfl;rw[(h.smem y).1 d]at H;cases H
   have U:∀y∈g.sg,y≠cur:=by rintro y d rfl;rw[(h.cmem y).1 d]at H;cases H
   refine⟨?_,_,N,cur,H,Y,S.trans D,Z⟩;simp only[lEf,LPh.ef,if_true];show dG (bz m (.nd cur 0) (eQ (idxOf next))) g.mark=_;unfold dG;simp only[Ef.ap];congr 1
   ·funext q v'
    refine propext ⟨?_,?_⟩
    ·rintro⟨w,y,d,I,G,Q⟩;have e:y≠cur:=by
      rintro rfl;have:bz m (.nd y 0) (eQ (idxOf next)) (.nd y 0)=eQ (idxOf next):=bU _ _ _;rw[this,gu]at I;cases I
     rw[o y 0 (.inl e)]at I;rw[show bT (bz m (.nd cur 0) (eQ (idxOf next))) y=bT m y from o y 1 (.inl e)]at G;rw[o y 2 (.inl e)]at Q;refine⟨?_,w,y,d,I,G,Q⟩;rintro rfl;exact e (Nt h d H (G.trans (D.symm.trans S.symm)))
    rintro⟨V,w,y,d,I,G,Q⟩;have e:y≠cur:=by
     rintro rfl;exact V (Cg w N (G.symm.trans (S.trans D)))
    exact⟨w,y,d,by rw[o y 0 (.inl e)];exact I,(show bT (bz m (.nd cur 0) (eQ (idxOf next))) y=bT m y from o y 1 (.inl e)).trans G,by rw[o y 2 (.inl e)];exact Q⟩
   ·exact List.map_congr_left λy d=>o y 1 (.inl (T y d))
   exact ke λy d i _ _=>o y i (.inl (U y d))
end
end
section
variable {i n v:Int} {c:Loc}
section
variable {m m':Sm} {g g':Gh} {s t:Nat}
def jq(l:List Int):List Int:=(l.filter λv=>decide (2<=v)).map (· - 2)
theorem vM(a b:List Int):jq (a++b)=jq a++jq b:=by unfold jq;rw[List.filter_append,List.map_append]
theorem nh(m:Sm)(n:Int):jo m n=jq [m (.nd n 1),m (.nd n 2),m (.nd n 3),m (.nd n 4),m (.nd n 5)]:=Z
structure Li (m:Sm) (g:Gh):Prop where
 fo:∀n,g.st n= .sg->∀i j,1<=i->i<j->j<=5->m (.nd n j)≠0->m (.nd n i)≠0
 rc:∀n,g.st n= .sg->n≠2->∀i,1<=i->i<=5->m (.nd n i)≠1
theorem Li.aw(h:Li m g)(e:∀n,g'.st n= .sg ↔ g.st n= .sg)(d:∀n i,g.st n= .sg->1<=i->i<=5->m' (.nd n i)=m (.nd n i)):Li m' g':=by
 refine⟨λn b i j c o k=>?_,λn b l i c f=>?_⟩
 ·have b:=(e n).1 b;rw[d n j b M k,d n i b c M];exact h.fo n b i j c o k
 have b:=(e n).1 b;rw[d n i b c f];exact h.rc n b l i c f
theorem Ic(h:Gl m g)(c:g.st n= .ow s):dG (bz m (.nd n i) v) g=dG m g:=vi (λ_=>Iff.rfl) Z Z λy j _ _ b=>dY m n i v (.inl (by
 rintro rfl;rcases b with b|b|b
 ·rw[c]at b;cases b
 ·rw[(h.smem _).1 b]at c;cases c
 rw[(h.cmem _).1 b]at c;cases c))
theorem rC(b:∀n i,c≠ .nd n i):dG (bz m c v) g=dG m g:=vi (λ_=>Iff.rfl) Z Z λn i _ _ _=>eV m v λe=>b n i e.symm
theorem tG(L:Li m g)(c:g.st n= .ow s):Li (bz m (.nd n i) v) g:=L.aw (λ_=>Iff.rfl) λy j b _ _=>dY m n i v (.inl (by rintro rfl;rw[c]at b;cases b))
theorem tV(L:Li m g)(b:∀n i,c≠ .nd n i):Li (bz m c v) g:=L.aw (λ_=>Iff.rfl) λn i _ _ _=>eV m v λe=>b n i e.symm
def mEf(op:MOp):MPh->Bool->Ef
 | .ml _ _ _ lo y _,r=>lEf lo y r op.a
 | _,_=>.no
theorem MPh.cont(h:Gl m g){op:MOp}{gn:cq}{x:MPh}(f:xS s m g op gn x):
  dG ((x.acc s).mem m) (x.gst s g ((x.acc s).res m))=(mEf op x ((x.acc s).res m).2).ap (dG m g)/\(mEf op x ((x.acc s).res m).2).pre (dG m g):=by
 have j:=f.ok;cases x with
 | m1=>rw[a8 Z];exact⟨Z,trivial⟩
 | m2 c b=>rw[a8 Z];exact⟨Z,trivial⟩
 | m3 c=>rw[a8 Z];exact⟨Z,trivial⟩
 | ml l c A w y z=>
  obtain⟨v,-,-,u,q⟩:=j;refine LPh.cont h v (k:=op.a) λho=>⟨f.a,?_⟩;cases l with
  | false=>exact(q Z).2.1
  | true=>rw[(u Z).1]at ho;exact absurd ho zD
 | m4 c n=>
  refine⟨?_,trivial⟩;show _=dG m g;cases d:(((MPh.m4 c n).acc s).res m).2 with
  | false=>rw[bx Z d];rfl
  | true=>rw[(bP Z d).2];exact rC (by intro n i e;cases e)
 | m5 c o=>refine⟨?_,trivial⟩;rw[iR Z];exact rC (by intro n i e;cases e)
 | m6 c o=>
  refine⟨?_,trivial⟩;show _=dG m g;cases d:(((MPh.m6 c o).acc s).res m).2 with
  | false=>rw[bx Z d];rfl
  | true=>rw[(bP Z d).2];exact rC (by intro n i e;cases e)
 | m7 o=>refine⟨?_,trivial⟩;rw[iR Z];exact rC (by intro n i e;cases e)
variable {a:Int} {z:Pz}
def eEf(a:Int)(m:Sm):EPh->Bool->Ef
 | .u4 _ _,r=>if r then .push a else .no
 | .o3 dq _,r=>if r then .pop (m (.nd (idxOf dq) 1))else .no
 | _,_=>.no
theorem ng{a:Int}{q p:Pl}(f:Int->Pl)(b:q≠p)(c:f a≠p):dO f a q n=p ↔ f n=p:=by
 by_cases e:n=a
 ·subst e;rw[bn];exact⟨λe=>absurd e b,λe=>absurd e c⟩
 rw[br _ _ e]
theorem EPh.cont(h:Gl m g){x:EPh}(d:xW s m g a z x):
  dG ((x.acc s a).mem m) (x.gst s g ((x.acc s a).res m))=(eEf a m x ((x.acc s a).res m).2).ap (dG m g)/\(eEf a m x ((x.acc s a).res m).2).pre (dG m g):=by
 have f:=d.ok;have o:∀(x:EPh),(x.acc s a).k=3->(x.acc s a).c= .slot->dG ((x.acc s a).mem m) g=dG m g:=by
  intro x u c;cases b:((x.acc s a).res m).2 with
  | false=>rw[bx u b]
  | true=>rw[(bP u b).2,c];exact rC (by intro n i e;cases e)
 cases x with
 | sub x G=>exact⟨Hm h f.1,trivial⟩
 | u1 n=>rw[bF Z];exact⟨Ic h f,trivial⟩
 | u2 n=>rw[a8 Z];exact⟨Z,trivial⟩
 | u3 n dq=>rw[bF Z];exact⟨Ic h f.1,trivial⟩
 | u4 n dq=>
  obtain⟨D,E,q⟩:=f;cases b:(((EPh.u4 n dq).acc s a).res m).2 with
  | false=>rw[bx Z b];simp only[EPh.gst,b];exact⟨Z,trivial⟩
  | true=>
   have l:((EPh.u4 n dq).acc s a).mem m=bz m .top (dC dq n):=(bP Z b).2;rw[l];simp only[EPh.gst,b,if_true];refine⟨?_,trivial⟩;have c:∀y i,bz m .top (dC dq n) (.nd y i)=m (.nd y i):=λy i=>eV m _ zS;simp only[eEf,Ef.ap,dG,if_true,Gh.push];congr 1
   ·funext k v
    exact propext (lO (λy=>ng _ zS (by rw[D];simp)) (λy _=>by rw[c]) (λy i _ _=>c y i) k v)
   rw[s8,c,E];congr 1
 | u5 n=>rw[a8 Z];exact⟨Z,trivial⟩
 | u6 n w=>exact⟨o (.u6 n w) Z Z,trivial⟩
 | u7 j n w p=>rw[a8 Z];exact⟨Z,trivial⟩
 | u8 n w p=>exact⟨o (.u8 n w p) Z Z,trivial⟩
 | u9 n w p=>rw[bF Z];exact⟨rC (by intro n i e;cases e),trivial⟩
 | o2 dq=>rw[a8 Z];exact⟨Z,trivial⟩
 | o3 dq below=>
  obtain⟨q,H,I⟩:=f;cases b:(((EPh.o3 dq below).acc s a).res m).2 with
  | false=>rw[bx Z b];simp only[EPh.gst,b];exact⟨Z,trivial⟩
  | true=>
   have B:m .top=dq:=(bP (a:=(EPh.o3 dq below).acc s a) Z b).1;have l:((EPh.o3 dq below).acc s a).mem m=bz m .top (dC dq below):=(bP Z b).2;rw[l];simp only[EPh.gst,b,if_true];have hi:=pY h;rw[B]at hi;obtain⟨x,r,d⟩:∃x r,g.sk=x :: r:=by
    cases A:g.sk with
    | nil=>rw[A]at hi;exact absurd hi q
    | cons x r=>exact⟨x,r,Z⟩
   have C:idxOf dq=x:=by rw[hi,d];rfl
   have F:=(h.smem x).1 (by rw[d];simp);have c:∀y i,bz m .top (dC dq below) (.nd y i)=m (.nd y i):=λy i=>eV m _ zS;refine⟨?_,?_⟩
   ·simp only[eEf,Ef.ap,dG,if_true,Gh.pop];congr 1
    ·funext k v
     exact propext (lO (λy=>ng _ zS (by rw[d];show g.st x≠_;rw[F];simp)) (λy _=>by rw[c]) (λy i _ _=>c y i) k v)
    rw[d];exact List.map_congr_left λy _=>c y 1
   simp only[eEf,Ef.pre,dG,if_true];rw[d,C];rfl
 | o4 n p=>rw[a8 Z];exact⟨Z,trivial⟩
 | o5=>rw[a8 Z];exact⟨Z,trivial⟩
 | o6 w=>exact⟨o (.o6 w) Z Z,trivial⟩
def cEf(a:Int):CPh->Bool->Ef
 | .s3 _ _ _,r=>if r then .send a else .no
 | .s6 _ _,r=>if r then .send a else .no
 | .r3 _ _ has,r=>if r then .recv (has-2)else .no
 | _,_=>.no
def CHd:CPh->Prop
 | .sub (.g2 _ .head v) .rg=>idxOf v=2
 | .r2 b _ | .r3 b _ _ | .r4 b=>idxOf b=2
 | _=>True
theorem Mj(h:Gl m g)(e:g.st n= .sg)(c:m (.nd n 0)=0):∃r,g.sg=r++[n]/\n∉r:=by
 obtain⟨r,b⟩:=xI h.cch h.cnd (λy f=>by have:=tq h f;omega) ((h.cmem n).2 e) c;have:=h.cnd;rw[b]at this;exact⟨r,b,λd=>(List.nodup_append.1 this).2.2 n d n zS Z⟩
theorem B6{c1 c2 c3 c4 c5:Int}(e:0<=a):jq [c1,c2,c3,c4,a+2]=jq [c1,c2,c3,c4,0]++[a]/\jq [c1,c2,c3,a+2,0]=jq [c1,c2,c3,0,0]++[a]/\jq [c1,c2,a+2,0,0]=jq [c1,c2,0,0,0]++[a]/\jq [c1,a+2,0,0,0]=jq [c1,0,0,0,0]++[a]/\jq [a+2,0,0,0,0]=jq [0,0,0,0,0]++[a]:=by
 have d:jq [a+2]=[a]:=by unfold jq;rw[List.filter_cons_of_pos zP];show [a+2-2]=[a];congr 1;omega
 have e0:∀n,jq (fV n 0)=[]:=λn=>by unfold jq;rw[List.filter_eq_nil_iff.2 (by intro x c;rw[List.eq_of_mem_replicate c];decide)];rfl
 have b:∀(l:List Int) (n:Nat),jq (l++((a+2) :: fV n 0))=jq (l++(0 :: fV n 0))++[a]:=by
  intro l n;rw[vM,vM,show (a+2) :: fV n 0=[a+2]++fV n 0 from Z,vM,d,e0,show (0:Int) :: fV n 0=fV (n+1) 0 from Z,e0];simp
 exact⟨b [c1,c2,c3,c4] 0,b [c1,c2,c3] 1,b [c1,c2] 2,b [c1] 3,b [] 4⟩
theorem CPh.cont(h:Gl m g)(L:Li m g){x:CPh}(hx:yJ s m g a z x)(H:CHd x):
  (dG ((x.acc s a).mem m) (x.gst s g ((x.acc s a).res m))=(cEf a x ((x.acc s a).res m).2).ap (dG m g)/\(cEf a x ((x.acc s a).res m).2).pre (dG m g))/\Li ((x.acc s a).mem m) (x.gst s g ((x.acc s a).res m)):=by
 have I:=hx.ok;have ha:=hx.av;have tail:∀(x:CPh),(x.acc s a).k=3->(x.acc s a).c= .tail->dG ((x.acc s a).mem m) g=dG m g/\Li ((x.acc s a).mem m) g:=by
  intro x hk hc;cases o:((x.acc s a).res m).2 with
  | false=>rw[bx hk o];exact⟨Z,L⟩
  | true=>rw[(bP hk o).2,hc];exact⟨rC (by intro n i e;cases e),tV L (by intro n i e;cases e)⟩
 cases x with
 | sub x kk=>exact⟨⟨Hm h I.1,trivial⟩,L.aw (λn=>uU h I.1 n zS zS) λn i _ _ h5=>o7 x n i h5⟩
 | s2 n d i=>rw[a8 Z];exact⟨⟨Z,trivial⟩,L⟩
 | s4 n d=>rw[a8 Z];exact⟨⟨Z,trivial⟩,L⟩
 | r2 d i=>rw[a8 Z];exact⟨⟨Z,trivial⟩,L⟩
 | r4 d=>rw[a8 Z];exact⟨⟨Z,trivial⟩,L⟩
 | s5 n d nx=>exact⟨⟨(tail (.s5 n d nx) Z Z).1,trivial⟩,(tail (.s5 n d nx) Z Z).2⟩
 | s7 n d p=>exact⟨⟨(tail (.s7 n d p) Z Z).1,trivial⟩,(tail (.s7 n d p) Z Z).2⟩
 | fl n d j=>rw[bF Z];exact⟨⟨Ic h I.1,trivial⟩,tG L I.1⟩
 | s3 bq d i=>
  obtain⟨-,B,hi,qc⟩:=I;cases o:(((CPh.s3 bq d i).acc s a).res m).2 with
  | false=>rw[bx Z o];simp only[CPh.gst,o];exact⟨⟨Z,trivial⟩,L⟩
  | true=>
   obtain⟨n,W⟩:=nM (idxOf d);have u:m (.nd (idxOf d) (1+i))=0:=(bP (a:=(CPh.s3 bq d i).acc s a) Z o).1;have Q:((CPh.s3 bq d i).acc s a).mem m=bz m (.nd (idxOf d) (1+i)) (a+2):=(bP Z o).2;rw[Q];simp only[CPh.gst,o,if_true];rw[W]at B qc u ⊢;have E:∀j:Int,1+i<j->j<=5->m (.nd n j)=0:=λj h1 h5=>db λb=>L.fo n B (1+i) j zO h1 h5 b u;have h0:m (.nd n 0)=0:=db λb=>h.cful n ((h.cmem n).2 B) b (1+i) zO zO u;obtain⟨r,S,hnr⟩:=Mj h B h0;have b:∀(y j:Int),y≠n\/j≠1+i->bz m (.nd n (1+i)) (a+2) (.nd y j)=m (.nd y j):=λy j T=>dY m n _ _ T;have A:bz m (.nd n (1+i)) (a+2) (.nd n (1+i))=a+2:=bU _ _ _;have N:jo (bz m (.nd n (1+i)) (a+2)) n=jo m n++[a]:=by
    rw[nh,nh];obtain⟨q1,q2,q3,q4,G⟩:=B6 (a:=a) (c1:=m (.nd n 1)) (c2:=m (.nd n 2)) (c3:=m (.nd n 3)) (c4:=m (.nd n 4)) (c5:=0) ha.1;rcases (show i=0\/i=1\/i=2\/i=3\/i=4 by omega)with rfl|rfl|rfl|rfl|rfl
    ·rw[show (1:Int)+((0:Nat):Int)=1 from Z]at *;rw[A,b n 2 (.inr zD),b n 3 (.inr zD),b n 4 (.inr zD),b n 5 (.inr zD),u,E 2 zD zD,E 3 zD zD,E 4 zD zD,E 5 zD zD];exact G
    ·rw[show (1:Int)+((1:Nat):Int)=2 from Z]at *;rw[A,b n 1 (.inr zD),b n 3 (.inr zD),b n 4 (.inr zD),b n 5 (.inr zD),u,E 3 zD zD,E 4 zD zD,E 5 zD zD];exact q4
    ·rw[show (1:Int)+((2:Nat):Int)=3 from Z]at *;rw[A,b n 1 (.inr zD),b n 2 (.inr zD),b n 4 (.inr zD),b n 5 (.inr zD),u,E 4 zD zD,E 5 zD zD];exact q3
    ·rw[show (1:Int)+((3:Nat):Int)=4 from Z]at *;rw[A,b n 1 (.inr zD),b n 2 (.inr zD),b n 3 (.inr zD),b n 5 (.inr zD),u,E 5 zD zD];exact q2
    rw[show (1:Int)+((4:Nat):Int)=5 from Z]at *;rw[A,b n 1 (.inr zD),b n 2 (.inr zD),b n 3 (.inr zD),b n 4 (.inr zD),u];exact q1
   have F:∀y p,g.st y=p->p≠ .sg->y≠n:=by rintro y p c P rfl;rw[B]at c;exact P c.symm
   refine⟨⟨?_,trivial⟩,?_⟩
   ·simp only[cEf,Ef.ap,dG,if_true,Gh.eff];congr 1
    ·funext k v
     exact propext (lO (λy=>Iff.rfl) (λy c=>by rw[b y 0 (.inl (F y _ c zS))]) (λy j _ c=>b y j (.inl (F y _ c zS))) k v)
    ·exact List.map_congr_left λy c=>b y 1 (.inl (F y _ ((h.smem y).1 c) zS))
    rw[S,List.flatMap_append,List.flatMap_append];show _++(jo _ n++[])=(_++(jo _ n++[]))++[a];rw[List.append_nil,List.append_nil,N,<- List.append_assoc];congr 1;congr 1;exact ke λy c j _ _=>b y j (.inl (by rintro rfl;exact hnr c))
   refine⟨λy c p q w qa G D=>?_,λy c J p w M=>?_⟩
   ·by_cases e:y=n
    ·subst e;by_cases qb:p=1+i
     ·subst qb;rw[A];omega
     rw[b y p (.inr qb)];by_cases U:q=1+i
     ·subst U;exact qc p w zO
     rw[b y q (.inr U)]at D;exact L.fo y B p q w qa G D
    rw[b y q (.inl e)]at D;rw[b y p (.inl e)];exact L.fo y c p q w qa G D
   by_cases e:y=n/\p=1+i
   ·obtain⟨rfl,rfl⟩:=e;rw[A];omega
   rw[b y p zO];exact L.rc y c J p w M
 | s6 bq d=>
  obtain⟨W,hmi,B,qc⟩:=I;cases o:(((CPh.s6 bq d).acc s a).res m).2 with
  | false=>rw[bx Z o];simp only[CPh.gst,o];exact⟨⟨Z,trivial⟩,L⟩
  | true=>
   obtain⟨x,NA⟩:∃n,idxOf d=n:=⟨_,Z⟩;have u:m (.nd (idxOf d) 0)=0:=(bP (a:=(CPh.s6 bq d).acc s a) Z o).1;have Q:((CPh.s6 bq d).acc s a).mem m=bz m (.nd (idxOf d) 0) bq:=(bP Z o).2;rw[Q];simp only[CPh.gst,o,if_true];rw[NA]at B qc u ⊢;have hr1:=h.rng bq (by rw[W];simp);obtain⟨m0,qd,K⟩:=hmi zO;have b:∀(y j:Int),y≠x\/j≠0->bz m (.nd x 0) bq (.nd y j)=m (.nd y j):=λy j T=>dY m x 0 _ T;have F:∀y p,g.st y=p->p≠ .sg->y≠x:=by rintro y p c P rfl;rw[B]at c;exact P c.symm
   have N:jo (bz m (.nd x 0) bq) bq=[a]:=by
    rw[nh,b bq 1 (.inr zD),b bq 2 (.inr zD),b bq 3 (.inr zD),b bq 4 (.inr zD),b bq 5 (.inr zD),qd,K 2 zD zD,K 3 zD zD,K 4 zD zD,K 5 zD zD];rw[(B6 (a:=a) (c1:=0) (c2:=0) (c3:=0) (c4:=0) (c5:=0) ha.1).2.2.2.2];rfl
   refine⟨⟨?_,trivial⟩,?_⟩
   ·simp only[cEf,Ef.ap,dG,if_true,Gh.app];congr 1
    ·funext k v
     exact propext (lO (λy=>ng _ zS (by rw[W];simp)) (λy c=>by rw[b y 0 (.inl (F y _ c zS))]) (λy j _ c=>b y j (.inl (F y _ c zS))) k v)
    ·exact List.map_congr_left λy c=>b y 1 (.inr zD)
    rw[List.flatMap_append];show _++(jo _ bq++[])=_;rw[List.append_nil,N];congr 1;exact ke λy c j j1 _=>b y j (.inr zO)
   refine⟨λy c p q w qa G D=>?_,λy c J p w M=>?_⟩
   ·rw[b y p (.inr zO)];rw[b y q (.inr zO)]at D;by_cases e:y=bq
    ·subst e;by_cases Y:p=1
     ·subst Y;rw[qd];omega
     exact absurd (K q zO G) D
    have c:dO g.st bq .sg y= .sg:=c;rw[br _ _ e]at c;exact L.fo y c p q w qa G D
   rw[b y p (.inr zO)];by_cases e:y=bq
   ·subst e;by_cases Y:p=1
    ·subst Y;rw[qd];omega
    rw[K p zO M];decide
   have c:dO g.st bq .sg y= .sg:=c;rw[br _ _ e]at c;exact L.rc y c J p w M
 | r3 d i has=>
  obtain⟨B,hi,C,hh0,hh1,-⟩:=I;have H2:idxOf d=2:=H;cases o:(((CPh.r3 d i has).acc s a).res m).2 with
  | false=>rw[bx Z o];simp only[CPh.gst,o];exact⟨⟨Z,trivial⟩,L⟩
  | true=>
   have u:m (.nd (idxOf d) (1+i))=has:=(bP (a:=(CPh.r3 d i has).acc s a) Z o).1;have Q:((CPh.r3 d i has).acc s a).mem m=bz m (.nd (idxOf d) (1+i)) 1:=(bP Z o).2;rw[Q];simp only[CPh.gst,o,if_true];rw[H2]at B C u ⊢;have hh2:2<=has:=by have:=(h.cval 2 ((h.cmem 2).2 B) (1+i) zO zO).1;omega
   obtain⟨r,S⟩:=h.c2;have hnr:(2:Int)∉r:=by have:=h.cnd;rw[S]at this;exact(cS.1 this).1
   have b:∀(y j:Int),y≠2\/j≠1+i->bz m (.nd 2 (1+i)) 1 (.nd y j)=m (.nd y j):=λy j T=>dY m 2 _ _ T;have A:bz m (.nd 2 (1+i)) 1 (.nd 2 (1+i))=1:=bU _ _ _;have F:∀y p,g.st y=p->p≠ .sg->y≠2:=by rintro y p c P rfl;rw[B]at c;exact P c.symm
   have N:jo m 2=(has-2) :: jo (bz m (.nd 2 (1+i)) 1) 2:=by
    have f:∀l,jq (1 :: l)=jq l:=λl=>by unfold jq;rw[List.filter_cons_of_neg zD]
    have R:∀l,jq (has :: l)=(has-2) :: jq l:=λl=>by unfold jq;rw[List.filter_cons_of_pos (by simp;exact hh2)];rfl
    rw[nh,nh];rcases (show i=0\/i=1\/i=2\/i=3\/i=4 by omega)with rfl|rfl|rfl|rfl|rfl
    ·rw[show (1:Int)+((0:Nat):Int)=1 from Z]at *;rw[A,b 2 2 (.inr zD),b 2 3 (.inr zD),b 2 4 (.inr zD),b 2 5 (.inr zD),u,f,R]
    ·rw[show (1:Int)+((1:Nat):Int)=2 from Z]at *;rw[A,b 2 1 (.inr zD),b 2 3 (.inr zD),b 2 4 (.inr zD),b 2 5 (.inr zD),u,C 1 zD zD,f,f,f,R]
    ·rw[show (1:Int)+((2:Nat):Int)=3 from Z]at *;rw[A,b 2 1 (.inr zD),b 2 2 (.inr zD),b 2 4 (.inr zD),b 2 5 (.inr zD),u,C 1 zD zD,C 2 zD zD,f,f,f,f,f,R]
    ·rw[show (1:Int)+((3:Nat):Int)=4 from Z]at *;rw[A,b 2 1 (.inr zD),b 2 2 (.inr zD),b 2 3 (.inr zD),b 2 5 (.inr zD),u,C 1 zD zD,C 2 zD zD,C 3 zD zD,f,f,f,f,f,f,f,R]
    rw[show (1:Int)+((4:Nat):Int)=5 from Z]at *;rw[A,b 2 1 (.inr zD),b 2 2 (.inr zD),b 2 3 (.inr zD),b 2 4 (.inr zD),u,C 1 zD zD,C 2 zD zD,C 3 zD zD,C 4 zD zD,f,f,f,f,f,f,f,f,f,R]
   refine⟨⟨?_,?_⟩,?_⟩
   ·simp only[cEf,Ef.ap,dG,if_true,Gh.eff];congr 1
    ·funext k v
     exact propext (lO (λy=>Iff.rfl) (λy c=>by rw[b y 0 (.inl (F y _ c zS))]) (λy j _ c=>b y j (.inl (F y _ c zS))) k v)
    ·exact List.map_congr_left λy c=>b y 1 (.inl (F y _ ((h.smem y).1 c) zS))
    rw[S,List.flatMap_cons,List.flatMap_cons,N,List.cons_append,List.tail_cons];congr 1;exact ke λy c j _ _=>b y j (.inl (by rintro rfl;exact hnr c))
   ·simp only[cEf,Ef.pre,dG,if_true];rw[S,List.flatMap_cons,N];rfl
   refine⟨λy c p q w qa G D=>?_,λy c J p w M=>?_⟩
   ·by_cases qb:y=2/\p=1+i
    ·obtain⟨rfl,rfl⟩:=qb;rw[A];decide
    rw[b y p zO];by_cases U:y=2/\q=1+i
    ·obtain⟨rfl,rfl⟩:=U;rw[C p w zO];decide
    rw[b y q zO]at D;exact L.fo y c p q w qa G D
   rw[b y p (.inl J)];exact L.rc y c J p w M
end
end
section
variable {f:FK} {o:dx} {next p th:Int} {x:Sub} {z':Pz}
def upW(w:Option Ef):Ef->Option Ef
 | .no=>w
 | e=>J e
def Abs(A:Nat->Ab)(k:Int)(p:Nat):Prop:=∀v,¬(A p).mp k v
def FKw(k:Int)(w:Option Ef):FK->Prop
 | .fin _=>w=J (.del k)
 | _=>w=Y
def RdL(a k:Int)(c:Ab)(val:Int)(is:Bool):Prop:=
 a=1/\is=O/\c.mp k val\/(a=1\/a=3)/\is=X/\val=0/\(∀v,¬c.mp k v)\/a=2/\is=X/\val=0/\∃v,c.mp k v
def qG(op:LOp)(k:Int)(A:Nat->Ab)(L:Nat)(w:Option Ef)(o:dx):Prop:=
 (w=Y/\∃p,p<L/\RdL op.kind k (A p) o.val o.is)\/(op.kind=2/\w=J (.put k op.v)/\o.val=0/\o.is=O)\/(op.kind=3/\w=J (.del k)/\o.val=0/\o.is=O)
def P1(m:Sm)(op:LOp)(k:Int)(A:Nat->Ab)(L:Nat)(b next:Int)(a:Nat):Prop:=
 a<L/\(dH next=X->bT m b=op.o->(A a).mp k (m (.nd b 2)))/\(dH next=X->idxOf next=0->bT m b<op.o->Abs A k a)
def I0(m:Sm)(op:LOp)(k:Int)(A:Nat->Ab)(w:Option Ef)(L:Nat):LPh->Prop
 | .sub x (.fh f)=>FKw k w f/\∀i c v,x= .g2 i c v->1<=L/\(idxOf v=0->Abs A k (L-1))
 | .sub x (.fn f a)=>FKw k w f/\∀i c v,x= .g2 i c v->1<=L/\P1 m op k A L a.cur v (L-1)
 | .sub _ (.fr f a)=>FKw k w f/\(a.cur=0->a.pt<L/\Abs A k a.pt)
 | .sub _ (.out o) | .sub _ (.clr o) | .sub _ (.dc _ o)=>qG op k A L w o
 | .sub _ (.pt _ _)=>w=Y
 | .fs f a next b=>FKw k w f/\P1 m op k A L a.cur next b
 | .fo f a next b=>FKw k w f/\P1 m op k A L a.cur next b/\1<=L/\(op.o<bT m a.cur->Abs A k (L-1))
 | .fc f _ _=>FKw k w f
 | .gv n p=>w=Y/\p<L/\(A p).mp k (m (.nd n 2))
 | .du _ _ _ _=>w=J (.del k)
 | _=>w=Y
def mA(m:Sm)(op:LOp)(k:Int)(A:Nat->Ab)(w:Option Ef):LX->Prop
 | .go x z=>I0 m op k A w z.made x
 | .out o z=>qG op k A z.made w o
 | .stuck=>True
section
variable {m m':Sm} {g g':Gh} {s t:Nat} {op:LOp} {k:Int} {A A':Nat->Ab} {w:Option Ef} {L L':Nat} {z:Pz}
theorem qG.mono(a:∀p,p<L->A' p=A p)(e:L<=L')(h:qG op k A L w o):qG op k A' L' w o:=by
 rcases h with⟨c,p,d,b⟩|h
 ·exact .inl ⟨c,p,M,by rw[a p d];exact b⟩
 exact .inr h
theorem P1.mono(b:∀p,p<L->A' p=A p)(e:L<=L'){a:Int}{told:Nat}(d:bT m' a=bT m a)(c:m' (.nd a 2)=m (.nd a 2))(h:P1 m op k A L a next told):P1 m' op k A' L' a next told:=by
 unfold P1 Abs;rw[d,c,b told h.1];exact⟨by have:=h.1;omega,h.2⟩
theorem iE(z:Pz)(i:Nat):match df z i with|.go _ a=>a=z|.ret r a=>a=z/\r= .un|.stuck=>False:=by
 unfold df;split
 ·rename_i x h;split at h<;>simp at h;exact h.2.symm
 ·rename_i r x h;split at h<;>simp at h;exact⟨h.2.symm,h.1.symm⟩
 rename_i h;split at h<;>simp at h
theorem mu(h:qG op k A z.made w o):mA m op k A w (fF o z):=by
 have:=iE z 0;unfold fF;cases b:df z 0 with
 | go x a=>rw[b]at this;have this:a=z:=this;subst this;exact h
 | ret r a=>rw[b]at this;have this:a=z:=this.1;subst this;exact h
 | stuck=>exact trivial
theorem Df{n:Int}(h:qG op k A z.made w o):mA m op k A w (fa n o z):=by
 have:=iE z 0;unfold fa;cases b:df z 0 with
 | go x a=>rw[b]at this;have this:a=z:=this;subst this;exact h
 | ret r a=>rw[b]at this;have this:a=z:=this.1;subst this;exact h
 | stuck=>exact trivial
theorem nE(h:FKw k w f):mA m op k A w (iI op f z):=⟨h,λi c v e=>by cases e⟩
def FKk(op:LOp):FK->Prop
 | .get=>op.kind=1
 | .put _=>op.kind=2
 | _=>op.kind=3
theorem tX{b:Bool}{j h:Int}{pt:Nat}(a:FKw k w f)(e:FKk op f)(i:(∀p,f= .fin p->pt<z.made\/True)/\(b=O->pt<z.made/\(A pt).mp k (m (.nd h 2)))/\(b=X->pt<z.made/\Abs A k pt)):mA m op k A w (iJ op f b j h next pt z):=by
 obtain⟨-,c,d⟩:=i;cases f with
 | get=>
  cases b with
  | true=>exact⟨a,(c Z).1,(c Z).2⟩
  | false=>exact mu (.inl ⟨a,pt,(d Z).1,.inr (.inl ⟨.inl e,Z,Z,(d Z).2⟩)⟩)
 | put n=>
  cases b with
  | true=>
   have ho:qG op k A z.made w ⟨0,X,pt,h⟩:=.inl ⟨a,pt,(c Z).1,.inr (.inr ⟨e,Z,Z,_,(c Z).2⟩)⟩;show mA m op k A w (if n≠0 then _ else _);split
   ·exact ho
   exact mu ho
  | false=>
   show mA m op k A w (if n=0 then _ else _);split
   ·exact a
   exact a
 | del=>
  cases b with
  | true=>exact a
  | false=>exact mu (.inl ⟨a,pt,(d Z).1,.inr (.inl ⟨.inr e,Z,Z,(d Z).2⟩)⟩)
 | fin p=>exact mu (.inr (.inr ⟨e,a,Z,Z⟩))
theorem A6(h:kU m op f):FKk op f:=by
 cases f with
 | get=>exact h
 | put n=>exact h.1
 | del=>exact h.1
 | fin p=>exact h.1
theorem tN{a:Fp}(b:FKw k w f)(h:kU m' op f)(d:a.cur=0->a.pt<z.made/\Abs A k a.pt):mA m op k A w (eR op f a z):=by
 unfold eR;split
 ·rename_i e;exact tX b (A6 h) ⟨λ_ _=>.inr trivial,λe=>(by cases e),λ_=>d e⟩
 exact⟨b,λi c v e=>by cases e⟩
theorem Al{a:Sub}{z:Pz}{r:Int × Bool}(h:x.stp th z r= .go a z'):z'.made=z.made+1/\∀i c v,a= .g2 i c v->x= .g1 i c/\v=r.1:=by
 cases x with
 | cl i=>
  have:=iE { z.got with eras:=z.eras.set i 0 } (i+1);simp only[Sub.stp]at h;rw[h]at this;have this:z'=_:=this;refine⟨by rw[this];rfl,λi c v e=>?_⟩;subst e;unfold df at h;split at h<;>simp at h
 | _=>
  simp only[Sub.stp]at h;(try split at h)<;>first|(injection h with d j;subst d j;exact⟨Z,λi c v e=>by first|(injection e with b f l;subst b f l;exact⟨Z,Z⟩)|cases e⟩)|cases h
theorem rR{a:Ret}{z:Pz}{r:Int × Bool}(h:x.stp th z r= .ret a z'):z'.made=z.made+1/\∀v p,a= .gd v p->(∃i c,x= .g2 i c v)/\p=z.made-1:=by
 cases x with
 | cl i=>
  have:=iE { z.got with eras:=z.eras.set i 0 } (i+1);simp only[Sub.stp]at h;rw[h]at this;have this:z'=_/\a= .un:=this;refine⟨by rw[this.1];rfl,λv p e=>?_⟩;rw[this.2]at e;cases e
 | _=>
  simp only[Sub.stp]at h;(try split at h)<;>first|(injection h with d j;subst d j;exact⟨Z,λv p e=>by first|(injection e with b f;subst b f;exact⟨⟨_,_,Z⟩,Z⟩)|cases e⟩)|cases h
theorem vh(h:Gl m g)(o:(0<=k/\k<65536)/\op.o=eY k){c:Int}(a:(g.st p).isL=O)(b:m (.nd p 0)=aV c)(e:0<=c)(i:c<=40)(l:bT m p<op.o)(j:c=0\/op.o<bT m c):∀v,¬(dG m g).mp k v:=by
 rintro v ⟨-,n,f,-,d,-⟩;exact wV h a b e i l j f (d.trans o.2.symm)
theorem I5(h:Gl m g)(d:(g.st p).isL=O)(a:dH (m (.nd p 0))=X):m (.nd p 0)=aV (idxOf (m (.nd p 0)))/\0<=idxOf (m (.nd p 0))/\idxOf (m (.nd p 0))<=40:=by
 obtain⟨x,b,c,f,-⟩:=h.lwrd p d;rcases f with e|e
 ·rw[e,gY b c];exact⟨Z,b,c⟩
 rw[e,gu]at a;cases a
theorem LPh.lin(h:Gl m g){x:LPh}(hx:ui s m g op z x)(G:(0<=k/\k<65536)/\op.o=eY k)(K:I0 m op k A w z.made x)(d:∀p,p<z.made->A' p=A p)(qa:A' z.made=dG m g):
  mA ((x.acc s op).mem m) op k A' (upW w (lEf op x ((x.acc s op).res m).2 k)) (x.stp th op z ((x.acc s op).res m)):=by
 have N:=hx.opk;have E:=hx.ok;have hodd:op.o%2=1:=by rw[G.2];exact(nv k).2.2.1
 cases x with
 | sub x J=>
  have Q:∀n i,i<=5->(x.acc s).mem m (.nd n i)=m (.nd n i):=λn i hi=>o7 x n i hi;show mA ((x.acc s).mem m) op k A' w ((x.stp th z ((x.acc s).res m)).lS J λt s=>ic op t s J);have M:=E.2;cases lh:x.stp th z ((x.acc s).res m)with
  | stuck=>exact trivial
  | go x' Y=>
   obtain⟨e1,P⟩:=Al lh;show I0 ((x.acc s).mem m) op k A' w Y.made (.sub x' J);rw[e1];cases J with
   | fh f=>
    refine⟨K.1,λi c v e=>⟨zO,λB=>?_⟩⟩;obtain⟨rfl,C⟩:=P i c v e;have hc:c= .nd op.h 0:=by have:=M.1;injection this
    rw[dv]at C;have C:v=m c:=C;subst hc C;show Abs A' k (z.made+1-1);rw[jJ];unfold Abs;rw[qa];have I:dH (m (.nd op.h 0))=X:=by
     cases hb:dH (m (.nd op.h 0))with
     | false=>rfl
     | true=>have:=h.lmrk op.h N.h hb;have:=N.hm;omega
    obtain⟨R,w2,w3⟩:=I5 h N.h I;rw[B]at R;exact vh h G N.h R zD zD N.ho (.inl Z)
   | fn f b=>
    refine⟨K.1,λi c v e=>⟨zO,?_⟩⟩;obtain⟨rfl,C⟩:=P i c v e;have hc:c= .nd b.cur 0:=by have:=M.1;injection this
    rw[dv]at C;have C:v=m c:=C;subst hc C;have F:(g.st b.cur).isL=O:=by rcases M.2.2.1.2.2.2.2.2 with h|h;exact absurd h M.2.2.2;exact h.1
    show P1 _ op k A' (z.made+1) b.cur _ (z.made+1-1);rw[jJ];refine⟨zO,λI hky=>?_,λI hi D=>?_⟩
    ·rw[qa,Q _ 2 zD];exact⟨G.1,b.cur,xe h F I,I,((Q b.cur 1 zD).symm.trans hky).trans G.2,Z⟩
    unfold Abs;rw[qa];have D:bT m b.cur<op.o:=by have h9:=Q b.cur 1 zD;unfold bT at D ⊢;rw[h9]at D;exact D
    obtain⟨R,w2,w3⟩:=I5 h F I;rw[hi]at R;exact vh h G F R zD zD D (.inl Z)
   | fr f b=>exact⟨K.1,λe=>by have:=K.2 e;unfold Abs;rw[d _ this.1];exact⟨zO,this.2⟩⟩
   | out o=>exact qG.mono d zO K
   | clr o=>exact qG.mono d zO K
   | dc n o=>exact qG.mono d zO K
   | pt j q=>exact K
  | ret r Y=>
   obtain⟨e1,P⟩:=rR lh;show mA ((x.acc s).mem m) op k A' w (ic op r Y J);cases J with
   | fh f=>
    cases r with
    | gd v p=>
     obtain⟨⟨i,c,rfl⟩,rfl⟩:=P v p Z;obtain⟨k1,qd⟩:=K.2 i c v Z;refine tN K.1 M.2 λe=>⟨by show z.made-1<_;omega,?_⟩;show Abs A' k (z.made-1);unfold Abs;rw[d _ zO];exact qd e
    | _=>exact trivial
   | fn f b=>
    cases r with
    | gd v p=>
     obtain⟨⟨i,c,rfl⟩,rfl⟩:=P v p Z;obtain⟨k1,qd⟩:=K.2 i c v Z;exact⟨K.1,qd.mono d zO (Q _ 1 zD) (Q _ 2 zD)⟩
    | _=>exact trivial
   | fr f b=>exact tN K.1 M.2.1 λe=>by have:=K.2 e;unfold Abs;rw[d _ this.1];exact⟨zO,this.2⟩
   | out o=>exact qG.mono d zO K
   | clr o=>exact mu (qG.mono d zO K)
   | dc n o=>exact qG.mono d zO K
   | pt j q=>
    cases r with
    | tk n p ok=>cases ok<;>first|exact trivial | exact K
    | _=>exact trivial
 | fs f b next qc=>
  rw[a8 Z];show mA m op k A' w (if _ then _ else _);split
  ·exact nE K.1
  rename_i B;have B:m (.nd b.prev 0)=aV b.cur:=by
   have:(((LPh.fs f b next qc).acc s op).res m).1=m (.nd b.prev 0):=dv _ _;rw[<- this];exact db B
  refine⟨K.1,K.2.mono d (by show z.made<=z.made+1;omega) Z Z,by show 1<=z.made+1;omega,λD=>?_⟩;show Abs A' k (z.made+1-1);rw[jJ];unfold Abs;rw[qa];have y:=E.2.1.2.2.2;have hcr:=fX h (p:=b.cur) (by rcases y.2.2 with h|h;exact absurd h E.2.2.1;exact h.1);exact vh h G y.1 B zO zO y.2.1 (.inr D)
 | fo f b next qc=>
  obtain⟨S,y,W,l⟩:=E;have F:(g.st b.cur).isL=O/\bT m b.prev<bT m b.cur:=by rcases y.2.2.2.2.2 with h|h;exact absurd h W;exact h
  have B:(((LPh.fo f b next qc).acc s op).res m).1=bT m b.cur:=dv _ _;obtain⟨T,K2,K3,K4⟩:=K;have qb:=K2.mono (m':=m) d (by show z.made<=z.made+1;omega) Z Z;have K4':op.o<bT m b.cur->Abs A' k (z.made-1):=λe=>by unfold Abs;rw[d _ zO];exact K4 e
  rw[a8 Z];show mA m op k A' w (if _ then _ else _);rw[B];split
  ·exact T
  rename_i u;have u:dH next=X:=by simpa using u
  split
  ·rename_i D;exact tN T S λe=>⟨qb.1,qb.2.2 u e D⟩
  rename_i BG;split
  ·rename_i heq;exact tX T (A6 S) ⟨λ_ _=>.inr trivial,λ_=>⟨qb.1,qb.2.1 u heq⟩,λe=>by cases e⟩
  rename_i qQ;exact tX T (A6 S) ⟨λ_ _=>.inr trivial,λe=>(by cases e),λ_=>⟨by show z.made-1<z.made+1;omega,K4' zO⟩⟩
 | fc f b U=>
  obtain⟨S,y,W,H⟩:=E;have F:(g.st b.cur).isL=O:=by rcases y.2.2.2.2.2 with h|h;exact absurd h W;exact h.1
  show mA _ op k A' w (LPh.stp th op z (.fc f b U) _);cases l:(((LPh.fc f b U).acc s op).res m).2 with
  | false=>simp only[LPh.stp,l];exact nE K
  | true=>
   simp only[LPh.stp,l,if_true];obtain⟨u,hw⟩:=bP (a:=(LPh.fc f b U).acc s op) Z l;replace u:m (.nd b.prev 0)=aV b.cur:=u;refine⟨K,λe=>⟨by show z.made<z.made+1;omega,?_⟩⟩;have e:U=0:=e;subst e;show Abs A' k z.made;unfold Abs;rw[qa];have hu:=Hi (s:=s) h y.2.2.2.1 u F H.1 H.2.1 H.2.2;have hG:=Gl.unl (s:=s) h y.2.2.2.1 u F H.1 H.2.1 H.2.2;have hcr:=fX h F;obtain⟨pli,-,-,-⟩:=iS h y.2.2.2.1 zO zO u;have hpc:b.prev≠b.cur:=by
    intro e;have hm2:m (.nd b.cur 0)=aV b.cur:=by rw[<- e];rw[<- e]at u;exact u
    have:=congrArg dH (hm2.symm.trans H.2.2);rw[cP,gu]at this;cases this
   rw[<- hu];refine vh hG G (p:=b.prev) (c:=0) ?_ (bU _ _ _) zD zD ?_ (.inl Z)
   ·show (dO g.st b.cur (.dli s) b.prev).isL=O;rw[br _ _ hpc];exact y.2.2.2.1
   show bz m (.nd b.prev 0) _ (.nd b.prev 1)<op.o;rw[gq m _ _ (.inr zD)];exact y.2.2.2.2.1
 | gv n p=>
  have B:(((LPh.gv n p).acc s op).res m).1=m (.nd n 2):=dv _ _;show mA _ op k A' w (fF ⟨(((LPh.gv n p).acc s op).res m).1,O,p,n⟩ z.got);rw[B];exact mu (.inl ⟨K.1,p,by show p<z.made+1;have:=K.2.1;omega,.inl ⟨E.1,Z,by rw[d p K.2.1];exact K.2.2⟩⟩)
 | p1 n j q=>exact K
 | p2 n j q=>exact K
 | p0 n j q=>exact K
 | pc n j q=>
  cases l:(((LPh.pc n j q).acc s op).res m).2 with
  | false=>simp only[LPh.stp,l];exact nE K
  | true=>
   simp only[LPh.stp,l,if_true];rw[show lEf op (.pc n j q) O k= .put k op.v by simp[lEf,LPh.ef,hodd]];exact mu (.inr (.inl ⟨E.1,Z,Z,Z⟩))
 | dm j q next=>
  cases l:(((LPh.dm j q next).acc s op).res m).2 with
  | false=>simp only[LPh.stp,l];exact nE K
  | true=>
   simp only[LPh.stp,l,if_true];rw[show lEf op (.dm j q next) O k= .del k by simp[lEf,LPh.ef]];exact Z
 | du j q next p=>
  have ho:qG op k A' z.got.made w ⟨0,O,p,0⟩:=.inr (.inr ⟨E.1,K,Z,Z⟩);show mA _ op k A' w (LPh.stp th op z (.du j q next p) _);cases l:(((LPh.du j q next p).acc s op).res m).2 with
  | false=>simp only[LPh.stp,l];exact nE K
  | true=>simp only[LPh.stp,l,if_true];exact Df ho
theorem I0.env(e:Env t m g m' g'){x:LPh}(o:ui s m g op z x)(K:I0 m op k A w L x):I0 m' op k A w L x:=by
 have b:=o.ok;have cell:∀n,(g.st n).isL=O->bT m' n=bT m n/\m' (.nd n 2)=m (.nd n 2):=λn u=>(e.isL n u).2;cases x with
 | sub x l=>
  cases l with
  | fn f d=>
   have a:(g.st d.cur).isL=O:=by rcases b.2.2.2.1.2.2.2.2.2 with h|h;exact absurd h b.2.2.2.2;exact h.1
   exact⟨K.1,λi c v j=>⟨(K.2 i c v j).1,(K.2 i c v j).2.mono (λ_ _=>Z) (aq _) (cell _ a).1 (cell _ a).2⟩⟩
  | _=>exact K
 | fs f d next q=>
  have a:(g.st d.cur).isL=O:=by rcases b.2.1.2.2.2.2.2 with h|h;exact absurd h b.2.2.1;exact h.1
  exact⟨K.1,K.2.mono (λ_ _=>Z) (aq _) (cell _ a).1 (cell _ a).2⟩
 | fo f d next q=>
  have a:(g.st d.cur).isL=O:=by rcases b.2.1.2.2.2.2.2 with h|h;exact absurd h b.2.2.1;exact h.1
  exact⟨K.1,K.2.1.mono (λ_ _=>Z) (aq _) (cell _ a).1 (cell _ a).2,K.2.2.1,by rw[(cell _ a).1];exact K.2.2.2⟩
 | gv n p=>exact⟨K.1,K.2.1,by rw[(cell n b.2).2];exact K.2.2⟩
 | _=>exact K
end
end
section
variable {made:Nat} {gn:cq} {o:dx} {n th:Int} {f:FK} {x:MPh}
def Rd1(op:Opr)(c:Ab)(val:Int)(is:Bool):Prop:=
 op.kind<=3/\RdL op.kind op.a c val is\/op.kind=5/\is=X/\val=0/\c.st=[]\/op.kind=7/\is=X/\val=0/\c.ch=[]
def mT(op:Opr)(e:Ef)(val:Int)(is:Bool):Prop:=is=O/\match e with
 | .put k v=>op.kind=2/\k=op.a/\v=op.b/\val=0
 | .del k=>op.kind=3/\k=op.a/\val=0
 | .push v=>op.kind=4/\v=op.a/\val=0
 | .pop v=>op.kind=5/\val=v
 | .send v=>op.kind=6/\v=op.a/\val=0
 | .recv v=>op.kind=7/\val=v
 | .no=>False
def fQ(op:Opr)(A:Nat->Ab)(L:Nat)(w:Option Ef)(o:Out):Prop:=
 (w=Y/\∃p,p<L/\Rd1 op (A p) o.val o.is)\/∃e,w=J e/\mT op e o.val o.is
def Lx(m:Sm)(op:Opr)(A:Nat->Ab)(w:Option Ef)(made:Nat):MPh->Prop
 | .ml O _ a _ _ z=>w=Y/\a+z.made=made
 | .ml X _ a b x z=>I0 m b op.a (λp=>A (a+p)) w z.made x/\a+z.made=made
 | .m5 _ o | .m6 _ o=>op.kind=2/\w=J (.put op.a op.b)/\o.val=0/\o.is=O
 | .m7 o=>op.kind=3/\w=J (.del op.a)/\o.val=0/\o.is=O
 | _=>w=Y
def qV(m:Sm)(op:Opr)(A:Nat->Ab)(w:Option Ef)(L:Nat):MX->Prop
 | .go x a _=>a=L/\Lx m op A w a x
 | .out o=>fQ op A L w o
 | .stuck=>True
section
variable {m m':Sm} {g g':Gh} {s t:Nat} {op:LOp} {k:Int} {A A':Nat->Ab} {w:Option Ef} {L L':Nat} {z:Pz}
def LX.iW(N:Nat):LX->Prop
 | .go _ z=>z.made=N
 | .out _ z=>z.made=N
 | .stuck=>True
theorem j9:(fF o z).iW z.made:=by
 have:=iE z 0;unfold fF;cases b:df z 0 with
 | go x a=>rw[b]at this;have this:a=z:=this;subst this;exact Z
 | ret r a=>rw[b]at this;have this:a=z:=this.1;subst this;exact Z
 | stuck=>exact trivial
theorem Be:(fa n o z).iW z.made:=by
 have:=iE z 0;unfold fa;cases b:df z 0 with
 | go x a=>rw[b]at this;have this:a=z:=this;subst this;exact Z
 | ret r a=>rw[b]at this;have this:a=z:=this.1;subst this;exact Z
 | stuck=>exact trivial
theorem xF{a:Bool}{c b next:Int}{pt:Nat}:(iJ op f a c b next pt z).iW z.made:=by
 cases f with
 | get=>cases a<;>first|exact j9 | exact Z
 | put n=>
  cases a
  ·show LX.iW _ (if n=0 then _ else _);split<;>exact Z
  show LX.iW _ (if n≠0 then _ else _);split<;>first|exact Z|exact j9
 | del=>cases a<;>first|exact j9 | exact Z
 | fin p=>exact j9
theorem rq{a:Fp}:(eR op f a z).iW z.made:=by
 unfold eR;split
 ·exact xF
 exact Z
theorem LPh.mades{x:LPh}{r:Int × Bool}:(x.stp th op z r).iW (z.made+1):=by
 cases x with
 | sub x c=>
  show LX.iW _ ((x.stp th z r).lS c λt s=>ic op t s c);cases h:x.stp th z r with
  | stuck=>exact trivial
  | go q i=>exact(Al h).1
  | ret e i=>
   rw[<- (rR h).1];show LX.iW _ (ic op e i c);cases c with
   | fh f=>cases e<;>first|exact rq | exact trivial
   | fn f d=>cases e<;>first|exact Z | exact trivial
   | fr f d=>exact rq
   | out o=>exact Z
   | clr o=>exact j9
   | pt b a=>
    cases e with
    | tk n p ok=>cases ok<;>first|exact trivial | exact Z
    | _=>exact trivial
   | dc n o=>exact Z
 | fs f d next j=>show LX.iW _ (if _ then _ else _);split<;>exact Z
 | fo f d next j=>
  show LX.iW _ (if _ then _ else if _ then _ else if _ then _ else _);split
  ·exact Z
  split
  ·exact rq (z:=z.got)
  split<;>exact xF (z:=z.got)
 | fc f d l=>show LX.iW _ (if _ then _ else _);split<;>exact Z
 | gv n p=>exact j9 (z:=z.got)
 | p1 n b a=>exact Z
 | p2 n b a=>exact Z
 | p0 n b a=>exact Z
 | pc n b a=>show LX.iW _ (if _ then _ else _);split<;>first|exact j9 (z:=z.got) | exact Z
 | dm b a next=>show LX.iW _ (if _ then _ else _);split<;>exact Z
 | du b a next p=>show LX.iW _ (if _ then _ else _);split<;>first|exact Be (z:=z.got) | exact Z
theorem fQ.mono{a:Opr}(b:∀p,p<L->A' p=A p)(f:L<=L'){o:Out}(h:fQ a A L w o):fQ a A' L' w o:=by
 rcases h with⟨e,p,d,c⟩|h
 ·exact .inl ⟨e,p,M,by rw[b p d];exact c⟩
 exact .inr h
theorem zy{op:Opr}{sz:Int}(a:op.kind=1\/op.kind=2\/op.kind=3):qV m op A Y made (iH ⟨op.kind,op.a,op.b⟩ sz n made gn):=by
 unfold iH;split
 ·rcases a with h|h|h<;>simp only[h,cW]<;>exact⟨rfl,⟨rfl,λi c v e=>by cases e⟩,rfl⟩
 exact trivial
theorem MPh.lin{op:Opr}(h:Gl m g){bk:Int}(hx:xS s m g ⟨op.kind,op.a,op.b⟩ gn x)(K:Lx m op A w made x)(hA:∀p,p<made->A' p=A p)(hA2:A' made=dG m g):
  qV ((x.acc s).mem m) op A' (upW w (mEf ⟨op.kind,op.a,op.b⟩ x ((x.acc s).res m).2)) (made+1) (x.stp th bk ⟨op.kind,op.a,op.b⟩ made gn ((x.acc s).res m)):=by
 have fC:=hx.ok;have hk:op.kind=1\/op.kind=2\/op.kind=3:=by have:=hx.k;simp only at this;omega
 have ha:0<=op.a/\op.a<65536:=hx.a;cases x with
 | m1=>show qV _ op A' w _ (if _ then _ else _);split<;>first|exact⟨Z,K⟩ | exact trivial
 | m2 sz b=>
  have K:w=Y:=K;subst K;show qV _ op A' Y _ (if _ then _ else if _ then _ else _);split
  ·exact zy hk
  split<;>first|exact⟨Z,Z⟩|exact trivial
 | m3 sz=>
  have K:w=Y:=K;subst K;show qV _ op A' Y _ (if _ then _ else _);split
  ·exact trivial
  exact⟨Z,Z,Z⟩
 | ml dm sz mm lo x z=>
  obtain⟨hl,-,-,h4,h5⟩:=fC;have LL:=LPh.mades (x:=x) (op:=lo) (z:=z) (th:=th) (r:=(x.acc s lo).res m);cases dm with
  | true=>
   obtain⟨K1,K2⟩:=K;subst K1;have uD:=(h4 Z).1;have he:mEf ⟨op.kind,op.a,op.b⟩ (.ml O sz mm lo x z) ((x.acc s lo).res m).2= .no:=by
    show lEf lo x _ op.a= .no;unfold lEf;rw[if_neg (c:=lo.o%2=1) (by rw[uD];decide)];split
    ·rfl
    rename_i h1;rw[if_neg];intro h2;cases x with
    | dm prev cur next=>have:=hl.ok.1;rw[uD]at this;exact absurd this zD
    | _=>cases h2
   show qV _ op A' (upW Y (mEf ⟨op.kind,op.a,op.b⟩ (.ml O sz mm lo x z) ((x.acc s lo).res m).2)) (made+1) ((x.stp th lo z ((x.acc s lo).res m)).inM O sz mm lo _);rw[he];cases lh:x.stp th lo z ((x.acc s lo).res m)with
   | go x' z'=>rw[lh]at LL;have LL:z'.made=z.made+1:=LL;exact⟨M,Z,Z⟩
   | out o z'=>rw[lh]at LL;have LL:z'.made=z.made+1:=LL;exact⟨M,Z⟩
   | stuck=>exact trivial
  | false=>
   obtain⟨K1,K2⟩:=K;obtain⟨q1,q2,q3⟩:=h5 Z;dsimp only at q1 q2 q3;have xk:=LPh.lin (th:=th) (A':=λp=>A' (mm+p)) h hl ⟨ha,q2⟩ K1 (λp hp=>hA _ M) (by show A' (mm+z.made)=_;rw[K2];exact hA2);show qV _ op A' (upW w (lEf lo x ((x.acc s lo).res m).2 op.a)) (made+1) ((x.stp th lo z ((x.acc s lo).res m)).inM X sz mm lo _);generalize upW w (lEf lo x ((x.acc s lo).res m).2 op.a)=w' at *;cases lh:x.stp th lo z ((x.acc s lo).res m)with
   | go x' z'=>rw[lh]at LL xk;have LL:z'.made=z.made+1:=LL;exact⟨M,xk,Z⟩
   | stuck=>exact trivial
   | out o z'=>
    rw[lh]at LL xk;have LL:z'.made=z.made+1:=LL;have xk:qG lo op.a (λp=>A' (mm+p)) z'.made w' o:=xk;have hout:fQ op A' (made+1) w' ⟨o.val,o.is,(mm+o.bc:Nat),z'.gone⟩:=by
     rcases xk with⟨a1,p,a2,a3⟩|⟨a1,a2,a3,a4⟩|⟨a1,a2,a3,a4⟩
     ·exact .inl ⟨a1,mm+p,M,.inl ⟨M,by rw[<- q1];exact a3⟩⟩
     ·exact .inr ⟨_,a2,a4,by rw[<- q1];exact a1,Z,q3,a3⟩
     exact .inr ⟨_,a2,a4,by rw[<- q1];exact a1,Z,a3⟩
    show qV _ op A' w' (made+1) (gB ⟨op.kind,op.a,op.b⟩ sz { o with bc:=mm+o.bc } (mm+z'.made) z'.gone);unfold gB;split
    ·exact hout
    rename_i his;have his:o.is=O:=by simpa using his
    split
    ·rename_i yu;have yu:op.kind=2:=yu;rcases xk with⟨a1,p,a2,a3⟩|⟨a1,a2,a3,a4⟩|⟨a1,a2,a3,a4⟩
     ·rw[his]at a3;rcases a3 with⟨b,-⟩|⟨-,b,-⟩|⟨-,b,-⟩
      ·rw[q1]at b;omega
      ·cases b
      cases b
     ·exact⟨M,yu,by rw[a2,q3],a3,a4⟩
     rw[q1]at a1;omega
    split
    ·rename_i KT;have KT:op.kind=3:=KT;rcases xk with⟨a1,p,a2,a3⟩|⟨a1,a2,a3,a4⟩|⟨a1,a2,a3,a4⟩
     ·rw[his]at a3;rcases a3 with⟨b,-⟩|⟨-,b,-⟩|⟨-,b,-⟩
      ·rw[q1]at b;omega
      ·cases b
      cases b
     ·rw[q1]at a1;omega
     exact⟨M,KT,a2,a3,a4⟩
    exact hout
 | m4 sz n=>
  have K:w=Y:=K;subst K;exact zy hk
 | m5 sz o=>
  obtain⟨K1,K2,K3,K4⟩:=K;have ho:∀L,fQ op A' L w ⟨o.val,o.is,o.bc,gn⟩:=λL=>.inr ⟨_,K2,K4,K1,Z,Z,K3⟩;show qV _ op A' w _ (if _ then _ else _);split
  ·exact⟨Z,K1,K2,K3,K4⟩
  exact ho _
 | m6 sz o=>
  obtain⟨K1,K2,K3,K4⟩:=K;exact .inr ⟨_,K2,K4,K1,Z,Z,K3⟩
 | m7 o=>
  obtain⟨K1,K2,K3,K4⟩:=K;exact .inr ⟨_,K2,K4,K1,Z,K3⟩
theorem Lx.env{op:Opr}(e:Env t m g m' g')(a:xS s m g ⟨op.kind,op.a,op.b⟩ gn x)(K:Lx m op A w made x):Lx m' op A w made x:=by
 cases x with
 | ml b c f d x z=>
  cases b with
  | true=>exact K
  | false=>exact⟨K.1.env e a.ok.1,K.2⟩
 | _=>exact K
end
end
section
variable {a bq th val:Int} {is:Bool} {x:EPh} {i:Nat}
def LC(m:Sm)(op:Opr)(A:Nat->Ab)(w:Option Ef)(L:Nat):EPh->Prop
 | .sub _ .ut=>op.kind=4/\w=Y
 | .sub _ (.ug _)=>op.kind=4/\w=J (.push op.a)
 | .sub x .og=>op.kind=5/\w=Y/\∀i c v,x= .g2 i c v->1<=L/\(idxOf v=0->(A (L-1)).st=[])
 | .sub _ (.oc o) | .sub _ (.orr _ o) | .sub _ (.od o)=>op.kind=5/\fQ op A L w o
 | .u7 _ _ _ _ | .u8 _ _ _=>op.kind=4/\(w=Y\/w=J (.push op.a))
 | .u9 _ _ _=>op.kind=4/\w=J (.push op.a)
 | .o2 _ | .o3 _ _ | .o5=>op.kind=5/\w=Y
 | .o6 x=>op.kind=5/\w=Y/\ji x=1
 | .u6 _ x=>op.kind=4/\w=Y/\ji x=0
 | .o4 n _=>op.kind=5/\w=J (.pop (m (.nd n 1)))
 | _=>op.kind=4/\w=Y
def SlR(m:Sm)(a:Int)(w:Option Ef):EPh->Prop
 | .u7 _ _ x _ | .u8 _ x _=>(w=Y->m .slot=fS a x)/\(w≠Y->m .slot=kX (fS a x))
 | .u9 _ x _=>m .slot=kX (fS a x)
 | _=>True
def EPh.off:EPh->Bool
 | .u7 _ _ _ _ | .u8 _ _ _ | .u9 _ _ _=>O
 | _=>X
def oR(m:Sm)(op:Opr)(A:Nat->Ab)(w:Option Ef)(L:Nat):EX->Prop
 | .go x z=>z.made=L/\LC m op A w L x
 | .out o=>fQ op A L w o
 | .stuck=>True
def eW(a:Int)(m:Sm)(x:EPh)(r:Bool)(w:Option Ef):Option Ef:=match x with
 | .o6 y=>if r then J (.pop (mE y))else w
 | _=>upW w (eEf a m x r)
section
variable {m m':Sm} {g g':Gh} {s t:Nat} {op:Opr} {A A':Nat->Ab} {w:Option Ef} {L L':Nat} {z:Pz}
theorem tI{x:Int}(b:0<=a/\a<4294967296):ji (fS a x)=1/\mE (fS a x)=a:=by
 unfold ji mE fS ld;omega
theorem mh(x:Int):ji (kX x)=2:=by unfold ji kX ld mE;omega
theorem Jp(x:Int):ji (noW x)=0:=by unfold ji noW ld;omega
theorem Di{c:Int}(d:op.kind=5)(h:fQ op A z.made w ⟨val,is,c,[]⟩):oR m op A w z.made (oT val is c z):=by
 have:=iE z 0;unfold oT;cases b:df z 0 with
 | go x a=>rw[b]at this;have this:a=z:=this;subst this;exact⟨Z,d,h⟩
 | ret r a=>rw[b]at this;have this:a=z:=this.1;subst this;exact h
 | stuck=>exact trivial
theorem Ck(b:op.kind=5)(a:w=Y):oR m op A w z.made (AF z):=⟨Z,b,a,λi c v e=>by cases e⟩
theorem EPh.lin(h:Gl m g)(M:0<=op.a/\op.a<4294967296)(y:xW s m g op.a z x)(K:LC m op A w z.made x)(G:SlR m op.a w x)(f:∀p,p<z.made->A' p=A p)(qa:A' z.made=dG m g):
  oR ((x.acc s op.a).mem m) op A' (eW op.a m x ((x.acc s op.a).res m).2 w) (z.made+1) (x.stp th op.a z ((x.acc s op.a).res m)):=by
 have R:=y.ok;cases x with
 | sub x u=>
  show oR _ op A' w _ ((x.stp th z ((x.acc s).res m)).jc u λt s=>nu t s u);have Q:=R.2;cases H:x.stp th z ((x.acc s).res m)with
  | stuck=>exact trivial
  | go U d=>
   obtain⟨q,F⟩:=Al H;refine⟨q,?_⟩;cases u with
   | ut=>exact K
   | ug p=>exact K
   | og=>
    refine⟨K.1,K.2.1,λi c v e=>⟨zO,λl=>?_⟩⟩;obtain⟨rfl,B⟩:=F i c v e;have N:c= .top:=by have:(Sub.g1 i c).cls= .G .top:=Q;injection this
    rw[dv]at B;have B:v=m c:=B;subst N B;rw[jJ,qa];have:=pY h;rw[l]at this;rcases skD h with⟨-,e⟩|⟨-,e,-⟩
    ·simp[dG,e]
    omega
   | oc o=>exact⟨K.1,K.2.mono f zO⟩
   | orr n o=>exact⟨K.1,K.2.mono f zO⟩
   | od o=>exact⟨K.1,K.2.mono f zO⟩
  | ret r d=>
   obtain⟨q,F⟩:=rR H;show oR _ op A' w _ (nu r d u);cases u with
   | ut=>
    cases r with
    | tk n p ok=>cases ok<;>first|exact trivial | exact⟨q,K⟩
    | _=>exact trivial
   | ug p=>exact .inr ⟨_,K.2,Z,K.1,Z,Z⟩
   | og=>
    cases r with
    | gd v p=>
     obtain⟨⟨i,c,rfl⟩,rfl⟩:=F v p Z;obtain⟨T,P⟩:=K.2.2 i c v Z;show oR _ op A' w _ (if _ then _ else _);rw[<- q];split
     ·rename_i l;exact Di K.1 (.inl ⟨K.2.1,z.made-1,zO,.inr (.inl ⟨K.1,Z,Z,by rw[f _ zO];exact P l⟩)⟩)
     exact⟨Z,K.1,K.2.1⟩
    | _=>exact trivial
   | oc o=>exact fQ.mono f zO (show fQ op A z.made w ⟨o.val,o.is,o.bc,d.gone⟩from K.2)
   | orr n o=>exact⟨q,K.1,K.2.mono f zO⟩
   | od o=>exact fQ.mono f zO (show fQ op A z.made w ⟨o.val,o.is,o.bc,d.gone⟩from K.2)
 | u1 n=>exact⟨Z,K⟩
 | u2 n=>exact⟨Z,K⟩
 | u3 n k=>exact⟨Z,K⟩
 | u4 n k=>
  cases b:(((EPh.u4 n k).acc s op.a).res m).2 with
  | false=>simp only[EPh.stp,b];exact⟨Z,K⟩
  | true=>simp only[EPh.stp,b,if_true];exact .inr ⟨_,Z,Z,K.1,Z,Z⟩
 | u5 n=>
  show oR _ op A' w _ (if _ then _ else _);split
  ·exact⟨Z,K⟩
  rename_i E;exact⟨Z,K.1,K.2,db E⟩
 | u6 n x=>
  show oR _ op A' w _ (if _ then _ else _);split
  ·exact⟨Z,K.1,.inl K.2.1⟩
  exact⟨Z,K.1,K.2.1⟩
 | u7 j n x p=>
  have l:(((EPh.u7 j n x p).acc s op.a).res m).1=m .slot:=dv _ _;show oR _ op A' w _ (if _ then _ else if _ then _ else _);rw[l];split
  ·rename_i S;refine⟨Z,K.1,?_⟩;rcases K.2 with e|e
   ·exact absurd (G.1 e) S
   exact e
  split<;>exact⟨Z,K⟩
 | u8 n x p=>
  cases b:(((EPh.u8 n x p).acc s op.a).res m).2 with
  | false=>
   simp only[EPh.stp,b];refine⟨Z,K.1,?_⟩;rcases K.2 with e|e
   ·have C:=G.1 e;have:(((EPh.u8 n x p).acc s op.a).res m).2=O:=by
     unfold LAc.res;rw[if_neg (by rintro⟨-,D⟩;exact D C)]
    rw[b]at this;cases this
   exact e
  | true=>
   simp only[EPh.stp,b,if_true];refine⟨Z,K.1,?_⟩;rcases K.2 with e|e
   ·exact e
   have C:=G.2 (by rw[e];simp);have D:m .slot=fS op.a x:=(bP (a:=(EPh.u8 n x p).acc s op.a) Z b).1;have I:=mh (fS op.a x);rw[<- C,D,(tI M).1]at I;exact absurd I zD
 | u9 n x p=>exact⟨Z,K⟩
 | o2 k=>exact⟨Z,K⟩
 | o3 k below=>
  cases b:(((EPh.o3 k below).acc s op.a).res m).2 with
  | false=>simp only[EPh.stp,b];exact⟨Z,K⟩
  | true=>
   simp only[EPh.stp,b,if_true];refine⟨Z,K.1,?_⟩;have J:((EPh.o3 k below).acc s op.a).mem m=bz m .top (dC k below):=(bP Z b).2;rw[J,eV _ _ zS];rfl
 | o4 n p=>
  have l:(((EPh.o4 n p).acc s op.a).res m).1=m (.nd n 1):=dv _ _;have ho:fQ op A' (z.made+1) w ⟨m (.nd n 1),O,p,[]⟩:=.inr ⟨_,K.2,Z,K.1,Z⟩;show oR _ op A' w _ ((df z.got 0).jc (.orr n ⟨_,O,p,[]⟩) λ_ s=>.go (.sub (.r1 n) (.od ⟨_,O,p,[]⟩)) s);rw[l];have:=iE z.got 0;cases y:df z.got 0 with
  | go x d=>rw[y]at this;have this:d=z.got:=this;subst this;exact⟨Z,K.1,ho⟩
  | ret r d=>rw[y]at this;have this:d=z.got:=this.1;subst this;exact⟨Z,K.1,ho⟩
  | stuck=>exact trivial
 | o5=>
  show oR _ op A' w _ (if _ then _ else _);split
  ·exact Ck (z:=z.got) K.1 K.2
  rename_i E;exact⟨Z,K.1,K.2,db E⟩
 | o6 x=>
  cases b:(((EPh.o6 x).acc s op.a).res m).2 with
  | false=>simp only[EPh.stp,b];exact Ck (z:=z.got) K.1 K.2.1
  | true=>simp only[EPh.stp,b,if_true];exact Di (z:=z.got) K.1 (.inr ⟨_,Z,Z,K.1,Z⟩)
theorem LC.env(e:Env t m g m' g')(b:xW s m g a z x)(K:LC m op A w L x):LC m' op A w L x:=by
 cases x with
 | o4 n p=>exact⟨K.1,by rw[(e.isS n b.ok).2.2];exact K.2⟩
 | sub x c=>cases c<;>exact K
 | _=>exact K
def CLin(op:Opr)(A:Nat->Ab)(w:Option Ef)(L:Nat):CPh->Prop
 | .sub _ (.sg _) | .sub _ (.st _)=>op.kind=6/\w=Y
 | .sub _ (.sv _)=>op.kind=6/\w=J (.send op.a)
 | .sub _ .rg=>op.kind=7/\w=Y
 | .sub _ (.oc o)=>fQ op A L w o
 | .s7 _ _ _=>op.kind=6/\w=J (.send op.a)
 | .r2 _ _ | .r3 _ _ _ | .r4 _=>op.kind=7/\w=Y
 | _=>op.kind=6/\w=Y
def nN(op:Opr)(A:Nat->Ab)(w:Option Ef)(L:Nat):CX->Prop
 | .go x z=>z.made=L/\CLin op A w L x/\CHd x
 | .out o=>fQ op A L w o
 | .stuck=>True
theorem nI{d:Int}(h:fQ op A z.made w ⟨val,is,d,[]⟩):nN op A w z.made (iY val is d z):=by
 have:=iE z 0;unfold iY;cases b:df z 0 with
 | go x a=>
  rw[b]at this;have this:a=z:=this;subst this;refine⟨Z,h,?_⟩;cases x with
  | g2 i c v=>cases c<;>exact trivial
  | _=>exact trivial
 | ret r a=>rw[b]at this;have this:a=z:=this.1;subst this;exact h
 | stuck=>exact trivial
theorem yT(b:op.kind=6)(a:w=Y):nN op A w z.made (oN bq z):=⟨Z,⟨b,a⟩,trivial⟩
theorem zq(c:op.kind=6)(b:w=Y):nN op A w z.made (jN bq a i z):=by
 unfold jN;split<;>exact⟨Z,⟨c,b⟩,trivial⟩
theorem zw(c:op.kind=7)(b:w=Y)(H:idxOf a=2):nN op A w z.made (jO a i z):=by
 unfold jO;split<;>exact⟨Z,⟨c,b⟩,H⟩
theorem Dk(h:Gl m g)(C:Li m g){i:Int}(k:mZ m 2 i)(hi:0<=i/\i<=5)(u:m (.nd 2 0)=0)(d:i<5->m (.nd 2 (1+i))=0)(o:g.st 2= .sg):(dG m g).ch=[]:=by
 obtain⟨r,f⟩:=h.c2;have c:=h.cch;have v:g.sg=[2]:=by
  rw[f]at c ⊢;cases r with
  | nil=>rfl
  | cons b r=>
   have:m (.nd 2 0)=b:=c.1;rw[u]at this;have G:=tq h (x:=b) (by rw[f];simp);omega
 have E:∀j,1<=j->j<=5->m (.nd 2 j)=1\/m (.nd 2 j)=0:=by
  intro j F y;by_cases D:j<=i
  ·exact .inl (k j F D)
  right;by_cases e:j=1+i
  ·rw[e];exact d M
  exact db λB=>C.fo 2 o (1+i) j M M y B (d M)
 show g.sg.flatMap (jo m)=[];rw[v];show jo m 2++[]=[];have n:∀l:List Int,(∀x∈l,x=1\/x=0)->jq l=[]:=by
  intro l q;unfold jq;rw[List.filter_eq_nil_iff.2 (by intro x a;rcases q x a with rfl|rfl<;>decide)];rfl
 rw[List.append_nil,nh];refine n _ λx a=>?_;simp only[aL,be,or_false]at a;rcases a with rfl|rfl|rfl|rfl|rfl<;>exact E _ zD zD
theorem CPh.lin(h:Gl m g)(N:Li m g){x:CPh}(R:yJ s m g op.a z x)(K:CLin op A w z.made x)(H:CHd x)(I:∀p,p<z.made->A' p=A p)(J:A' z.made=dG m g):
  nN op A' (upW w (cEf op.a x ((x.acc s op.a).res m).2)) (z.made+1) (x.stp th op.a z ((x.acc s op.a).res m)):=by
 have E:=R.ok;cases x with
 | sub x k=>
  show nN op A' w _ ((x.stp th z ((x.acc s).res m)).oM k λt s=>oS t s k);have M:=E.2;cases G:x.stp th z ((x.acc s).res m)with
  | stuck=>exact trivial
  | go qa C=>
   obtain⟨d,F⟩:=Al G;refine⟨d,?_,?_⟩
   ·cases k with
    | oc o=>exact fQ.mono I zO K
    | _=>exact K
   cases k with
   | rg=>
    cases qa with
    | g2 i c v=>
     obtain⟨rfl,y⟩:=F i c v Z;have B:c= .head:=by have:(Sub.g1 i c).cls= .G .head:=M;injection this
     rw[dv]at y;have y:v=m c:=y;subst B y;show idxOf (m .head)=2;obtain⟨U,P⟩:=h.chd;rw[P];exact gw _ _ _ zD zD
    | _=>exact trivial
   | _=>
    cases qa with
    | g2 i c v=>cases c<;>exact trivial
    | _=>exact trivial
  | ret r C=>
   obtain⟨d,F⟩:=rR G;show nN op A' w _ (oS r C k);cases k with
   | sg bq=>cases r<;>first|exact⟨d,K,trivial⟩ | exact trivial
   | st a=>
    cases r with
    | tk n p ok=>cases ok<;>first|exact trivial | exact⟨d,K,trivial⟩
    | _=>exact trivial
   | sv p=>rw[<- d];exact nI (.inr ⟨_,K.2,Z,K.1,Z,Z⟩)
   | rg=>
    cases r with
    | gd v p=>
     obtain⟨⟨i,c,rfl⟩,rfl⟩:=F v p Z;have B:c= .head:=by have:(Sub.g2 i c v).cls= .G .head:=M;injection this
     subst B;exact⟨d,K,H⟩
    | _=>exact trivial
   | oc o=>exact fQ.mono I zO (show fQ op A z.made w ⟨o.val,o.is,o.bc,C.gone⟩from K)
 | s2 bq a i=>
  show nN op A' w _ (if _ then _ else _);split
  ·exact⟨Z,K,trivial⟩
  exact zq (z:=z.got) K.1 K.2
 | s3 bq a i=>
  cases b:(((CPh.s3 bq a i).acc s op.a).res m).2 with
  | false=>simp only[CPh.stp,b];exact zq (z:=z.got) K.1 K.2
  | true=>
   simp only[CPh.stp,b,if_true];split
   ·exact⟨Z,⟨K.1,Z⟩,trivial⟩
   exact nI (z:=z.got) (.inr ⟨_,Z,Z,K.1,Z,Z⟩)
 | s4 bq a=>
  show nN op A' w _ (if _ then _ else if _ then _ else _);split
  ·exact⟨Z,K,trivial⟩
  split<;>exact⟨Z,K,trivial⟩
 | s5 bq a qb=>exact yT (z:=z.got) K.1 K.2
 | fl n a j=>show nN op A' w _ (if _ then _ else _);split<;>exact⟨Z,K,trivial⟩
 | s6 bq a=>
  cases b:(((CPh.s6 bq a).acc s op.a).res m).2 with
  | false=>simp only[CPh.stp,b];exact yT (z:=z.got) K.1 K.2
  | true=>simp only[CPh.stp,b,if_true];exact⟨Z,⟨K.1,Z⟩,trivial⟩
 | s7 n a p=>exact nI (z:=z.got) (.inr ⟨_,K.2,Z,K.1,Z,Z⟩)
 | r2 a i=>
  obtain⟨f,hi,q⟩:=E;have l:idxOf a=2:=H;rw[l]at f q;have D:(((CPh.r2 a i).acc s op.a).res m).1=m (.nd (idxOf a) (1+i)):=dv _ _;show nN op A' w _ (if _ then _ else if _ then _ else _);rw[D,l];split
  ·rename_i u;have Q:m (.nd 2 0)=0:=db λS=>h.cful 2 ((h.cmem 2).2 f) S (1+i) zO zO u;exact nI (z:=z.got) (.inl ⟨K.2,z.made,by show z.made<z.made+1;omega,.inr (.inr ⟨K.1,Z,Z,by rw[J];exact Dk h N q zO Q (λ_=>u) f⟩)⟩)
  split
  ·exact zw (z:=z.got) K.1 K.2 l
  exact⟨Z,K,H⟩
 | r3 a i T=>
  cases b:(((CPh.r3 a i T).acc s op.a).res m).2 with
  | false=>simp only[CPh.stp,b];exact zw (z:=z.got) K.1 K.2 H
  | true=>simp only[CPh.stp,b,if_true];exact nI (z:=z.got) (.inr ⟨_,Z,Z,K.1,Z⟩)
 | r4 a=>
  obtain⟨f,q⟩:=E;have l:idxOf a=2:=H;rw[l]at f q;have D:(((CPh.r4 a).acc s op.a).res m).1=m (.nd (idxOf a) 0):=dv _ _;show nN op A' w _ (if _ then _ else _);rw[D,l];split
  ·rename_i u;exact nI (z:=z.got) (.inl ⟨K.2,z.made,by show z.made<z.made+1;omega,.inr (.inr ⟨K.1,Z,Z,by rw[J];exact Dk h N (i:=5) q zD u (λe=>absurd e zD) f⟩)⟩)
  exact trivial
end
end
def Lw(m:Sm)(op:Opr)(A:Nat->Ab)(w:Option Ef)(L:Nat):Ph->Prop
 | .m x a _=>a=L/\Lx m op A w a x
 | .e x z=>z.made=L/\LC m op A w L x
 | .c x z=>z.made=L/\CLin op A w L x/\CHd x
def iA(m:Sm)(op:Opr)(A:Nat->Ab)(w:Option Ef)(L:Nat):PX->Prop
 | .go x=>Lw m op A w L x
 | .out o=>fQ op A L w o
 | .stuck=>True
def PX.off:PX->Bool
 | .go (.e x _)=>x.off
 | _=>X
def PX.sl(m:Sm)(a:Int)(w:Option Ef):PX->Prop
 | .go (.e x _)=>SlR m a w x
 | _=>True
def Ph.ef(op:Opr)(m:Sm):Ph->Bool->Ef
 | .m x _ _,r=>mEf ⟨op.kind,op.a,op.b⟩ x r
 | .e x _,r=>eEf op.a m x r
 | .c x _,r=>cEf op.a x r
def Ph.ew(op:Opr)(m:Sm)(x:Ph)(r:Bool)(w:Option Ef):Option Ef:=match x with
 | .e x _=>eW op.a m x r w
 | _=>upW w (x.ef op m r)
def Ph.loud:Ph->Bool->Bool
 | .e (.u6 _ _) _,r=>r
 | .e (.u8 _ _ _) _,r=>r
 | .e (.u9 _ _ _) _,_=>O
 | .e (.o6 _) _,r=>r
 | _,_=>X
section
variable {m m':Sm} {g g':Gh} {s t:Nat} {op:Opr} {A A':Nat->Ab} {w:Option Ef} {L L':Nat} {z:Pz}
theorem Ph.cont(h:Gl m g)(L0:Li m g){x:Ph}(hx:POk s m g op x)(K:Lw m op A w L x):
  (dG ((x.acc s op.a).mem m) (x.gst s g ((x.acc s op.a).res m))=(x.ef op m ((x.acc s op.a).res m).2).ap (dG m g)/\(x.ef op m ((x.acc s op.a).res m).2).pre (dG m g))/\Li ((x.acc s op.a).mem m) (x.gst s g ((x.acc s op.a).res m)):=by
 have quiet:∀(y:LAc) (g':Gh),(∀n,g'.st n= .sg ↔ g.st n= .sg)->(∀n i,g.st n= .sg->y.mem m (.nd n i)=m (.nd n i))->Li (y.mem m) g':=λy g' h1 h2=>L0.aw h1 λn i hn _ _=>h2 n i hn;cases x with
 | m x made gn=>
  refine⟨MPh.cont h hx.2,?_⟩;have fC:=hx.2.ok;cases x with
  | ml dm sz mm lo y z=>
   have hl:ui s m g lo z y:=fC.1;have qR:=hl.ok;show Li ((y.acc s lo).mem m) (y.gst s g lo ((y.acc s lo).res m));have st1:∀ {a:Int} {p:Pl},p≠ .sg->g.st a≠ .sg->∀n,dO g.st a p n= .sg ↔ g.st n= .sg:=λh1 h2 n=>ng _ h1 h2;have isl:∀ {a:Int},(g.st a).isL=O->g.st a≠ .sg:=λh e=>by rw[e]at h;cases h
   have ne:∀ {c n:Int},g.st c≠ .sg->g.st n= .sg->n≠c:=by rintro c n h1 h2 rfl;exact h1 h2
   have cas:∀(y:LPh) (c i:Int),(y.acc s lo).k=3->(y.acc s lo).c= .nd c i->g.st c≠ .sg->∀n j,g.st n= .sg->(y.acc s lo).mem m (.nd n j)=m (.nd n j):=by
    intro y c i hk hc N5 n j hn;cases hr:((y.acc s lo).res m).2 with
    | false=>rw[bx hk hr]
    | true=>rw[(bP hk hr).2,hc];exact dY m c i _ (.inl (ne N5 hn))
   cases y with
   | sub y kk=>exact L0.aw (λn=>uU h qR.1 n zS zS) λn i _ _ h5=>o7 y n i h5
   | fs kk f next told=>rw[a8 Z];exact L0
   | fo kk f next told=>rw[a8 Z];exact L0
   | gv n p=>rw[a8 Z];exact L0
   | p1 n prev cur=>rw[bF Z];exact tG L0 qR.2.1
   | p2 n prev cur=>rw[bF Z];exact tG L0 qR.2.1
   | p0 n prev cur=>rw[bF Z];exact tG L0 qR.2.1
   | fc kk f nx=>
    refine quiet _ _ (λn=>?_) (cas (.fc kk f nx) f.prev 0 Z Z (isl qR.2.1.2.2.2.1));simp only[LPh.gst];split
    ·exact st1 zS (isl (by rcases qR.2.1.2.2.2.2.2 with e|e;exact absurd e qR.2.2.1;exact e.1)) n
    exact Iff.rfl
   | pc n prev cur=>
    refine quiet _ _ (λn=>?_) (cas (.pc n prev cur) prev 0 Z Z (isl qR.2.2.1.1));simp only[LPh.gst];split
    ·exact st1 zS (by rw[qR.2.1];simp) n
    exact Iff.rfl
   | dm prev cur next=>
    refine quiet _ _ (λn=>?_) (cas (.dm prev cur next) cur 0 Z Z (isl (by rcases qR.2.2.1.2.2 with e|e;exact absurd e qR.2.2.2.1;exact e.1)));simp only[LPh.gst];split<;>exact Iff.rfl
   | du prev cur next p=>
    refine quiet _ _ (λn=>?_) (cas (.du prev cur next p) prev 0 Z Z (isl qR.2.2.1.1));simp only[LPh.gst];split
    ·exact st1 zS (isl (by rcases qR.2.2.1.2.2 with e|e;exact absurd e qR.2.2.2.1;exact e.1)) n
    exact Iff.rfl
  | m4 sz n=>
   cases hr:(((MPh.m4 sz n).acc s).res m).2 with
   | false=>show Li (((MPh.m4 sz n).acc s).mem m) g;rw[bx Z hr];exact L0
   | true=>show Li (((MPh.m4 sz n).acc s).mem m) g;rw[(bP Z hr).2];exact tV L0 (by intro n i e;cases e)
  | m6 sz o=>
   cases hr:(((MPh.m6 sz o).acc s).res m).2 with
   | false=>show Li (((MPh.m6 sz o).acc s).mem m) g;rw[bx Z hr];exact L0
   | true=>show Li (((MPh.m6 sz o).acc s).mem m) g;rw[(bP Z hr).2];exact tV L0 (by intro n i e;cases e)
  | m5 sz o=>show Li (((MPh.m5 sz o).acc s).mem m) g;rw[iR Z];exact tV L0 (by intro n i e;cases e)
  | m7 o=>show Li (((MPh.m7 o).acc s).mem m) g;rw[iR Z];exact tV L0 (by intro n i e;cases e)
  | m1=>show Li ((MPh.m1.acc s).mem m) g;rw[a8 Z];exact L0
  | m2 sz b=>show Li (((MPh.m2 sz b).acc s).mem m) g;rw[a8 Z];exact L0
  | m3 sz=>show Li (((MPh.m3 sz).acc s).mem m) g;rw[a8 Z];exact L0
 | e x z=>
  refine⟨EPh.cont h hx.2.2,?_⟩;have fC:=hx.2.2.ok;have cas:∀(y:EPh) (g':Gh),(y.acc s op.a).k=3->(y.acc s op.a).c= .top\/(y.acc s op.a).c= .slot->(∀n,g'.st n= .sg ↔ g.st n= .sg)->Li ((y.acc s op.a).mem m) g':=by
   intro y g' hk hc hg;refine L0.aw hg λn i _ _ _=>?_;cases hr:((y.acc s op.a).res m).2 with
   | false=>rw[bx hk hr]
   | true=>rw[(bP hk hr).2];rcases hc with e | e<;>rw[e]<;>exact eV m _ zS
  show Li ((x.acc s op.a).mem m) (x.gst s g ((x.acc s op.a).res m));cases x with
  | sub y kk=>exact L0.aw (λn=>uU h fC.1 n zS zS) λn i _ _ h5=>o7 y n i h5
  | u1 n=>rw[bF Z];exact tG L0 fC
  | u3 n dq=>rw[bF Z];exact tG L0 fC.1
  | u4 n dq=>
   refine cas (.u4 n dq) _ Z (.inl Z) λy=>?_;simp only[EPh.gst];split
   ·exact ng _ zS (by rw[fC.1];simp)
   exact Iff.rfl
  | u6 n y=>exact cas (.u6 n y) g Z (.inr Z) λ_=>Iff.rfl
  | u8 n y p=>exact cas (.u8 n y p) g Z (.inr Z) λ_=>Iff.rfl
  | u9 n y p=>rw[bF Z];exact tV L0 (by intro n i e;cases e)
  | o3 dq below=>
   refine cas (.o3 dq below) _ Z (.inl Z) λy=>?_;cases hr:(((EPh.o3 dq below).acc s op.a).res m).2 with
   | false=>simp[EPh.gst,hr]
   | true=>
    simp only[EPh.gst,hr,if_true];refine ng _ zS ?_;have hm:m .top=dq:=(bP (a:=(EPh.o3 dq below).acc s op.a) Z hr).1;have hi:=pY h;rw[hm]at hi;rcases skD h with⟨e,-⟩|⟨e,-⟩
    ·exact absurd (hi.trans e) fC.1
    rw[e];simp
  | o6 y=>exact cas (.o6 y) g Z (.inr Z) λ_=>Iff.rfl
  | _=>rw[a8 Z];exact L0
 | c x z=>exact CPh.cont h L0 hx.2 K.2.2
end
section
variable {x:Ph} {bk th:Int}
section
variable {m m':Sm} {g g':Gh} {s t:Nat} {op:Opr} {A A':Nat->Ab} {w:Option Ef} {L L':Nat} {z:Pz}
theorem Ph.lin(h:Gl m g)(j:Li m g)(ho:kK op)(d:POk s m g op x)(K:Lw m op A w L x)(l:PX.sl m op.a w (.go x))(a:∀p,p<L->A' p=A p)(f:A' L=dG m g):
  iA ((x.acc s op.a).mem m) op A' (x.ew op m ((x.acc s op.a).res m).2 w) (L+1) (x.stp th bk op ((x.acc s op.a).res m)):=by
 have n:0<=op.a/\op.a<4294967296:=by have:=ho.a;omega
 cases x with
 | m x b gn=>
  obtain⟨rfl,K⟩:=K;have:=MPh.lin (th:=th) (bk:=bk) (s:=s) h d.2 K a f;show iA _ op A' _ _ (MX.p _)
  revert this
  show qV _ op A' _ _ (x.stp th bk ⟨op.kind,op.a,op.b⟩ b gn ((x.acc s).res m))->iA _ op A' _ _ (MX.p (x.stp th bk ⟨op.kind,op.a,op.b⟩ b gn ((x.acc s).res m)));cases x.stp th bk ⟨op.kind,op.a,op.b⟩ b gn ((x.acc s).res m)with
  | go i q g'=>exact id
  | out o=>exact id
  | stuck=>exact id
 | e x z=>
  obtain⟨rfl,K⟩:=K;have:=EPh.lin (th:=th) h n d.2.2 K l a f;show iA _ op A' _ _ (EX.p _)
  revert this
  show oR _ op A' _ _ (x.stp th op.a z ((x.acc s op.a).res m))->iA _ op A' _ _ (EX.p (x.stp th op.a z ((x.acc s op.a).res m)));cases x.stp th op.a z ((x.acc s op.a).res m)with
  | go i k=>exact id
  | out o=>exact id
  | stuck=>exact id
 | c x z=>
  obtain⟨rfl,K,H⟩:=K;have:=CPh.lin (th:=th) h j d.2 K H a f;show iA _ op A' _ _ (CX.p _)
  revert this
  show nN op A' _ _ (x.stp th op.a z ((x.acc s op.a).res m))->iA _ op A' _ _ (CX.p (x.stp th op.a z ((x.acc s op.a).res m)));cases x.stp th op.a z ((x.acc s op.a).res m)with
  | go i k=>exact id
  | out o=>exact id
  | stuck=>exact id
theorem iA.env(e:Env t m g m' g'){x:PX}(b:∀y,x= .go y->POk s m g op y)(K:iA m op A w L x):iA m' op A w L x:=by
 cases x with
 | go y=>
  have a:=b y Z;cases y with
  | m x d gn=>exact⟨K.1,K.2.env e a.2⟩
  | e x z=>exact⟨K.1,K.2.env e a.2.2⟩
  | c x z=>exact K
 | out o=>exact K
 | stuck=>exact trivial
theorem iA.mono{x:PX}(a:∀p,A' p=A p)(K:iA m op A w L x):iA m op A' w L x:=by rw[show A'=A from funext a];exact K
theorem lU(a:1<=op.kind/\op.kind<=7)(gn:cq):iA m op A Y 0 (ee op gn)/\(ee op gn).off=X/\PX.sl m op.a Y (ee op gn):=by
 unfold ee;split
 ·exact⟨⟨Z,Z⟩,Z,trivial⟩
 split
 ·rcases (show op.kind=4\/op.kind=5 by omega)with h|h<;>rw[h]
  ·exact⟨⟨Z,h,Z⟩,Z,trivial⟩
  exact⟨⟨Z,h,Z,λi c v e=>by cases e⟩,Z,trivial⟩
 split
 ·rcases (show op.kind=6\/op.kind=7 by omega)with h|h<;>rw[h]
  ·exact⟨⟨Z,⟨h,Z⟩,trivial⟩,Z,trivial⟩
  exact⟨⟨Z,⟨h,Z⟩,trivial⟩,Z,trivial⟩
 exact⟨trivial,Z,trivial⟩
theorem Nd(X:MX)(m:Sm)(a:Int)(w:Option Ef):X.p.off=false/\PX.sl m a w X.p:=by cases X<;>exact⟨Z,trivial⟩
theorem Ou(X:CX)(m:Sm)(a:Int)(w:Option Ef):X.p.off=false/\PX.sl m a w X.p:=by cases X<;>exact⟨Z,trivial⟩
theorem iN{a:LAc}(b:a.c≠ .slot):a.mem m .slot=m .slot:=by
 unfold LAc.mem
 (repeat' split)<;>first|rfl|exact eV m _ (λe=>b e.symm)
def EX.quiet:EX->Prop
 | .go x _=>x.off=X
 | _=>True
theorem EX.Jl{X:EX}(h:X.quiet)(m:Sm)(a:Int)(w:Option Ef):X.p.off=false/\PX.sl m a w X.p:=by
 cases X with
 | go x z=>
  refine⟨h,?_⟩;cases x<;>first|exact trivial|cases h
 | _=>exact⟨Z,trivial⟩
theorem xH(val a:Int)(is:Bool)(z:Pz):(oT val is a z).quiet:=by
 unfold oT;cases df z 0<;>first|exact Z|exact trivial
theorem H6(r:Ret)(z:Pz)(k:EK):(nu r z k).quiet:=by
 cases k with
 | ut=>cases r<;>first|exact trivial | (rename_i n p ok;cases ok<;>first|exact trivial | exact Z)
 | ug p=>exact trivial
 | og=>cases r<;>first|exact trivial | (show EX.quiet (if _ then _ else _);split<;>first|exact xH _ _ _ _ | exact Z)
 | oc o=>exact trivial
 | orr n o=>exact Z
 | od o=>exact trivial
theorem Ph.quiet{r:Int × Bool}(K:Lw m op A w L x)(f:PX.sl m op.a w (.go x))(i:r=(x.acc s op.a).res m)(b:x.loud r.2=X):
  (x.acc s op.a).mem m .slot=m .slot/\(x.stp th bk op r).off=(PX.go x).off/\PX.sl ((x.acc s op.a).mem m) op.a (x.ew op m r.2 w) (x.stp th bk op r):=by
 cases x with
 | m x o gn=>
  have d:=Nd (x.stp th bk ⟨op.kind,op.a,op.b⟩ o gn r) (((Ph.m x o gn).acc s op.a).mem m) op.a ((Ph.m x o gn).ew op m r.2 w);refine⟨?_,d.1,d.2⟩;show (x.acc s).mem m .slot=m .slot;cases x with
  | ml I M J G y z=>cases y<;>first|exact vF _ | exact iN (by intro e;cases e)
  | _=>exact iN (by intro e;cases e)
 | c x z=>
  have d:=Ou (x.stp th op.a z r) (((Ph.c x z).acc s op.a).mem m) op.a ((Ph.c x z).ew op m r.2 w);refine⟨?_,d.1,d.2⟩;show (x.acc s op.a).mem m .slot=m .slot;cases x<;>first|exact vF _|exact iN (by intro e;cases e)
 | e x z=>
  have fin:∀ {P:EX},x.stp th op.a z r=P->x.off=X->P.quiet->(Ph.stp th bk op (.e x z) r).off=x.off/\PX.sl (((Ph.e x z).acc s op.a).mem m) op.a ((Ph.e x z).ew op m r.2 w) (Ph.stp th bk op (.e x z) r):=by
   intro P d k D;have E:=EX.Jl D (((Ph.e x z).acc s op.a).mem m) op.a ((Ph.e x z).ew op m r.2 w);show (x.stp th op.a z r).p.off=_/\PX.sl _ _ _ (x.stp th op.a z r).p;rw[d,k];exact E
  show (x.acc s op.a).mem m .slot=m .slot/\_=x.off/\_;cases x with
  | sub y q=>
   refine⟨vF y,fin Z Z ?_⟩;show EX.quiet ((y.stp th z r).jc q λt s=>nu t s q);cases y.stp th z r with
   | go F B=>exact Z
   | ret H B=>exact H6 _ _ _
   | stuck=>exact trivial
  | u1 n=>exact⟨iN (by intro e;cases e),fin rfl rfl rfl⟩
  | u2 n=>exact⟨iN (by intro e;cases e),fin rfl rfl rfl⟩
  | u3 n l=>exact⟨iN (by intro e;cases e),fin rfl rfl rfl⟩
  | u4 n l=>exact⟨iN (by intro e;cases e),fin rfl rfl (by show EX.quiet (if _ then _ else _);split<;>first|exact trivial | exact Z)⟩
  | u5 n=>exact⟨by rw[a8 Z],fin Z Z (by show EX.quiet (if _ then _ else _);split<;>exact Z)⟩
  | u6 n y=>
   have b:r.2=X:=b;refine⟨congrFun (bx (a:=(EPh.u6 n y).acc s op.a) Z (by rw[i]at b;exact b)) _,fin Z Z ?_⟩;simp only[EPh.stp,b];exact Z
  | u7 j n y p=>
   have h:((EPh.u7 j n y p).acc s op.a).mem m=m:=a8 Z m;refine⟨congrFun h _,?_⟩;have C:r.1=m .slot:=by rw[i];exact dv _ _
   show (EX.p (if r.1≠fS op.a y then _ else if j=0 then _ else _)).off=O/\PX.sl (((EPh.u7 j n y p).acc s op.a).mem m) op.a w (EX.p (if r.1≠fS op.a y then _ else if j=0 then _ else _));rw[h];split
   ·rename_i u;refine⟨Z,?_⟩;rw[C]at u;refine f.2 λe=>u (f.1 e)
   split
   ·exact⟨Z,f⟩
   exact⟨Z,f⟩
  | u8 n y p=>
   have b:r.2=X:=b;have v:(((EPh.u8 n y p).acc s op.a).res m).2=X:=by rw[i]at b;exact b
   have h:((EPh.u8 n y p).acc s op.a).mem m=m:=bx Z v;refine⟨congrFun h _,?_⟩;show (EX.p (if r.2 then _ else _)).off=O/\PX.sl (((EPh.u8 n y p).acc s op.a).mem m) op.a w (EX.p (if r.2 then _ else _));rw[h,b];refine⟨Z,f.2 λe=>?_⟩;have d:=f.1 e;have:(((EPh.u8 n y p).acc s op.a).res m).2=O:=by
    unfold LAc.res;rw[if_neg (by rintro⟨-,k⟩;exact k d)]
   rw[v]at this;cases this
  | u9 n y p=>cases b
  | o2 l=>exact⟨iN (by intro e;cases e),fin rfl rfl rfl⟩
  | o3 l below=>exact⟨iN (by intro e;cases e),fin rfl rfl (by show EX.quiet (if _ then _ else _);split<;>exact Z)⟩
  | o4 n p=>
   refine⟨iN (by intro e;cases e),fin rfl rfl ?_⟩;show EX.quiet ((df z.got 0).jc _ _);cases df z.got 0<;>first|exact Z|exact trivial
  | o5=>exact⟨by rw[a8 Z],fin Z Z (by show EX.quiet (if _ then _ else _);split<;>exact Z)⟩
  | o6 y=>
   have b:r.2=X:=b;refine⟨congrFun (bx (a:=(EPh.o6 y).acc s op.a) Z (by rw[i]at b;exact b)) _,fin Z Z ?_⟩;simp only[EPh.stp,b];exact Z
end
end
section
variable {i:Nat}
structure LnE where
 f:Nat
 op:Opr
 e:Ef
structure Sx where
 op:Opr
 px:PX
 st:List Nat
def kof(o:Opr):Int:=if o.kind<=3 then 1 else if o.kind<=5 then 2 else 3
def HU:List LnE->Ab->Ab
 | [],c=>c
 | x :: r,c=>HU r (x.e.ap c)
def okE:List LnE->Ab->Prop
 | [],_=>True
 | x :: r,c=>x.e.pre c/\okE r (x.e.ap c)
def ab0:Ab:=⟨λ_ _=>False,[],[]⟩
def J1(C:Nat->Ab)(E:Nat->List LnE)(N:Nat)(c:cd):Prop:=
 c.first<=c.last/\c.last<N/\((∃p,c.first<=p/\p<=c.last/\Rd1 c.op (C p) c.val c.is/\∀i,i<N->∀a∈E i,a.f≠c.first)\/∃i e,c.first<=i/\i<=c.last/\⟨c.first,c.op,e⟩∈E i/\mT c.op e c.val c.is)
structure Ln (m:Sm) (g:Gh) (N:Nat) (cur:Nat->Option Sx) (calls:List cd) (C:Nat->Ab) (E:Nat->List LnE) (w:Nat->Option Ef):Prop where
 c0:C 0=ab0
 now:C N=dG m g
 st:∀i,i<N->okE (E i) (C i)/\C (i+1)=HU (E i) (C i)
 li:Li m g
 lin:∀s x,cur s=J x->iA m x.op (λp=>C (x.st.getD p 0)) (w s) x.st.length x.px/\PX.sl m x.op.a (w s) x.px
 wn:∀s,cur s=Y->w s=Y
 sb:∀s x,cur s=J x->x.st.Pairwise (· < ·)/\∀i∈x.st,i<N
 wr:∀s e,w s=J e->∃x f i,cur s=J x/\x.st[0]? =J f/\f<=i/\i<N/\⟨f,x.op,e⟩∈E i/\(x.px.off=O\/∃l∈x.st,i<=l)
 ev:∀i,i<N->∀a∈E i,(∃s x,cur s=J x/\x.st[0]? =J a.f/\x.op=a.op/\w s=J a.e)\/∃c∈calls,c.first=a.f/\c.op=a.op
 un:∀i j a b,i<N->j<N->a∈E i->b∈E j->a.f=b.f->i=j/\a=b
 nd:∀i,i<N->((E i).map (·.f)).Nodup
 kd:∀i,i<N->∀a∈E i,∀b∈E i,kof a.op=kof b.op
 vl:∀i,i<N->∀a∈E i,∃v,mT a.op a.e v O
 cl:∀c∈calls,J1 C E N c
 id1:(calls.map (·.first)).Nodup
 id2:∀s x f,cur s=J x->x.st[0]? =J f->∀c∈calls,c.first≠f
 id3:∀s t x y f,cur s=J x->cur t=J y->x.st[0]? =J f->y.st[0]? =J f->s=t
 so:(∃s x,cur s=J x/\x.px.off=O)\/ji (m .slot)=0
 nz:∀s x,cur s=J x->x.px.off=O->x.st≠[]
 so1:∀s t x y,cur s=J x->cur t=J y->x.px.off=O->y.px.off=O->s=t
section
variable {m m':Sm} {g g':Gh} {N s:Nat} {cur:Nat->Option Sx} {calls:List cd} {C:Nat->Ab} {E:Nat->List LnE} {w w':Nat->Option Ef} {op:Opr} {px AB:PX} {st:List Nat} {ne:List LnE}
def tK(C:Nat->Ab)(N:Nat)(c:Ab):Nat->Ab:=λi=>if i<=N then C i else c
def If(E:Nat->List LnE)(N:Nat)(ne:List LnE):Nat->List LnE:=λi=>if i=N then ne else E i
theorem eZ{c:Ab}(h:i<=N):tK C N c i=C i:=if_pos h
theorem ep(h:i≠N):If E N ne i=E i:=if_neg h
theorem fy:If E N ne N=ne:=if_pos Z
theorem xo(st:List Nat)(N:Nat):(st++[N])[0]? =J (match st with | []=>N|a :: _=>a):=by cases st<;>rfl
theorem Ln.put(K:Ln m g N cur calls C E w)(hs:cur s=J ⟨op,px,st⟩)(h1:okE ne (dG m g))(h2:dG m' g'=HU ne (dG m g))(hL:Li m' g')(xk:iA m' op (λp=>tK C N (dG m' g') ((st++[N]).getD p 0)) (w' s) (st.length+1) AB/\PX.sl m' op.a (w' s) AB)(NN:∀t x,t≠s->cur t=J x->iA m' x.op (λp=>C (x.st.getD p 0)) (w' t) x.st.length x.px/\PX.sl m' x.op.a (w' t) x.px)(qe:∀t,w' t=w t\/∃x f e,fD cur s (J ⟨op,AB,st++[N]⟩) t=J x/\x.st[0]? =J f/\w t=Y/\w' t=J e/\⟨f,x.op,e⟩∈ne/\(t=s\/x.px.off=O))(qQ:∀a∈ne,∃t x,fD cur s (J ⟨op,AB,st++[N]⟩) t=J x/\x.st[0]? =J a.f/\x.op=a.op/\w t=Y/\w' t=J a.e)(sY:(ne.map (·.f)).Nodup)(hkd:∀a∈ne,∀b∈ne,kof a.op=kof b.op)(hvl:∀a∈ne,∃v,mT a.op a.e v O)(KO:(∃t x,fD cur s (J ⟨op,AB,st++[N]⟩) t=J x/\x.px.off=O)\/ji (m' .slot)=0)(hso1:∀a b x y,fD cur s (J ⟨op,AB,st++[N]⟩) a=J x->fD cur s (J ⟨op,AB,st++[N]⟩) b=J y->x.px.off=O->y.px.off=O->a=b):
  Ln m' g' (N+1) (fD cur s (J ⟨op,AB,st++[N]⟩)) calls (tK C N (dG m' g')) (If E N ne) w':=by
 have L:∀t x,fD cur s (J ⟨op,AB,st++[N]⟩) t=J x->(t=s/\x=⟨op,AB,st++[N]⟩)\/(t≠s/\cur t=J x):=by
  intro t x d;by_cases e:t=s
  ·subst e;rw[bL]at d;injection d with d;exact .inl ⟨Z,d.symm⟩
  rw[cQ _ _ e]at d;exact .inr ⟨e,d⟩
 have hd:∀t x f,fD cur s (J ⟨op,AB,st++[N]⟩) t=J x->x.st[0]? =J f->(∃y,cur t=J y/\y.st[0]? =J f/\y.op=x.op)\/(t=s/\st=[]/\f=N):=by
  intro t x f d k;rcases L t x d with⟨rfl,rfl⟩|⟨-,d⟩
  ·simp only[xo]at k;injection k with k;cases st with
   | nil=>exact .inr ⟨Z,Z,k.symm⟩
   | cons a r=>exact .inl ⟨_,hs,congrArg J k,Z⟩
  exact .inl ⟨x,d,k,Z⟩
 have CT:∀t y f,cur t=J y->y.st[0]? =J f->∃x,fD cur s (J ⟨op,AB,st++[N]⟩) t=J x/\x.st[0]? =J f/\x.op=y.op/\(t≠s->x=y)/\(t=s->x.st=st++[N]):=by
  intro t y f n k;by_cases e:t=s
  ·subst e;rw[hs]at n;injection n with n;subst n;refine⟨_,bL _ _ _,?_,Z,λh=>absurd Z h,λ_=>Z⟩;cases st with
   | nil=>cases k
   | cons a r=>exact k
  exact⟨y,by rw[cQ _ _ e];exact n,k,Z,λ_=>Z,λh=>absurd h e⟩
 have R:∀t y f,cur t=J y->y.st[0]? =J f->f<N:=λt y f n k=>(K.sb t y n).2 f (aU k);have oldf:∀i,i<N->∀a∈E i,a.f<N:=by
  intro i hi a o;rcases K.ev i hi a o with⟨t,x,d,k,-⟩|⟨c,z,k,-⟩
  ·exact R t x _ d k
  have:=K.cl c z;have:=this.1;have:=(K.cl c z).2.1;omega
 have Nc:∀a∈ne,∀i,i<N->∀b∈E i,a.f≠b.f:=by
  intro a o i hi b u e;obtain⟨t,x,d,k,-,S,-⟩:=qQ a o;have kW:=oldf i hi b u;rcases hd t x _ d k with⟨y,n,B,-⟩|⟨-,-,hN⟩
  ·rcases K.ev i hi b u with⟨G,x2,u0,T,-,hw2⟩|⟨c,z,hfc,-⟩
   ·have:=K.id3 t G y x2 a.f n u0 B (by rw[e];exact T);subst this;rw[S]at hw2;cases hw2
   exact K.id2 t y a.f n B c z (hfc.trans e.symm)
  omega
 refine⟨by rw[eZ (aN _)];exact K.c0,if_neg zO,λi hi=>?_,hL,λt x d=>?_,λt P=>?_,λt x d=>?_,λt e I=>?_,λi hi a o=>?_,λi j a b hi hj o u e=>?_,λi hi=>?_,λi hi=>?_,λi hi=>?_,λc z=>?_,K.id1,λt x f d k c z=>?_,λt G x y f d n k T=>?_,KO,λt x d ho=>?_,hso1⟩
 ·by_cases e:i=N
  ·subst e;rw[fy,eZ (aq _),K.now];exact⟨h1,(if_neg zO).trans h2⟩
  rw[ep e,eZ zO,eZ zO];exact K.st i zO
 ·rcases L t x d with⟨rfl,rfl⟩|⟨H,d⟩
  ·refine⟨?_,xk.2⟩;show iA m' op _ (w' t) (st++[N]).length AB;rw[bE];exact xk.1
  obtain⟨k1,k2⟩:=NN t x H d;refine⟨k1.mono λp=>?_,k2⟩;refine eZ ?_;rw[dJ];cases hp:x.st[p]? with
  | none=>exact aN _
  | some v=>exact ed ((K.sb t x d).2 v (aU hp))
 ·have H:t≠s:=by rintro rfl;rw[bL]at P;cases P
  rcases qe t with e|⟨x,f,e,d,-⟩
  ·rw[e];rw[cQ _ _ H]at P;exact K.wn t P
  rw[P]at d;cases d
 ·rcases L t x d with⟨rfl,rfl⟩|⟨H,d⟩
  ·obtain⟨M,A⟩:=K.sb t _ hs;refine⟨List.pairwise_append.2 ⟨M,zS,λa o b u=>?_⟩,λi hi=>?_⟩
   ·rw[bH.1 u];exact A a o
   rcases cy.1 hi with hi|hi
   ·have:=A i hi;omega
   rw[bH.1 hi];omega
  obtain⟨M,A⟩:=K.sb t x d;exact⟨M,λi hi=>by have:=A i hi;omega⟩
 ·rcases qe t with Q|⟨x,f,e',d,k,S,hw1,hmem,hor⟩
  ·rw[Q]at I;obtain⟨y,f,i,n,k,D,U,qa,h6⟩:=K.wr t e I;obtain⟨x,qc,F,q3,q4,q5⟩:=CT t y f n k;refine⟨x,f,i,qc,F,D,zO,by rw[ep zO,q3];exact qa,?_⟩;by_cases e:t=s
   ·exact .inr ⟨N,by rw[q5 e];simp,zO⟩
   rw[q4 e];exact h6
  rw[hw1]at I;injection I with I;subst I;refine⟨x,f,N,d,k,?_,zO,by rw[fy];exact hmem,?_⟩
  ·rcases hd t x f d k with⟨y,n,B,-⟩|⟨-,-,hN⟩
   ·exact ed (R t y f n B)
   omega
  rcases hor with rfl|ho
  ·rcases L t x d with⟨-,rfl⟩|⟨H,-⟩
   ·exact .inr ⟨N,zS,aq _⟩
   exact absurd Z H
  exact .inl ho
 ·by_cases e:i=N
  ·subst e;rw[fy]at o;obtain⟨t,x,D,U,qa,-,h7⟩:=qQ a o;exact .inl ⟨t,x,D,U,qa,h7⟩
  rw[ep e]at o;rcases K.ev i zO a o with⟨t,y,n,k,ho,hwt⟩|D
  ·obtain⟨x,qc,F,q3,-⟩:=CT t y _ n k;refine .inl ⟨t,x,qc,F,q3.trans ho,?_⟩;rcases qe t with Q|⟨_,_,_,_,_,S,_⟩
   ·rw[Q];exact hwt
   rw[S]at hwt;cases hwt
  exact .inr D
 ·by_cases ei:i=N
  ·subst ei;rw[fy]at o;by_cases qb:j=i;rotate_left
   ·rw[ep qb]at u;exact absurd e (Nc a o j zO b u)
   subst qb;rw[fy]at u;refine⟨Z,?_⟩;have inj:∀ {l:List LnE},(l.map (·.f)).Nodup->a∈l->b∈l->a=b:=by
    intro l;induction l with
    | nil=>intro _ h;cases h
    | cons c l ih=>
     intro h p q;obtain⟨u1,u2⟩:=cS.1 h;rcases aL.1 p with rfl|A
     ·rcases aL.1 q with rfl|F
      ·rfl
      exact absurd (List.mem_map.2 ⟨b,F,e.symm⟩) u1
     rcases aL.1 q with rfl|F
     ·exact absurd (List.mem_map.2 ⟨a,A,e⟩) u1
     exact ih u2 A F
   exact inj sY o u
  rw[ep ei]at o;by_cases qb:j=N
  ·subst qb;rw[fy]at u;exact absurd e.symm (Nc b u i zO a o)
  rw[ep qb]at u;exact K.un i j a b zO zO o u e
 ·by_cases e:i=N
  ·subst e;rw[fy];exact sY
  rw[ep e];exact K.nd i zO
 ·by_cases e:i=N
  ·subst e;rw[fy];exact hkd
  rw[ep e];exact K.kd i zO
 ·by_cases e:i=N
  ·subst e;rw[fy];exact hvl
  rw[ep e];exact K.vl i zO
 ·obtain⟨D,U,qa⟩:=K.cl c z;refine⟨D,zO,?_⟩;rcases qa with⟨p,M,A,p3,p4⟩|⟨i,e,i1,i2,i3,i4⟩
  ·refine .inl ⟨p,M,A,by rw[eZ zO];exact p3,λi hi a o=>?_⟩;by_cases e:i=N
   ·subst e;rw[fy]at o;obtain⟨t,x,d,k,-⟩:=qQ a o;intro qd;rcases hd t x _ d k with⟨y,n,B,-⟩|⟨-,-,hN⟩
    ·exact K.id2 t y _ n B c z qd.symm
    omega
   rw[ep e]at o;exact p4 i zO a o
  exact .inr ⟨i,e,i1,i2,by rw[ep zO];exact i3,i4⟩
 ·rcases hd t x f d k with⟨y,n,B,-⟩|⟨-,-,rfl⟩
  ·exact K.id2 t y f n B c z
  have:=K.cl c z;have D:=this.1;have U:=this.2.1;omega
 ·rcases hd t x f d k with⟨y1,hy1,hf1,-⟩|⟨Q,-,hN1⟩
  ·rcases hd G y f n T with⟨W,X,hf3,-⟩|⟨-,-,hN2⟩
   ·exact K.id3 t G y1 W f hy1 X hf1 hf3
   have:=R t y1 f hy1 hf1;omega
  rcases hd G y f n T with⟨W,X,hf3,-⟩|⟨qd,-,-⟩
  ·have:=R G W f X hf3;omega
  rw[Q,qd]
 rcases L t x d with⟨rfl,rfl⟩|⟨-,d⟩
 ·simp
 exact K.nz t x d ho
end
end
section
variable {x:PX} {a:Int}
section
variable {m m':Sm} {g g':Gh} {N s:Nat} {cur:Nat->Option Sx} {calls:List cd} {C:Nat->Ab} {E:Nat->List LnE} {w:Nat->Option Ef} {op:Opr} {px AB:PX} {st:List Nat} {A:Nat->Ab} {L:Nat} {w0:Option Ef}
theorem B5(h:m' .slot=m .slot)(k:PX.sl m a w0 x):PX.sl m' a w0 x:=by
 cases x with
 | go y=>
  cases y with
  | e x z=>cases x<;>first|exact trivial | (simp only[PX.sl,SlR]at k ⊢;rw[h];exact k)
  | _=>exact trivial
 | _=>exact trivial
theorem Aq(h:x.off=X):PX.sl m a w0 x:=by
 cases x with
 | go y=>
  cases y with
  | e x z=>cases x<;>first|exact trivial | cases h
  | _=>exact trivial
 | _=>exact trivial
theorem Cp(u:0<=op.a/\op.a<4294967296)(h:x.off=O)(k:iA m op A w0 L x)(a:PX.sl m op.a w0 x):(ji (m .slot)=1\/ji (m .slot)=2)/\(ji (m .slot)=1->op.kind=4/\w0=Y/\(∃y,m .slot=fS op.a y)/\(∀d:Sm,d .slot=kX (m .slot)->PX.sl d op.a (J (.push op.a)) x)/\iA m op A (J (.push op.a)) L x):=by
 cases x with
 | go y=>
  cases y with
  | e x z=>
   have q:∀y,(w0=Y->m .slot=fS op.a y)/\(w0≠Y->m .slot=kX (fS op.a y))->(ji (m .slot)=1\/ji (m .slot)=2)/\(ji (m .slot)=1->w0=Y/\m .slot=fS op.a y):=by
    intro y t;by_cases e:w0=Y
    ·have:=t.1 e;exact⟨.inl (by rw[this];exact(tI u).1),λ_=>⟨e,this⟩⟩
    have:=t.2 e;refine⟨.inr (by rw[this];exact mh _),λh=>?_⟩;rw[this,mh]at h;cases h
   cases x with
   | u7 j n y p=>
    obtain⟨i,f⟩:=q y a;refine⟨i,λb=>?_⟩;obtain⟨l,c⟩:=f b;exact⟨k.2.1,l,⟨y,c⟩,λd o=>⟨λe=>(by cases e),λ_=>(by rw[o,c])⟩,k.1,k.2.1,.inr Z⟩
   | u8 n y p=>
    obtain⟨i,f⟩:=q y a;refine⟨i,λb=>?_⟩;obtain⟨l,c⟩:=f b;exact⟨k.2.1,l,⟨y,c⟩,λd o=>⟨λe=>(by cases e),λ_=>(by rw[o,c])⟩,k.1,k.2.1,.inr Z⟩
   | u9 n y p=>
    have a:m .slot=kX (fS op.a y):=a;refine⟨.inr (by rw[a];exact mh _),λb=>?_⟩;rw[a,mh]at b;cases b
   | _=>cases h
  | _=>cases h
 | _=>cases h
theorem Ph.efs{x:Ph}(hx:POk s m g op x)(K:Lw m op A w0 L x)(r:Bool):x.ef op m r= .no\/(w0=Y/\∃v,mT op (x.ef op m r) v O):=by
 cases x with
 | m x made gn=>
  obtain⟨-,K⟩:=K;have fC:=hx.2.ok;cases x with
  | ml dm sz mm lo y z=>
   show lEf lo y r op.a= .no\/_/\∃v,mT op (lEf lo y r op.a) v O;cases r with
   | false=>cases y<;>exact .inl Z
   | true=>
    obtain⟨hl,-,-,h4,h5⟩:=fC;cases y with
    | pc n prev cur=>
     cases dm with
     | true=>left;rw[(h4 Z).1];rfl
     | false=>
      obtain⟨q1,q2,q3⟩:=h5 Z;dsimp only at q1 q2 q3;have ho:lo.o%2=1:=by rw[q2];exact(nv _).2.2.1
      refine .inr ⟨K.1,0,?_⟩;simp only[lEf,LPh.ef,if_true,if_pos ho];exact⟨Z,by rw[<- q1];exact hl.ok.1,Z,q3,Z⟩
    | dm prev cur next=>
     cases dm with
     | true=>have:=hl.ok.1;rw[(h4 Z).1]at this;exact absurd this zD
     | false=>
      obtain⟨q1,q2,q3⟩:=h5 Z;dsimp only at q1 q2 q3;refine .inr ⟨K.1,0,?_⟩;simp only[lEf,LPh.ef,if_true];exact⟨Z,by rw[<- q1];exact hl.ok.1,Z,Z⟩
    | _=>exact .inl Z
  | _=>exact .inl Z
 | e x z=>
  obtain⟨-,K⟩:=K;cases r with
  | false=>cases x<;>exact .inl Z
  | true=>
   cases x with
   | u4 n dq=>exact .inr ⟨K.2,0,Z,K.1,Z,Z⟩
   | o3 dq below=>exact .inr ⟨K.2,_,Z,K.1,Z⟩
   | _=>exact .inl Z
 | c x z=>
  obtain⟨-,K,-⟩:=K;cases r with
  | false=>cases x<;>exact .inl Z
  | true=>
   cases x with
   | s3 a b c=>exact .inr ⟨K.2,0,Z,K.1,Z,Z⟩
   | s6 a b=>exact .inr ⟨K.2,0,Z,K.1,Z,Z⟩
   | r3 a b c=>exact .inr ⟨K.2,_,Z,K.1,Z⟩
   | _=>exact .inl Z
theorem On{x:Ph}{r:Bool}(h:x.loud r=X):x.ew op m r w0=upW w0 (x.ef op m r):=by
 cases x with
 | e x z=>
  cases x with
  | o6 y=>have h:r=X:=h;subst h;rfl
  | _=>rfl
 | _=>rfl
theorem Ln.step{y:Ph}{th bk:Int}(K:Ln m g N cur calls C E w)(hG:Gl m g)(env:Env s m g ((y.acc s op.a).mem m) (y.gst s g ((y.acc s op.a).res m)))(o:cur s=J ⟨op,.go y,st⟩)(NN:∀t x z,cur t=J x->x.px= .go z->POk t m g x.op z)(Iu:∀t x,cur t=J x->kK x.op):
  ∃C' E' w',Ln ((y.acc s op.a).mem m) (y.gst s g ((y.acc s op.a).res m)) (N+1) (fD cur s (J ⟨op,y.stp th bk op ((y.acc s op.a).res m),st++[N]⟩)) calls C' E' w'/\(∀i,i<=N->C' i=C i)/\∀i,i<N->E' i=E i:=by
 have qd:=NN s _ y o Z;have ho:=Iu s _ o;obtain⟨S,k2⟩:=K.lin s _ o;have S:Lw m op (λp=>C (st.getD p 0)) (w s) st.length y:=S;obtain⟨⟨qa,c2⟩,T⟩:=Ph.cont hG K.li qd S;obtain⟨r,Q⟩:=nM ((y.acc s op.a).res m);obtain⟨m',hm'⟩:∃m',(y.acc s op.a).mem m=m':=⟨_,Z⟩;obtain⟨g',hg'⟩:∃g',y.gst s g r=g':=⟨_,Z⟩;have hlin0:∀A':Nat->Ab,(∀p,p<st.length->A' p=C (st.getD p 0))->A' st.length=dG m g->iA m' op A' (y.ew op m r.2 (w s)) (st.length+1) (y.stp th bk op r):=by
  intro A' q I;rw[<- hm',<- Q];exact Ph.lin hG K.li ho qd S k2 q I
 have B:iA m' op (λp=>tK C N (dG m' g') ((st++[N]).getD p 0)) (y.ew op m r.2 (w s)) (st.length+1) (y.stp th bk op r):=by
  refine hlin0 _ (λp qd=>?_) ?_
  ·have e:(st++[N]).getD p 0=st.getD p 0:=by rw[dJ,dJ,List.getElem?_append_left qd]
   show tK C N _ ((st++[N]).getD p 0)=_;rw[e];refine eZ ?_;rw[dJ,aD qd];exact ed ((K.sb s _ o).2 _ (List.getElem_mem qd))
  have e:(st++[N]).getD st.length 0=N:=by rw[dJ,List.getElem?_append_right (aq _)];simp
  show tK C N _ ((st++[N]).getD st.length 0)=_;rw[e,eZ (aq _)];exact K.now
 have W:=Ph.quiet (th:=th) (bk:=bk) S k2 Q.symm;have hefs:=Ph.efs qd S r.2;rw[Q,hg']at qa T;rw[Q]at c2;rw[Q,hg']at env;rw[hm']at qa T env W;rw[Q,hm',hg'];have hoL:∀t x,t≠s->cur t=J x->iA m' x.op (λp=>C (x.st.getD p 0)) (w t) x.st.length x.px:=λt x k d=>(K.lin t x d).1.env env λz hz=>NN t x z d hz;have qb:∀t x,fD cur s (J ⟨op,y.stp th bk op r,st++[N]⟩) t=J x->(t=s/\x=⟨op,y.stp th bk op r,st++[N]⟩)\/(t≠s/\cur t=J x):=by
  intro t x d;by_cases e:t=s
  ·subst e;rw[bL]at d;injection d with d;exact .inl ⟨Z,d.symm⟩
  rw[cQ _ _ e]at d;exact .inr ⟨e,d⟩
 obtain⟨f,R⟩:∃f,(st++[N])[0]? =J f:=⟨_,xo st N⟩;cases V:y.loud r.2 with
 | false=>
  obtain⟨Y,q2,q3⟩:=W V;rw[On V]at B q3;have KO:(∃t x,fD cur s (J ⟨op,y.stp th bk op r,st++[N]⟩) t=J x/\x.px.off=O)\/ji (m' .slot)=0:=by
   rcases K.so with⟨t,x,d,l⟩|h
   ·by_cases e:t=s
    ·subst e;rw[o]at d;injection d with d;subst d;exact .inl ⟨t,_,bL _ _ _,q2.trans l⟩
    exact .inl ⟨t,x,by rw[cQ _ _ e];exact d,l⟩
   rw[Y];exact .inr h
  have hso1:∀a b x z,fD cur s (J ⟨op,y.stp th bk op r,st++[N]⟩) a=J x->fD cur s (J ⟨op,y.stp th bk op r,st++[N]⟩) b=J z->x.px.off=O->z.px.off=O->a=b:=by
   have rl:∀t x,fD cur s (J ⟨op,y.stp th bk op r,st++[N]⟩) t=J x->x.px.off=O->∃x',cur t=J x'/\x'.px.off=O:=by
    intro t x d l;rcases qb t x d with⟨rfl,rfl⟩|⟨-,d⟩
    ·exact⟨_,o,q2.symm.trans l⟩
    exact⟨x,d,l⟩
   intro a b x z d hz q I;obtain⟨x',NA,h1'⟩:=rl a x d q;obtain⟨z',hz',h2'⟩:=rl b z hz I;exact K.so1 a b x' z' NA hz' h1' h2'
  rcases hefs with tQ|⟨hw0,v,hv⟩
  ·rw[tQ]at qa B q3;refine⟨_,_,w,K.put (ne:=[]) (m':=m') (g':=g') o trivial qa T ⟨B,q3⟩ (λt x k d=>⟨hoL t x k d,B5 Y (K.lin t x d).2⟩) (λt=>.inl Z) (λa j=>by cases j) zS (λa j=>by cases j) (λa j=>by cases j) KO hso1,λi hi=>eZ hi,λi hi=>ep zO⟩
  have qQ:y.ef op m r.2≠ .no:=by intro e;rw[e]at hv;exact hv.2
  have hup:upW (w s) (y.ef op m r.2)=J (y.ef op m r.2):=by
   unfold upW;split
   ·rename_i e;exact absurd e qQ
   rfl
  rw[hup]at B q3;generalize y.ef op m r.2=e at *;refine⟨_,_,fD w s (J e),K.put (ne:=[⟨f,op,e⟩]) (m':=m') (g':=g') o ⟨c2,trivial⟩ qa T ⟨by rw[bL];exact B,by rw[bL];exact q3⟩ (λt x k d=>by rw[cQ _ _ k];exact⟨hoL t x k d,B5 Y (K.lin t x d).2⟩) (λt=>?_) (λa j=>?_) zS (λa j b hb=>?_) (λa j=>?_) KO hso1,λi hi=>eZ hi,λi hi=>ep zO⟩
  ·by_cases e2:t=s
   ·subst e2;exact .inr ⟨_,f,e,bL _ _ _,R,hw0,bL _ _ _,zS,.inl Z⟩
   exact .inl (cQ _ _ e2)
  ·rw[bH.1 j];exact⟨s,_,bL _ _ _,R,Z,hw0,bL _ _ _⟩
  ·rw[bH.1 j,bH.1 hb]
  rw[bH.1 j];exact⟨v,hv⟩
 | true=>
  cases y with
  | m x made gn=>cases V
  | c x z=>cases V
  | e x z=>
   have noOff:ji (m .slot)=0->∀t x,cur t=J x->x.px.off=X:=by
    intro h0 t x d;cases l:x.px.off with
    | false=>rfl
    | true=>
     obtain⟨Y,q2⟩:=K.lin t x d;have hoa:=(Iu t x d).a;have:=(Cp zO l Y q2).1;omega
   cases x with
   | u6 n y0=>
    have P:r.2=O:=V;obtain⟨H,D⟩:=bP (a:=(EPh.u6 n y0).acc s op.a) (m:=m) Z (by rw[show (EPh.acc (s:Int) op.a (.u6 n y0)).res m=r from Q];exact P);have H:m .slot=y0:=H;have D:m'=bz m .slot (fS op.a y0):=hm'.symm.trans D;have hk0:w s=none/\ji y0=0:=S.2.2;have U:=noOff (by rw[H];exact hk0.2);have qc:Ph.stp th bk op (.e (.u6 n y0) z) r= .go (.e (.u7 0 n y0 z.made) z.got):=by simp[Ph.stp,EPh.stp,P,EX.p]
    rw[qc]at B qb ⊢;refine⟨_,_,w,K.put (ne:=[]) (m':=m') (g':=g') o trivial qa T ⟨B,⟨λ_=>by rw[D];exact bU _ _ _,λh=>absurd hk0.1 h⟩⟩ (λt x k d=>⟨hoL t x k d,Aq (U t x d)⟩) (λt=>.inl Z) (λa j=>by cases j) zS (λa j=>by cases j) (λa j=>by cases j) (.inl ⟨s,_,bL _ _ _,Z⟩) (λa b M x2 q I G o2=>?_),λi hi=>eZ hi,λi hi=>ep zO⟩;have key:∀t x,fD cur s (J ⟨op,.go (.e (.u7 0 n y0 z.made) z.got),st++[N]⟩) t=J x->x.px.off=O->t=s:=by
     intro t x d l;rcases qb t x d with⟨e,-⟩|⟨-,d⟩
     ·exact e
     rw[U t x d]at l;cases l
    rw[key a M q G,key b x2 I o2]
   | u8 n y0 p=>
    have P:r.2=O:=V;obtain⟨H,D⟩:=bP (a:=(EPh.u8 n y0 p).acc s op.a) (m:=m) Z (by rw[show (EPh.acc (s:Int) op.a (.u8 n y0 p)).res m=r from Q];exact P);have D:m'=bz m .slot (noW y0):=hm'.symm.trans D;have U:∀t x,t≠s->cur t=J x->x.px.off=X:=by
     intro t x k d;cases l:x.px.off with
     | false=>rfl
     | true=>exact absurd (K.so1 t s x _ d o l Z) k
    have qc:Ph.stp th bk op (.e (.u8 n y0 p) z) r= .go (.e (.u2 n) z.got):=by simp[Ph.stp,EPh.stp,P,EX.p]
    rw[qc]at B qb ⊢;refine⟨_,_,w,K.put (ne:=[]) (m':=m') (g':=g') o trivial qa T ⟨B,trivial⟩ (λt x k d=>⟨hoL t x k d,Aq (U t x k d)⟩) (λt=>.inl Z) (λa j=>by cases j) zS (λa j=>by cases j) (λa j=>by cases j) (.inr (by rw[D,bU];exact Jp y0)) (λa b M x2 q I G o2=>?_),λi hi=>eZ hi,λi hi=>ep zO⟩;rcases qb a M q with⟨-,rfl⟩|⟨e,q⟩
    ·cases G
    rw[U a M e q]at G;cases G
   | u9 n y0 p=>
    have D:m'=bz m .slot (noW y0):=hm'.symm.trans (bF Z m);have U:∀t x,t≠s->cur t=J x->x.px.off=X:=by
     intro t x k d;cases l:x.px.off with
     | false=>rfl
     | true=>exact absurd (K.so1 t s x _ d o l Z) k
    have qc:Ph.stp th bk op (.e (.u9 n y0 p) z) r= .go (.e (.sub (.v1 n) (.ug p)) z.got):=Z;rw[qc]at B qb ⊢;refine⟨_,_,w,K.put (ne:=[]) (m':=m') (g':=g') o trivial qa T ⟨B,trivial⟩ (λt x k d=>⟨hoL t x k d,Aq (U t x k d)⟩) (λt=>.inl Z) (λa j=>by cases j) zS (λa j=>by cases j) (λa j=>by cases j) (.inr (by rw[D,bU];exact Jp y0)) (λa b M x2 q I G o2=>?_),λi hi=>eZ hi,λi hi=>ep zO⟩;rcases qb a M q with⟨-,rfl⟩|⟨e,q⟩
    ·cases G
    rw[U a M e q]at G;cases G
   | o6 y0=>
    have P:r.2=O:=V;obtain⟨H,D⟩:=bP (a:=(EPh.o6 y0).acc s op.a) (m:=m) Z (by rw[show (EPh.acc (s:Int) op.a (.o6 y0)).res m=r from Q];exact P);have H:m .slot=y0:=H;have D:m'=bz m .slot (kX y0):=hm'.symm.trans D;obtain⟨CP,hws,hy0⟩:op.kind=5/\w s=none/\ji y0=1:=S.2;obtain⟨u,x0,F,KP⟩:∃t x,cur t=J x/\x.px.off=O:=by
     rcases K.so with h|h
     ·exact h
     rw[H,hy0]at h;cases h
    have ht0:u≠s:=by rintro rfl;rw[o]at F;injection F with F;subst F;cases KP
    obtain⟨Y,q2⟩:=K.lin u x0 F;have hoa:=(Iu u x0 F).a;obtain⟨p1,p2,⟨y1,p3⟩,p4,p5⟩:=(Cp zO KP Y q2).2 (by rw[H];exact hy0);have hval:mE y0=x0.op.a:=by rw[<- H,p3];exact(tI zO).2
    obtain⟨f0,KW⟩:∃f0,x0.st[0]? =J f0:=by
     have:=K.nz u x0 F KP;cases W:x0.st with
     | nil=>exact absurd W this
     | cons a b=>exact⟨a,Z⟩
    have hf0N:f0<N:=(K.sb u x0 F).2 f0 (aU KW);have hff:f0≠f:=by
     intro e;cases W:st with
     | nil=>rw[W]at R;injection R with R;omega
     | cons a b=>
      rw[W]at R o;exact ht0 (K.id3 u s x0 _ f0 F o KW (by rw[e];exact R))
    have hquiet:(oT (mE y0) O z.made z.got).quiet:=xH _ _ _ _;have qc:Ph.stp th bk op (.e (.o6 y0) z) r=(oT (mE y0) O z.made z.got).p:=by simp[Ph.stp,EPh.stp,P]
    rw[qc]at B qb ⊢;have hqq:=EX.Jl hquiet m' op.a (J (.pop (mE y0)));generalize (oT (mE y0) O z.made z.got).p=AB at *;have hew:Ph.ew op m (.e (.o6 y0) z) r.2 (w s)=J (.pop (mE y0)):=by rw[P];rfl
    rw[hew]at B;have qa:dG m' g'=dG m g:=qa;have hwt:∀t,t≠s->t≠u->fD (fD w u (J (.push x0.op.a))) s (J (.pop (mE y0))) t=w t:=λt q I=>by rw[cQ _ _ q,cQ _ _ I]
    have hwt0:fD (fD w u (J (.push x0.op.a))) s (J (.pop (mE y0))) u=J (.push x0.op.a):=by rw[cQ _ _ ht0,bL]
    have N4:fD cur s (J ⟨op,AB,st++[N]⟩) u=J x0:=by rw[cQ _ _ ht0];exact F
    refine⟨_,_,fD (fD w u (J (.push x0.op.a))) s (J (.pop (mE y0))),K.put (ne:=[⟨f0,x0.op,.push x0.op.a⟩,⟨f,op,.pop (mE y0)⟩]) (m':=m') (g':=g') o ⟨trivial,by rw[hval];rfl,trivial⟩ (qa.trans Z) T ⟨by rw[bL];exact B,by rw[bL];exact hqq.2⟩ (λt x k d=>?_) (λt=>?_) (λa j=>?_) ?_ (λa j b hb=>?_) (λa j=>?_) (.inl ⟨u,x0,N4,KP⟩) (λa b M x2 q I G o2=>?_),λi hi=>eZ hi,λi hi=>ep zO⟩
    ·by_cases e:t=u
     ·subst e;rw[F]at d;injection d with d;subst d;rw[hwt0];refine⟨p5.env env λz' hz'=>NN t x0 z' F hz',p4 m' ?_⟩;rw[D,bU,H]
     rw[hwt t k e];refine⟨hoL t x k d,Aq ?_⟩;cases l:x.px.off with
     | false=>rfl
     | true=>exact absurd (K.so1 t u x x0 d F l KP) e
    ·by_cases e:t=s
     ·subst e;exact .inr ⟨_,f,_,bL _ _ _,R,hws,bL _ _ _,zS,.inl Z⟩
     by_cases e2:t=u
     ·subst e2;exact .inr ⟨x0,f0,_,N4,KW,p2,hwt0,zS,.inr KP⟩
     exact .inl (hwt t e e2)
    ·simp only[aL,be,or_false]at j;rcases j with rfl|rfl
     ·exact⟨u,x0,N4,KW,Z,p2,hwt0⟩
     exact⟨s,_,bL _ _ _,R,Z,hws,bL _ _ _⟩
    ·simp;exact hff
    ·have kk:∀a∈[(⟨f0,x0.op,.push x0.op.a⟩:LnE),⟨f,op,.pop (mE y0)⟩],kof a.op=2:=by
      intro a j;simp only[aL,be,or_false]at j;rcases j with rfl|rfl
      ·simp[kof,p1]
      simp[kof,CP]
     rw[kk a j,kk b hb]
    ·simp only[aL,be,or_false]at j;rcases j with rfl|rfl
     ·exact⟨0,Z,p1,Z,Z⟩
     exact⟨_,Z,CP,Z⟩
    have rl:∀t x,fD cur s (J ⟨op,AB,st++[N]⟩) t=J x->x.px.off=O->cur t=J x:=by
     intro t x d l;rcases qb t x d with⟨-,rfl⟩|⟨-,d⟩
     ·rw[show (⟨op,AB,st++[N]⟩:Sx).px.off=AB.off from Z,hqq.1]at l;cases l
     exact d
    exact K.so1 a b M x2 (rl a M q G) (rl b x2 I o2) G o2
   | _=>cases V
end
end
section
variable {m m':Sm} {g g':Gh} {N s:Nat} {cur:Nat->Option Sx} {calls:List cd} {C:Nat->Ab} {E:Nat->List LnE} {w:Nat->Option Ef} {op:Opr} {st:List Nat}
theorem KX{st:List Nat}(h:st.Pairwise (· < ·)){f:Nat}(hf:st[0]? =J f):st.headD 0=f/\∃l,st.getLastD 0=l/\l∈st/\∀i∈st,f<=i/\i<=l:=by
 cases st with
 | nil=>cases hf
 | cons a r=>
  injection hf with hf;subst hf;refine⟨Z,_,Z,?_,?_⟩
  ·cases r with
   | nil=>simp[List.getLastD]
   | cons b r=>rw[List.getLastD_cons];exact cM _ (by rw[List.getLastD_eq_getLast?];cases hq:(b :: r).getLast? with | none=>simp at hq | some v=>exact List.mem_of_getLast? hq)
  have key:∀(r:List Nat) (a:Nat),(a :: r).Pairwise (· < ·)->∀i∈a :: r,a<=i/\i<=(a :: r).getLastD 0:=by
   intro r;induction r with
   | nil=>intro a _ i hi;rw[bH.1 hi];exact⟨aq _,aq _⟩
   | cons b r ih=>
    intro a h i hi;obtain⟨h1,h2⟩:=nQ.1 h;have hb:=ih b h2;have e:(a :: b :: r).getLastD 0=(b :: r).getLastD 0:=Z;rw[e];have hab:=h1 b zS;rcases aL.1 hi with rfl|hi
    ·have:=hb b zS;exact⟨aq _,M⟩
    have:=hb i hi;exact⟨M,this.2⟩
  exact key r a h
theorem Ln.fin{o:Out}{pt:Int}(K:Ln m g N cur calls C E w)(hs:cur s=J ⟨op,.out o,st⟩)(lh:st≠[]){nx:Option Sx}(oV:∀x,nx=J x->x.st=[]/\(1<=x.op.kind/\x.op.kind<=7)/\∃gn,x.px=ee x.op gn):
  Ln m g N (fD cur s nx) (calls++[⟨s,op,o.val,o.is,st.headD 0,st.getLastD 0,pt⟩]) C E (fD w s Y):=by
 obtain⟨f,hf⟩:∃f,st[0]? =J f:=by
  cases st with
  | nil=>exact absurd Z lh
  | cons a r=>exact⟨a,Z⟩
 obtain⟨s1,s2⟩:=K.sb s _ hs;obtain⟨e1,l,e2,hl,p7⟩:=KX s1 hf;have hc:∀t x,fD cur s nx t=J x->(t=s/\nx=J x)\/(t≠s/\cur t=J x):=by
  intro t x hx;by_cases e:t=s
  ·subst e;rw[bL]at hx;exact .inl ⟨Z,hx⟩
  rw[cQ _ _ e]at hx;exact .inr ⟨e,hx⟩
 have hw:∀t e,fD w s Y t=J e->t≠s/\w t=J e:=by
  intro t e he;by_cases h:t=s
  ·subst h;rw[bL]at he;cases he
  rw[cQ _ _ h]at he;exact⟨h,he⟩
 have hnew:J1 C E N ⟨s,op,o.val,o.is,st.headD 0,st.getLastD 0,pt⟩:=by
  refine⟨by rw[e1,e2];exact(p7 l hl).1,by rw[e2];exact s2 l hl,?_⟩;rcases (K.lin s _ hs).1 with⟨h1,p,h2,h3⟩|⟨e,h1,h2⟩
  ·refine .inl ⟨st.getD p 0,?_,?_,h3,λi hi a ha hfa=>?_⟩
   ·rw[e1,dJ,aD h2];exact(p7 _ (List.getElem_mem h2)).1
   ·rw[e2,dJ,aD h2];exact(p7 _ (List.getElem_mem h2)).2
   rw[show (⟨s,op,o.val,o.is,st.headD 0,st.getLastD 0,pt⟩:cd).first=f from e1]at hfa;rcases K.ev i hi a ha with⟨t,x,hx,hfx,-,hwx⟩|⟨c,yb,hfc,-⟩
   ·have:=K.id3 t s x _ f hx hs (by rw[<- hfa];exact hfx) hf;subst this;rw[h1]at hwx;cases hwx
   exact K.id2 s _ f hs hf c yb (hfc.trans hfa)
  obtain⟨x,f',i,hx,LN,h3,h4,h5,h6⟩:=K.wr s e h1;rw[hs]at hx;injection hx with hx;subst hx;have:f'=f:=by rw[hf]at LN;injection LN with LN;exact LN.symm
  subst this;refine .inr ⟨i,e,by rw[e1];exact h3,?_,by rw[e1];exact h5,h2⟩;rcases h6 with h6|⟨l',hl',h6⟩
  ·cases h6
  rw[e2];exact aF h6 (p7 l' hl').2
 refine⟨K.c0,K.now,K.st,K.li,λt x hx=>?_,λt ht=>?_,λt x hx=>?_,λt e he=>?_,λi hi a ha=>?_,K.un,K.nd,K.kd,K.vl,λc yb=>?_,?_,λt x f' hx LN c yb=>?_,λt t2 x y f' hx hy h1 h2=>?_,?_,λt x hx ho=>?_,λt t2 x y hx hy h1 h2=>?_⟩
 ·rcases hc t x hx with⟨rfl,u0⟩|⟨hts,hx⟩
  ·obtain⟨h1,h2,gn,h3⟩:=oV x u0;rw[bL,h1,h3];obtain⟨q1,-,q2⟩:=lU (m:=m) (A:=λp=>C (([]:List Nat).getD p 0)) h2 gn;exact⟨q1,q2⟩
  rw[cQ _ _ hts];exact K.lin t x hx
 ·by_cases e:t=s
  ·subst e;exact bL _ _ _
  rw[cQ _ _ e]at ht ⊢;exact K.wn t ht
 ·rcases hc t x hx with⟨rfl,u0⟩|⟨-,hx⟩
  ·rw[(oV x u0).1];exact⟨List.Pairwise.nil,λi hi=>by cases hi⟩
  exact K.sb t x hx
 ·obtain⟨hts,he⟩:=hw t e he;obtain⟨x,f',i,hx,h⟩:=K.wr t e he;exact⟨x,f',i,by rw[cQ _ _ hts];exact hx,h⟩
 ·rcases K.ev i hi a ha with⟨t,x,hx,hfx,ho,hwx⟩|⟨c,yb,h⟩
  ·by_cases e:t=s
   ·subst e;rw[hs]at hx;injection hx with hx;subst hx;refine .inr ⟨_,cy.2 (.inr (bH.2 Z)),?_,ho⟩;rw[hf]at hfx;injection hfx with hfx;exact e1.trans hfx
   exact .inl ⟨t,x,by rw[cQ _ _ e];exact hx,hfx,ho,by rw[cQ _ _ e];exact hwx⟩
  exact .inr ⟨c,cy.2 (.inl yb),h⟩
 ·rcases cy.1 yb with yb|yb
  ·exact K.cl c yb
  rw[bH.1 yb];exact hnew
 ·rw[List.map_append];refine List.nodup_append.2 ⟨K.id1,zS,?_⟩;intro a ha b hb e;obtain⟨c,yb,rfl⟩:=List.mem_map.1 ha;have kW:b=f:=(bH.1 hb).trans e1;exact K.id2 s _ f hs hf c yb (e.trans kW)
 ·rcases hc t x hx with⟨rfl,u0⟩|⟨hts,hx⟩
  ·rw[(oV x u0).1]at LN;cases LN
  rcases cy.1 yb with yb|yb
  ·exact K.id2 t x f' hx LN c yb
  rw[bH.1 yb];intro e;have e:st.headD 0=f':=e;exact hts (K.id3 t s x _ f' hx hs LN (by rw[<- e,e1];exact hf))
 ·rcases hc t x hx with⟨rfl,u0⟩|⟨-,hx⟩
  ·rw[(oV x u0).1]at h1;cases h1
  rcases hc t2 y hy with⟨rfl,hy2⟩|⟨-,hy⟩
  ·rw[(oV y hy2).1]at h2;cases h2
  exact K.id3 t t2 x y f' hx hy h1 h2
 ·rcases K.so with⟨t,x,hx,ho⟩|h
  ·have hts:t≠s:=by rintro rfl;rw[hs]at hx;injection hx with hx;subst hx;cases ho
   exact .inl ⟨t,x,by rw[cQ _ _ hts];exact hx,ho⟩
  exact .inr h
 ·rcases hc t x hx with⟨rfl,u0⟩|⟨-,hx⟩
  ·obtain⟨-,h2,gn,h3⟩:=oV x u0;rw[h3,(lU (m:=m) (A:=C) h2 gn).2.1]at ho;cases ho
  exact K.nz t x hx ho
 have noff:∀x,nx=J x->x.px.off=X:=by
  intro x hx;obtain⟨-,h2,gn,h3⟩:=oV x hx;rw[h3];exact(lU (m:=m) (A:=C) h2 gn).2.1
 rcases hc t x hx with⟨rfl,u0⟩|⟨-,hx⟩
 ·rw[noff x u0]at h1;cases h1
 rcases hc t2 y hy with⟨rfl,hy2⟩|⟨-,hy⟩
 ·rw[noff y hy2]at h2;cases h2
 exact K.so1 t t2 x y hx hy h1 h2
theorem ln0(o:∀s x,cur s=J x->x.st=[]/\(1<=x.op.kind/\x.op.kind<=7)/\∃gn,x.px=ee x.op gn):Ln sm0 g0 0 cur [] (λ_=>ab0) (λ_=>[]) (λ_=>Y):=by
 have off:∀s x,cur s=J x->x.px.off=X:=by
  intro s x d;obtain⟨-,u,gn,z⟩:=o s x d;rw[z];exact(lU (m:=sm0) (A:=λ_=>ab0) u gn).2.1
 have K:∀i:Int,1<=i->i<=5->sm0 (.nd 2 i)=0:=by
  intro i l Q;show (if i=7 then _ else if (2:Int)=1/\i=6 then 1 else 0)=(0:Int);rw[if_neg zO,if_neg zO]
 have B:∀n,g0.st n= .sg->n=2:=by
  intro n h;rw[st0]at h;split at h
  ·cases h
  split at h
  ·assumption
  cases h
 refine⟨Z,?_,λi hi=>absurd hi (Nat.not_lt_zero _),⟨λn h i j R P H D=>?_,λn h F=>absurd (B n h) F⟩,λs x d=>?_,λ_ _=>Z,λs x d=>?_,λs e qa=>(by cases qa),λi hi=>absurd hi (Nat.not_lt_zero _),λi j a b hi=>absurd hi (Nat.not_lt_zero _),λi hi=>absurd hi (Nat.not_lt_zero _),λi hi=>absurd hi (Nat.not_lt_zero _),λi hi=>absurd hi (Nat.not_lt_zero _),λc M=>(by cases M),List.nodup_nil,λs x f d q=>?_,λs t x y f d G q=>?_,.inr zD,λs x d ho=>?_,λs t x y d G l=>?_⟩
 ·unfold dG ab0;congr 1
  ·funext k v
   refine propext ⟨False.elim,?_⟩;rintro⟨-,n,h,-,I,-⟩;have:n=1:=Mb.1 h;subst this;have l:bT sm0 1=0:=zD;rw[l]at I;have:=(nv k).1;omega
 ·rw[B n h]at D;exact absurd (K j zO H) D
 ·obtain⟨l,u,gn,z⟩:=o s x d;rw[l,z];obtain⟨O,-,L⟩:=lU (m:=sm0) (A:=λp=>ab0) u gn;exact⟨O,L⟩
 ·rw[(o s x d).1];exact⟨List.Pairwise.nil,λi hi=>by cases hi⟩
 ·rw[(o s x d).1]at q;cases q
 ·rw[(o s x d).1]at q;cases q
 ·rw[off s x d]at ho;cases ho
 rw[off s x d]at l;cases l
end
def j8(S:Nat)(want:List (List Opr))(t:cY)(s:Nat):Option Sx:=match t.aO[s]?,want[s]? with
 | some x,J ops=>(ops[x.pos]?).map λop=>⟨op,jH S op x,x.steps⟩
 | _,_=>Y
theorem lQ{S s:Nat}{want:List (List Opr)}{t:cY}{x:fz}{a:List Opr}{op:Opr}(b:t.aO[s]? =J x)(ho:want[s]? =J a)(c:a[x.pos]? =J op):j8 S want t s=J ⟨op,jH S op x,x.steps⟩:=by unfold j8;rw[b,ho];simp only[c];rfl
theorem oq{S s:Nat}{want:List (List Opr)}{t:cY}{y:Sx}(h:j8 S want t s=J y):∃x a op,t.aO[s]? =J x/\want[s]? =J a/\a[x.pos]? =J op/\y=⟨op,jH S op x,x.steps⟩:=by
 unfold j8 at h;split at h
 ·rename_i x a c ho;cases b:a[x.pos]? with
  | none=>rw[b]at h;cases h
  | some op=>rw[b]at h;injection h with h;exact⟨x,a,op,c,ho,b,h.symm⟩
 cases h
def LnT(S:Nat)(want:List (List Opr))(t:cY)(a:Sm)(g:Gh)(C:Nat->Ab)(E:Nat->List LnE)(w:Nat->Option Ef):Prop:=Ln a g t.events.length (j8 S want t) t.calls C E w
structure Hist (N:Nat) (C:Nat->Ab) (E:Nat->List LnE) (C':Nat->Ab) (E':Nat->List LnE):Prop where
 c:∀i,i<=N->C' i=C i
 e:∀i,i<N->E' i=E i
def WL(S:Nat)(want:List (List Opr))(t:cY)(C:Nat->Ab)(E:Nat->List LnE):Prop:=∃a g q w,mY S want t a g q/\LnT S want t a g C E w
section
variable {S who:Nat} {want:List (List Opr)} {stops:List Nat} {all:Bool} {t:cY} {C:Nat->Ab} {E:Nat->List LnE}
theorem WL.mU(W:WL S want t C E)(P:who<S)(qc:t.events.length+1<=200000000):∃v E',WL S want (dD (lyW S) want who t).1 v E'/\Hist t.events.length C E v E':=by
 obtain⟨n,g,q,w,W,K⟩:=W;obtain⟨x,a,f,ho⟩:=W.lt P;cases b:a[x.pos]? with
 | none=>rw[nS f ho b];exact⟨C,E,⟨n,g,q,w,W,K⟩,λ_ _=>rfl,λ_ _=>rfl⟩
 | some op=>
  have hopOk:∀d i,j8 S want t d=J i->kK i.op:=by
   intro d i h;obtain⟨x,a,op,f,ho,b,rfl⟩:=oq h;exact(W.wk.w3 a (aU ho)).2 op (aU b)
  have qb:∀d i z,j8 S want t d=J i->i.px= .go z->POk d n g i.op z:=by
   intro d i z h H;obtain⟨x,a,op,f,ho,b,rfl⟩:=oq h;have R:=W.sr d x a f ho;have j:=W.wk.sq d a ho;unfold sQ at j;rw[R.cur,b]at j;obtain⟨op2,A,B⟩:=j;rw[R.done,b]at A;injection A with A;subst A;have H:jH S op x= .go z:=H;have B:sS d n g op (jH S op x):=B;rw[H]at B;exact B
  have D:=lQ (S:=S) f ho b;rcases (W.turn2 f ho b qc).2 with⟨y,j,-,-,-,u,hpo,env,x',qa,I,M,Q,X,-⟩|⟨o,j,T,h3,u,qa,I⟩
  ·rw[j]at D;obtain⟨v,E',L,G,U,hE⟩:=Ln.step (th:=((2*S:Nat):Int)) (bk:=2) K W.wk.gl env D qb hopOk;refine⟨v,E',⟨_,_,qa,L,by rw[u];exact I,?_⟩,U,hE⟩;rw[u];show Ln _ _ (jj (lyW S) who x (y.acc who op.a) t).events.length (j8 S want (jj (lyW S) who x (y.acc who op.a) t)) t.calls v E' L;have V:(jj (lyW S) who x (y.acc who op.a) t).events.length=t.events.length+1:=by simp[jj]
   have F:j8 S want (jj (lyW S) who x (y.acc who op.a) t)=fD (j8 S want t) who (J ⟨op,y.stp ((2*S:Nat):Int) 2 op ((y.acc who op.a).res n),x.steps++[t.events.length]⟩):=by
    funext s
    by_cases e:s=who
    ·subst e;rw[bL,lQ Q ho (by rw[M];exact b),X,M]
    rw[cQ _ _ e];unfold j8;rw[show (jj (lyW S) who x (y.acc who op.a) t).aO[s]? =t.aO[s]? from List.getElem?_set_ne (λh=>e h.symm)]
   rw[V,F];exact G
  rw[j]at D;have R:=W.sr who x a f ho;have O:x.steps≠[]:=by
   intro e;have:=R.sl;rw[e]at this;exact T (List.length_eq_zero_iff.1 this.symm)
  have G:=Ln.fin (pt:=eP x.steps o.bc) (nx:=(a[x.pos+1]?).map λc=>⟨c,ee c o.gone,[]⟩) K D O (λy l=>by
   cases k:a[x.pos+1]? with
   | none=>rw[k]at l;cases l
   | some c=>
    rw[k]at l;injection l with l;subst l;exact⟨Z,((W.wk.w3 a (aU ho)).2 c (aU k)).k,_,Z⟩)
  refine⟨C,E,⟨n,g,qa,fD w who Y,by rw[u];exact I,?_⟩,λ_ _=>Z,λ_ _=>Z⟩;rw[u];show Ln n g t.events.length (j8 S want (mG who x op o t)) (t.calls++[⟨who,op,o.val,o.is,x.steps.headD 0,x.steps.getLastD 0,eP x.steps o.bc⟩]) C E _;have F:j8 S want (mG who x op o t)=fD (j8 S want t) who ((a[x.pos+1]?).map λc=>⟨c,ee c o.gone,[]⟩):=by
   funext s
   by_cases e:s=who
   ·subst e;rw[bL];unfold j8;rw[show (mG s x op o t).aO[s]? =J ⟨x.pos+1,[],[],o.gone,x.made⟩from List.getElem?_set_self (aC.1 f).1,ho];cases k:a[x.pos+1]? with
    | none=>simp only[k];rfl
    | some c=>simp only[k];exact congrArg J (congrArg (λp=>(⟨c,p,[]⟩:Sx)) (iP _ _ _ _))
   rw[cQ _ _ e];unfold j8;rw[show (mG who x op o t).aO[s]? =t.aO[s]? from List.getElem?_set_ne (λh=>e h.symm)]
  rw[F];exact G
end
section
variable {n who:Nat}
inductive pJ (S:Nat) (want:List (List Opr)) (t:cY):Nat->cY->Prop where
 | refl:pJ S want t 0 t
 | mU {n who:Nat} {t':cY} (h:pJ S want t n t') (hs:who<S):pJ S want t (n+1) (dD (lyW S) want who t').1
section
variable {S:Nat} {want:List (List Opr)} {stops:List Nat} {all:Bool} {t t':cY} {C C':Nat->Ab} {E E':Nat->List LnE}
theorem pJ.trans{t2:cY}{k:Nat}(h:pJ S want t n t')(b:pJ S want t' k t2):pJ S want t (n+k) t2:=by
 induction b with
 | refl=>exact h
 | mU _ c a=>exact .mU a c
theorem rA(a:want.length=S)(b:1<=S):∀(c:List Nat) (t:cY),∃n,n<=c.length/\pJ S want t n (ff (lyW S) want stops c t)
 | [],t=>⟨0,aq _,.refl⟩
 | u :: r,t=>by
  have d:u%want.length<S:=by rw[a];exact Nat.mod_lt _ b
  unfold ff;split
  ·obtain⟨n,e,h⟩:=rA a b r t;exact⟨n,by simp only[ku];omega,h⟩
  obtain⟨n,e,h⟩:=rA a b r (dD (lyW S) want (u%want.length) t).1;exact⟨1+n,by simp only[ku];omega,(pJ.mU .refl d).trans h⟩
theorem p9(b:who<S):∀(k:Nat) (t:cY),∃n,n<=k/\pJ S want t n (eO (lyW S) want stops all who k t)
 | 0,t=>⟨0,aq _,.refl⟩
 | k+1,t=>by
  have a:=pJ.mU (who:=who) (.refl:pJ S want t 0 t) b;unfold eO;split
  ·exact⟨0,aN _,.refl⟩
  split
  ·rename_i t' e;rw[e]at a;exact⟨1,M,a⟩
  rename_i t' e;rw[e]at a;obtain⟨n,c,h⟩:=p9 b k t';exact⟨1+n,M,a.trans h⟩
theorem zV(e:want.length=S)(t:cY):∃n,n<=6003*S/\pJ S want t n (jM (lyW S) want stops all t):=by
 unfold jM;rw[e];have d:∀k,k<=S->∀t,∃n,n<=6003*k/\pJ S want t n ((eF k).foldl (λt who=>jr (lyW S) want stops all who t) t):=by
  intro k;induction k with
  | zero=>intro _ t;exact⟨0,aq _,.refl⟩
  | succ k g=>
   intro s t;obtain⟨n,l,h⟩:=g M t;rw[List.range_succ,List.foldl_append];show ∃n,_/\pJ S want t n (jr (lyW S) want stops all k _);generalize (eF k).foldl (λt who=>jr (lyW S) want stops all who t) t=t' at *;unfold jr;obtain⟨a,q,i⟩:=p9 (S:=S) (want:=want) (stops:=stops) (all:=all) (who:=k) M 2001 t';obtain⟨b,m,j⟩:=p9 (S:=S) (want:=want) (stops:=stops) (all:=all) (who:=k) M 2001 (eO (lyW S) want stops all k 2001 t');obtain⟨c,o,f⟩:=p9 (S:=S) (want:=want) (stops:=stops) (all:=all) (who:=k) M 2001 (eO (lyW S) want stops all k 2001 (eO (lyW S) want stops all k 2001 t'));exact⟨n+(a+(b+c)),M,h.trans (i.trans (j.trans f))⟩
 exact d S (aq S) t
def Beg(S:Nat)(want:List (List Opr))(t:cY)(s f:Nat):Prop:=t.events.length<=f\/∃x,j8 S want t s=J x/\x.st[0]? =J f
theorem LY{s:Nat}(h:∀s y f,j8 S want t' s=J y->y.st[0]? =J f->Beg S want t s f)(A:t.events.length<=t'.events.length){y:Sx}{f:Nat}(g:j8 S want (dD (lyW S) want who t').1 s=J y)(c:y.st[0]? =J f):Beg S want t s f:=by
 unfold dD at g;split at g;rotate_left
 ·exact h s y f g c
 rename_i x w l ho;split at g
 ·exact h s y f g c
 rename_i v q;split at g
 ·rename_i a z;obtain⟨j,n,u,d,m,k,rfl⟩:=oq g;by_cases e:s=who
  ·subst e;have:j={ x with log:=x.log++[Ax (mx (lyW S) a) t'.m],steps:=x.steps++[t'.events.length],made:=x.made+1 }:=by
    have:=d;simp only[jj]at this;rw[List.getElem?_set_self (aC.1 l).1]at this;injection this with this;exact this.symm
   subst this;simp only[xo]at c;injection c with c;cases i:x.steps with
   | nil=>rw[i]at c;have c:t'.events.length=f:=c;exact .inl M
   | cons b r=>rw[i]at c;exact h s _ f (lQ l ho q) (by rw[i];exact congrArg J c)
  simp only[jj]at d;rw[List.getElem?_set_ne (λh=>e h.symm)]at d;exact h s _ f (lQ d m k) c
 ·rename_i o i;obtain⟨j,n,u,d,m,k,rfl⟩:=oq g;by_cases e:s=who
  ·subst e;have:j=⟨x.pos+1,[],[],o.gone,x.made⟩:=by
    have:=d;simp only[mG]at this;rw[List.getElem?_set_self (aC.1 l).1]at this;injection this with this;exact this.symm
   subst this;cases c
  simp only[mG]at d;rw[List.getElem?_set_ne (λh=>e h.symm)]at d;exact h s _ f (lQ d m k) c
 exact h s y f g c
theorem Hk(h:∀s y f,j8 S want t' s=J y->y.st[0]? =J f->Beg S want t s f)(W:WL S want t' C E):∃new,(dD (lyW S) want who t').1.calls=t'.calls++new/\∀c∈new,Beg S want t c.who c.first:=by
 unfold dD;split;rotate_left
 ·exact⟨[],zS,λc d=>by cases d⟩
 rename_i x m i ho;split
 ·exact⟨[],zS,λc d=>by cases d⟩
 rename_i op k;split
 ·exact⟨[],by simp[jj],λc d=>by cases d⟩
 ·rename_i o n;refine⟨_,Z,λc d=>?_⟩;rw[bH.1 d];obtain⟨A,g,q,w,W,K⟩:=W;have u:x.steps≠[]:=by
   intro e;have R:=W.sr who x m i ho;have j:=R.sl;rw[e]at j;have v:x.log=[]:=List.length_eq_zero_iff.1 j.symm;have a:=W.run (op:=op) i;have z:kK op:=(W.wk.w3 m (aU ho)).2 op (aU k);rw[n]at a;unfold jH at a;rw[v,iP]at a;have B:=z.k
   revert a
   unfold ee;split
   ·intro a;cases a
   split
   ·rcases (show op.kind=4\/op.kind=5 by omega)with h|h<;>rw[h]<;>intro a<;>cases a
   split
   ·rcases (show op.kind=6\/op.kind=7 by omega)with h|h<;>rw[h]<;>intro a<;>cases a
   intro a;cases a
  cases l:x.steps with
  | nil=>exact absurd l u
  | cons b r=>exact h who _ b (lQ i ho k) (by rw[l];rfl)
 exact⟨[],zS,λc d=>by cases d⟩
theorem LW:t.events.length<=(dD (lyW S) want who t).1.events.length:=by
 unfold dD
 (repeat' split)<;>simp[jj,mG]
theorem WL.goes(W:WL S want t C E)(h:pJ S want t n t'):t.events.length+n<=200000000->∃C' E',WL S want t' C' E'/\Hist t.events.length C E C' E'/\t.events.length<=t'.events.length/\t'.events.length<=t.events.length+n/\(∃new,t'.calls=t.calls++new/\∀c∈new,Beg S want t c.who c.first)/\∀s y f,j8 S want t' s=J y->y.st[0]? =J f->Beg S want t s f:=by
 induction h with
 | refl=>intro _;exact⟨C,E,W,⟨λ_ _=>rfl,λ_ _=>rfl⟩,aq _,aq _,⟨[],zS,λc a=>by cases a⟩,λs y f b d=>.inr ⟨y,b,d⟩⟩
 | @mU n who t2 h hs ih=>
  intro G;obtain⟨A,H,g,e,u,D,⟨new,w,l⟩,j⟩:=ih M;obtain⟨m,x,v,k⟩:=g.mU hs M;obtain⟨z,o,q⟩:=Hk (who:=who) j g;have B:=rP (lyW S) want who t2;have F:t2.events.length<=(dD (lyW S) want who t2).1.events.length:=LW;refine⟨m,x,v,⟨λi hi=>(k.c i M).trans (e.c i hi),λi hi=>(k.e i M).trans (e.e i hi)⟩,M,M,⟨new++z,by rw[o,w,List.append_assoc],λc a=>?_⟩,λs y f b d=>LY j u b d⟩;rcases cy.1 a with a|a
  ·exact l c a
  exact q c a
end
theorem wl0{want:List (List Opr)}(j:1<=want.length)(g:want.length<=3)(d:∀a∈want,a.length<=3/\∀b∈a,kK b):WL want.length want (jh want.length) (λ_=>ab0) (λ_=>[]):=by
 refine⟨sm0,g0,q0 want,λ_=>Y,winv0 j g d,?_⟩;have i:∀(s:Nat) (x:fz),(jh want.length).aO[s]? =J x->x=uu:=by
  intro s x c;have:=aU c;exact(List.mem_replicate.1 this).2
 refine ln0 λs y h=>?_;obtain⟨x,a,b,c,ho,f,rfl⟩:=oq h;have e:=i s x c;subst e;exact⟨Z,((d a (aU ho)).2 b (aU f)).k,_,iP _ _ _ _⟩
end
section
variable {b vs:List Int} {v val x:Int} {is:Bool} {e:Ef}
structure Ct where
 ks:List Int
 vs:List Int
def lb(b:List Int)(x:Int):Nat:=(b.takeWhile λk=>decide (k<x)).length
def isK(b:List Int)(x:Int):Bool:=b[lb b x]? ==J x
def gE(l:List Int)(i:Nat)(x:Int):List Int:=l.take i++x :: l.drop i
def lx(l:List Int)(i:Nat):List Int:=l.take i++l.drop (i+1)
def xt(c:Ct):Ct × Int × Bool:=match c.vs with
 | []=>(c,0,X)
 | v :: r=>(⟨c.ks,r⟩,v,O)
def doS(op:Opr)(c:Ct):Ct × Int × Bool:=
 if op.kind=1 then(if isK c.ks op.a then(c,c.vs.getD (lb c.ks op.a) 0,O)else(c,0,X))
 else if op.kind=2 then(if isK c.ks op.a then(c,0,X)else(⟨gE c.ks (lb c.ks op.a) op.a,gE c.vs (lb c.ks op.a) op.b⟩,0,O))
 else if op.kind=3 then(if isK c.ks op.a then(⟨lx c.ks (lb c.ks op.a),lx c.vs (lb c.ks op.a)⟩,0,O)else(c,0,X))
 else if op.kind=4 then(⟨c.ks,gE c.vs 0 op.a⟩,0,O)
 else if op.kind=6 then(⟨c.ks,gE c.vs c.vs.length op.a⟩,0,O)
 else xt c
def Rep(κ:Int)(c:Ct)(a:Ab):Prop:=
 κ=1/\c.ks.Pairwise (· < ·)/\c.ks.length=c.vs.length/\(∀k v,(k,v)∈c.ks.zip c.vs ↔ a.mp k v)\/κ=2/\c.ks=[]/\c.vs=a.st\/κ=3/\c.ks=[]/\c.vs=a.ch
theorem AP:∀ {b:List Int} {x:Int},b.Pairwise (· < ·)->x∈b->b[lb b x]? =J x
 | [],_,_,h=>by cases h
 | k :: b,x,hs,h=>by
  obtain⟨f,g⟩:=nQ.1 hs;by_cases d:k<x
  ·have e:lb (k :: b) x=lb b x+1:=by unfold lb;rw[List.takeWhile_cons_of_pos (by simpa using d)];rfl
   rw[e,List.getElem?_cons_succ];rcases aL.1 h with rfl|h
   ·omega
   exact AP g h
  have e:lb (k :: b) x=0:=by unfold lb;rw[List.takeWhile_cons_of_neg (by simpa using d)];rfl
  rw[e];rcases aL.1 h with rfl|h
  ·rfl
  have:=f x h;omega
theorem mO{ks:List Int}(b:ks.Pairwise (· < ·)):isK ks x=O ↔ x∈ks:=by
 unfold isK;rw[beq_iff_eq];exact⟨λh=>aU h,AP b⟩
theorem Im:∀(b:List Int) (x:Int),∀k∈b.take (lb b x),k<x
 | [],_,k,h=>by simp at h
 | a :: b,x,k,h=>by
  by_cases d:a<x
  ·have e:lb (a :: b) x=lb b x+1:=by unfold lb;rw[List.takeWhile_cons_of_pos (by simpa using d)];rfl
   rw[e,List.take_succ_cons]at h;rcases aL.1 h with rfl|h
   ·exact d
   exact Im b x k h
  have e:lb (a :: b) x=0:=by unfold lb;rw[List.takeWhile_cons_of_neg (by simpa using d)];rfl
  rw[e]at h;simp at h
theorem AQ:∀ {b:List Int} {x:Int},b.Pairwise (· < ·)->∀k∈b.drop (lb b x),x<=k
 | [],_,_,k,h=>by simp at h
 | a :: b,x,hs,k,h=>by
  obtain⟨f,g⟩:=nQ.1 hs;by_cases d:a<x
  ·have e:lb (a :: b) x=lb b x+1:=by unfold lb;rw[List.takeWhile_cons_of_pos (by simpa using d)];rfl
   rw[e,List.drop_succ_cons]at h;exact AQ g k h
  have e:lb (a :: b) x=0:=by unfold lb;rw[List.takeWhile_cons_of_neg (by simpa using d)];rfl
  rw[e,List.drop_zero]at h;rcases aL.1 h with rfl|h
  ·omega
  have:=f k h;omega
theorem zip_fst(d:b.length=vs.length)(k:Int):k∈b ↔ ∃v,(k,v)∈b.zip vs:=by
 constructor
 ·intro h;obtain⟨i,hi⟩:=List.getElem?_of_mem h;have e:=(aC.1 hi).1;refine⟨vs[i]'zO,aU (i:=i) ?_⟩;rw[List.getElem?_zip_eq_some];exact⟨hi,aD M⟩
 rintro⟨v,h⟩;exact(List.of_mem_zip h).1
theorem LR{f:List Int}(e:b.Pairwise (· < ·)){k:Int}(h:(k,v)∈b.zip f):f.getD (lb b k) 0=v:=by
 obtain⟨i,hi⟩:=List.getElem?_of_mem h;obtain⟨d,l⟩:=List.getElem?_zip_eq_some.1 hi;have j:=AP e (aU d);have g:b.Nodup:=e.imp λh=>by omega
 have:i=lb b k:=(List.getElem?_inj (aC.1 d).1 g).1 (d.trans j.symm);rw[dJ,<- this,l];rfl
theorem zip_ins(d:b.length=vs.length)(i:Nat)(x y k v:Int):(k,v)∈(gE b i x).zip (gE vs i y) ↔ k=x/\v=y\/(k,v)∈b.zip vs:=by
 unfold gE;rw[List.zip_append zP,List.zip_cons_cons]
 conv=>rhs;rw[<- List.take_append_drop i b,<- List.take_append_drop i vs,List.zip_append zP]
 simp only[cy,aL,ly];constructor
 ·rintro (h|h|h)
  ·exact .inr (.inl h)
  ·exact .inl h
  exact .inr (.inr h)
 rintro (h|h|h)
 ·exact .inr (.inl h)
 ·exact .inl h
 exact .inr (.inr h)
theorem zip_del(w:b.length=vs.length)(f:b.Pairwise (· < ·))(o:x∈b)(k v:Int):(k,v)∈(lx b (lb b x)).zip (lx vs (lb b x)) ↔ k≠x/\(k,v)∈b.zip vs:=by
 have i:=AP f o;have q:=(aC.1 i).1;obtain⟨y,t⟩:∃y,vs[lb b x]? =J y:=⟨_,aD M⟩;have g:b=b.take (lb b x)++x :: b.drop (lb b x+1):=by
  conv=>lhs;rw[<- List.take_append_drop (lb b x) b]
  rw[List.drop_eq_getElem_cons q];congr 2;exact(aC.1 i).2
 have s:vs=vs.take (lb b x)++y :: vs.drop (lb b x+1):=by
  conv=>lhs;rw[<- List.take_append_drop (lb b x) vs]
  rw[List.drop_eq_getElem_cons M];congr 2;exact(aC.1 t).2
 have j:b.zip vs=(b.take (lb b x)).zip (vs.take (lb b x))++(x,y) :: (b.drop (lb b x+1)).zip (vs.drop (lb b x+1)):=by
  conv=>lhs;rw[g,s]
  rw[List.zip_append zP,List.zip_cons_cons]
 have d:b.Nodup:=f.imp λh=>by omega
 rw[g]at d;obtain⟨-,n,l⟩:=List.nodup_append.1 d;have m:=(cS.1 n).1;unfold lx;rw[List.zip_append zP,j];simp only[cy,aL,ly];constructor
 ·rintro (h|h)
  ·exact⟨l k (List.of_mem_zip h).1 x zS,.inl h⟩
  exact⟨λe=>m (e ▸ (List.of_mem_zip h).1),.inr (.inr h)⟩
 rintro⟨u,h|⟨h,-⟩|h⟩
 ·exact .inl h
 ·exact absurd h u
 exact .inr h
section
variable {op:Opr} {c:Ct} {a:Ab}
theorem CB(b:1<=op.kind/\op.kind<=7):(kof op=1 ↔ op.kind<=3)/\(kof op=2 ↔ op.kind=4\/op.kind=5)/\(kof op=3 ↔ op.kind=6\/op.kind=7):=by
 unfold kof
 (repeat' split)<;>(refine⟨?_,?_,?_⟩<;>constructor<;>intro h<;>omega)
theorem do_read(s:1<=op.kind/\op.kind<=7)(R:Rep (kof op) c a)(h:Rd1 op a val is):doS op c=(c,val,is):=by
 obtain⟨o,q,l⟩:=CB s;rcases h with⟨j,h⟩|⟨j,rfl,rfl,h⟩|⟨j,rfl,rfl,h⟩
 ·have e:=o.2 j;rcases R with⟨-,f,i,k⟩|⟨g,-⟩|⟨g,-⟩
  ·have mem:op.a∈c.ks ↔ ∃v,a.mp op.a v:=by rw[zip_fst i];exact exists_congr λv=>k op.a v
   rcases h with⟨b,rfl,h⟩|⟨b,rfl,rfl,h⟩|⟨b,rfl,rfl,h⟩
   ·have d:isK c.ks op.a=O:=(mO f).2 (mem.2 ⟨val,h⟩);unfold doS;rw[if_pos b,if_pos d,LR f ((k op.a val).2 h)]
   ·have d:isK c.ks op.a=X:=by
     cases m:isK c.ks op.a with
     | false=>rfl
     | true=>
      obtain⟨v,n⟩:=mem.1 ((mO f).1 m);exact absurd n (h v)
    unfold doS;rcases b with b|b
    ·rw[if_pos b,d];rfl
    rw[if_neg M,if_neg M,if_pos b,d];rfl
   have d:isK c.ks op.a=O:=(mO f).2 (mem.2 h);unfold doS;rw[if_neg M,if_pos b,if_pos d]
  ·omega
  omega
 ·have e:=q.2 (.inr j);rcases R with⟨g,-⟩|⟨-,f,i⟩|⟨g,-⟩
  ·omega
  ·unfold doS xt;rw[if_neg M,if_neg M,if_neg M,if_neg M,if_neg M,i,h]
  omega
 have e:=l.2 (.inr j);rcases R with⟨g,-⟩|⟨g,-⟩|⟨-,f,i⟩
 ·omega
 ·omega
 unfold doS xt;rw[if_neg M,if_neg M,if_neg M,if_neg M,if_neg M,i,h]
theorem xy(n:1<=op.kind/\op.kind<=7)(R:Rep (kof op) c a)(b:e.pre a)(h:mT op e val is):∃t,doS op c=(t,val,is)/\Rep (kof op) t (e.ap a):=by
 obtain⟨A,z,u⟩:=CB n;obtain⟨rfl,h⟩:=h;cases e with
 | no=>exact h.elim
 | put k v=>
  obtain⟨g,rfl,rfl,rfl⟩:=h;have e:=A.2 M;rcases R with⟨-,d,f,l⟩|⟨j,-⟩|⟨j,-⟩
  ·have m:isK c.ks op.a=X:=by
    cases i:isK c.ks op.a with
    | false=>rfl
    | true=>
     obtain⟨v,s⟩:=(zip_fst f op.a).1 ((mO d).1 i);exact absurd ((l _ _).1 s) (b v)
   refine⟨⟨gE c.ks (lb c.ks op.a) op.a,gE c.vs (lb c.ks op.a) op.b⟩,?_,.inl ⟨e,?_,?_,λk v=>(zip_ins f _ _ _ k v).trans (or_congr Iff.rfl (l k v))⟩⟩
   ·unfold doS;rw[if_neg M,if_pos g,m];rfl
   ·have C:op.a∉c.ks:=λo=>by rw[(mO d).2 o]at m;cases m
    show (c.ks.take _++op.a :: c.ks.drop _).Pairwise _;rw[<- List.take_append_drop (lb c.ks op.a) c.ks]at d;obtain⟨D,E,B⟩:=List.pairwise_append.1 d;rw[List.take_append_drop]at d;refine List.pairwise_append.2 ⟨D,nQ.2 ⟨λk n=>?_,E⟩,λx w y q=>?_⟩
    ·have G:=AQ d k n;have F:k≠op.a:=λe=>C (e ▸ List.mem_of_mem_drop n);omega
    rcases aL.1 q with rfl|q
    ·exact Im _ _ x w
    exact B x w y q
   show (c.ks.take _++op.a :: c.ks.drop _).length=(c.vs.take _++op.b :: c.vs.drop _).length;simp;omega
  ·omega
  omega
 | del k=>
  obtain⟨g,rfl,rfl⟩:=h;have e:=A.2 M;rcases R with⟨-,d,f,l⟩|⟨j,-⟩|⟨j,-⟩
  ·obtain⟨v,s⟩:=b;have o:op.a∈c.ks:=(zip_fst f op.a).2 ⟨v,(l _ _).2 s⟩;have m:=(mO d).2 o;refine⟨⟨lx c.ks (lb c.ks op.a),lx c.vs (lb c.ks op.a)⟩,?_,.inl ⟨e,?_,?_,λk v=>(zip_del f d o k v).trans (and_congr Iff.rfl (l k v))⟩⟩
   ·unfold doS;rw[if_neg M,if_neg M,if_pos g,if_pos m]
   ·show (c.ks.take _++c.ks.drop _).Pairwise _;refine List.Pairwise.sublist ?_ d
    conv=>rhs;rw[<- List.take_append_drop (lb c.ks op.a) c.ks]
    exact List.Sublist.append (List.Sublist.refl _) (List.drop_sublist_drop_left _ M)
   show (c.ks.take _++c.ks.drop _).length=(c.vs.take _++c.vs.drop _).length;simp;omega
  ·omega
  omega
 | push v=>
  obtain⟨g,rfl,rfl⟩:=h;have e:=z.2 (.inl g);rcases R with⟨j,-⟩|⟨-,d,f⟩|⟨j,-⟩
  ·omega
  ·refine⟨⟨c.ks,gE c.vs 0 op.a⟩,?_,.inr (.inl ⟨e,d,?_⟩)⟩
   ·unfold doS;rw[if_neg M,if_neg M,if_neg M,if_pos g]
   show []++op.a :: c.vs=op.a :: a.st;rw[f];rfl
  omega
 | pop v=>
  obtain⟨g,rfl⟩:=h;have e:=z.2 (.inr g);rcases R with⟨j,-⟩|⟨-,d,f⟩|⟨j,-⟩
  ·omega
  ·have b:a.st.head?=J val:=b;cases i:a.st with
   | nil=>rw[i]at b;cases b
   | cons x r=>
    rw[i]at b;injection b with b;subst b;refine⟨⟨c.ks,r⟩,?_,.inr (.inl ⟨e,d,by show r=a.st.tail;rw[i];rfl⟩)⟩;unfold doS xt;rw[if_neg M,if_neg M,if_neg M,if_neg M,if_neg M,f,i]
  omega
 | send v=>
  obtain⟨g,rfl,rfl⟩:=h;have e:=u.2 (.inl g);rcases R with⟨j,-⟩|⟨j,-⟩|⟨-,d,f⟩
  ·omega
  ·omega
  refine⟨⟨c.ks,gE c.vs c.vs.length op.a⟩,?_,.inr (.inr ⟨e,d,?_⟩)⟩
  ·unfold doS;rw[if_neg M,if_neg M,if_neg M,if_neg M,if_pos g]
  show gE c.vs c.vs.length op.a=a.ch++[op.a];unfold gE;rw[nP,List.drop_length,f]
 | recv v=>
  obtain⟨g,rfl⟩:=h;have e:=u.2 (.inr g);rcases R with⟨j,-⟩|⟨j,-⟩|⟨-,d,f⟩
  ·omega
  ·omega
  have b:a.ch.head?=J val:=b;cases i:a.ch with
  | nil=>rw[i]at b;cases b
  | cons x r=>
   rw[i]at b;injection b with b;subst b;refine⟨⟨c.ks,r⟩,?_,.inr (.inr ⟨e,d,by show r=a.ch.tail;rw[i];rfl⟩)⟩;unfold doS xt;rw[if_neg M,if_neg M,if_neg M,if_neg M,if_neg M,f,i]
theorem Ko{κ:Int}(g:1<=op.kind/\op.kind<=7)(i:kof op≠κ)(h:mT op e v O)(R:Rep κ c a):Rep κ c (e.ap a):=by
 obtain⟨f,d,b⟩:=CB g;obtain⟨-,h⟩:=h;cases e with
 | no=>exact R
 | put k v=>
  have:=f.2 M;rcases R with⟨r,-⟩|R|R
  ·omega
  ·exact .inr (.inl R)
  exact .inr (.inr R)
 | del k=>
  have:=f.2 M;rcases R with⟨r,-⟩|R|R
  ·omega
  ·exact .inr (.inl R)
  exact .inr (.inr R)
 | push v=>
  have:=d.2 (.inl h.1);rcases R with R|⟨r,-⟩|R
  ·exact .inl R
  ·omega
  exact .inr (.inr R)
 | pop v=>
  have:=d.2 (.inr h.1);rcases R with R|⟨r,-⟩|R
  ·exact .inl R
  ·omega
  exact .inr (.inr R)
 | send v=>
  have:=b.2 (.inl h.1);rcases R with R|R|⟨r,-⟩
  ·exact .inl R
  ·exact .inr (.inl R)
  omega
 | recv v=>
  have:=b.2 (.inr h.1);rcases R with R|R|⟨r,-⟩
  ·exact .inl R
  ·exact .inr (.inl R)
  omega
end
end
def ct0:Ct:=⟨[],[]⟩
def pG(own:List cd):List Nat->Ct->Ct->Prop
 | [],c,c'=>c'=c
 | i :: r,c,c'=>∃x a,own[i]? =J x/\doS x.op c=(a,x.val,x.is)/\pG own r a c'
def O1(C:Nat->Ab)(E:Nat->List LnE)(N:Nat)(c:cd)(s:Nat):Prop:=
 c.first<=s/\s<=c.last/\s<N/\((Rd1 c.op (C s) c.val c.is/\∀i,i<N->∀a∈E i,a.f≠c.first)\/∃e,⟨c.first,c.op,e⟩∈E s/\mT c.op e c.val c.is)
def O6(own:List cd)(i j:Nat):Prop:=∀x y,own[i]? =J x->own[j]? =J y->¬y.last<x.first
section
variable {own:List cd} {C:Nat->Ab} {E:Nat->List LnE} {N:Nat} {κ:Int}
theorem pG.app{c2 c3:Ct}{b:List Nat}:∀ {a:List Nat} {c1:Ct},pG own a c1 c2->pG own b c2 c3->pG own (a++b) c1 c3
 | [],_,h,k=>by have h:c2=_:=h;subst h;exact k
 | i :: r,_,⟨x,c,h1,h2,h3⟩,k=>⟨x,c,h1,h2,h3.app k⟩
theorem yU{c:Ct}{a:Ab}(R:Rep κ c a):∀ {l:List Nat},(∀i∈l,∃x,own[i]? =J x/\kof x.op=κ/\(1<=x.op.kind/\x.op.kind<=7)/\Rd1 x.op a x.val x.is)->pG own l c c
 | [],_=>rfl
 | i :: r,h=>by
  obtain⟨x,f,g,b,d⟩:=h i zS;exact⟨x,c,f,do_read b (by rw[g];exact R) d,yU R λj e=>h j (cM _ e)⟩
theorem vP:∀ {es:List LnE} {a:Ab} {c:Ct},Rep κ c a->(∀x∈es,kof x.op≠κ/\(1<=x.op.kind/\x.op.kind<=7)/\∃v,mT x.op x.e v O)->Rep κ c (HU es a)
 | [],_,_,R,_=>R
 | x :: r,_,_,R,h=>by
  obtain⟨d,e,v,f⟩:=h x zS;show Rep κ _ (HU r _);exact vP (es:=r) (Ko e d f R) λy b=>h y (cM _ b)
theorem vO:∀ {es:List LnE} {a:Ab} {c:Ct},Rep κ c a->okE es a->(∀e∈es,∃(i:Nat) (x:cd),own[i]? =J x/\x.first=e.f/\kof x.op=κ/\(1<=x.op.kind/\x.op.kind<=7)/\mT x.op e.e x.val x.is)->∃l b,pG own l c b/\Rep κ b (HU es a)/\l.map (λi=>own[i]?.map (·.first))=es.map (λe=>J e.f)
 | [],_,c,R,_,_=>⟨[],c,Z,R,Z⟩
 | e :: r,_,c,R,⟨o1,o2⟩,h=>by
  obtain⟨i,x,g,t,d,n,k⟩:=h e zS;obtain⟨u,q,f⟩:=xy n (by rw[d];exact R) o1 k;rw[d]at f;obtain⟨l,b,s,o,j⟩:=vO f o2 λy m=>h y (cM _ m);exact⟨i :: l,b,⟨x,u,g,q,s⟩,o,by rw[s8,s8,j,g,<- t];rfl⟩
theorem rep0(h:1<=κ/\κ<=3):Rep κ ct0 ab0:=by
 rcases (show κ=1\/κ=2\/κ=3 by omega)with h|h|h
 ·exact .inl ⟨h,List.Pairwise.nil,Z,λk v=>⟨λh=>(by cases h),λh=>(h:False).elim⟩⟩
 ·exact .inr (.inl ⟨h,Z,Z⟩)
 exact .inr (.inr ⟨h,Z,Z⟩)
theorem zm{f:Nat->Option Nat}:∀ {l:List Nat},(l.map f).Nodup->l.Nodup
 | [],_=>List.nodup_nil
 | a :: l,h=>by
  obtain⟨b,c⟩:=cS.1 h;exact cS.2 ⟨λd=>b (List.mem_map.2 ⟨a,d,Z⟩),zm c⟩
open Classical in
theorem MW(h0:C 0=ab0)(lh:∀i,i<N->okE (E i) (C i)/\C (i+1)=HU (E i) (C i))(hκ:1<=κ/\κ<=3)(qb:∀i j a b,i<N->j<N->a∈E i->b∈E j->a.f=b.f->i=j/\a=b)(sY:∀i,i<N->((E i).map (·.f)).Nodup)(hkd:∀i,i<N->∀a∈E i,∀b∈E i,kof a.op=kof b.op)(hvl:∀i,i<N->∀a∈E i,∃v,mT a.op a.e v true)(oP:∀i,i<N->∀a∈E i,1<=a.op.kind/\a.op.kind<=7)(hid:∀(i j:Nat) x y,own[i]? =J x->own[j]? =J y->x.first=y.first->i=j)(qa:∀x∈own,kof x.op=κ/\1<=x.op.kind/\x.op.kind<=7)(hg:∀x∈own,∃s,O1 C E N x s)(hev:∀i,i<N->∀a∈E i,kof a.op=κ->∃x∈own,x.first=a.f/\x.op=a.op):
  ∃o c,o.Nodup/\(∀i,i∈o ↔ i<own.length)/\o.Pairwise (O6 own)/\pG own o ct0 c:=by
 have u:∃σ:Nat->Nat,∀i x,own[i]? =J x->O1 C E N x (σ i):=by
  have:∀i:Nat,∃s,∀x,own[i]? =J x->O1 C E N x s:=by
   intro i;cases d:own[i]? with
   | none=>exact⟨0,λx h=>by cases h⟩
   | some y=>
    obtain⟨s,hs⟩:=hg y (aU d);exact⟨s,λx h=>by injection h with h;subst h;exact hs⟩
  exact Classical.skolem.1 this
 obtain⟨σ,u⟩:=u
 let rd:Nat->Prop:=λi=>∀x,own[i]? =J x->∀j,j<N->∀a∈E j,a.f≠x.first
 have hrd:∀i x,own[i]? =J x->rd i->Rd1 x.op (C (σ i)) x.val x.is:=by
  intro i x d S;obtain⟨-,-,l,h|⟨e,h,-⟩⟩:=u i x d
  ·exact h.1
  exact absurd Z (S x d _ l _ h)
 have O:∀i x,own[i]? =J x->¬rd i->∃e,⟨x.first,x.op,e⟩∈E (σ i)/\mT x.op e x.val x.is:=by
  intro i x d S;obtain⟨-,-,l,h|h⟩:=u i x d
  ·exact absurd (λy q=>by rw[d]at q;injection q with q;subst q;exact h.2) S
  exact h
 have key:∀n,n<=N->∃o c,o.Nodup/\(∀i,i∈o ↔ i<own.length/\σ i<n)/\o.Pairwise (λi j=>σ i<=σ j)/\pG own o ct0 c/\Rep κ c (C n):=by
  intro n;induction n with
  | zero=>intro _;exact⟨[],ct0,List.nodup_nil,λi=>⟨λh=>(by cases h),λh=>absurd h.2 zO⟩,List.Pairwise.nil,Z,by rw[h0];exact rep0 hκ⟩
  | succ n ih=>
   intro hn;obtain⟨o,c,M,F,P,T,L⟩:=ih zO;obtain⟨s1,s2⟩:=lh n zO;have hW:∃W B,W.Nodup/\(∀i,i∈W ↔ i<own.length/\σ i=n/\¬rd i)/\pG own W c B/\Rep κ B (C (n+1)):=by
    by_cases K:∃a∈E n,kof a.op=κ;rotate_left
    ·refine⟨[],c,List.nodup_nil,λi=>⟨λh=>(by cases h),λ⟨k,t,l⟩=>?_⟩,Z,?_⟩
     ·have d:=aD k;obtain⟨e,A,-⟩:=O i _ d l;rw[t]at A;exact absurd ⟨_,A,(qa _ (List.getElem_mem k)).1⟩ K
     rw[s2];exact vP L λx d=>⟨λh=>K ⟨x,d,h⟩,oP n zO x d,hvl n zO x d⟩
    obtain⟨a0,ha0,hk0⟩:=K;have eI:∀a∈E n,kof a.op=κ:=λa g=>(hkd n zO a g a0 ha0).trans hk0;have NK:∀a∈E n,∃(i:Nat) (x:cd),own[i]? =J x/\x.first=a.f/\kof x.op=κ/\(1<=x.op.kind/\x.op.kind<=7)/\mT x.op a.e x.val x.is:=by
     intro a g;obtain⟨x,d,k,t⟩:=hev n zO a g (eI a g);obtain⟨i,hi⟩:=List.getElem?_of_mem d;refine⟨i,x,hi,k,(qa x d).1,(qa x d).2,?_⟩;obtain⟨-,-,l,h|⟨e,h,I⟩⟩:=u i x hi
     ·exact absurd k.symm (h.2 n zO a g)
     have:=(qb n (σ i) a _ zO l g h k.symm).2;rw[this];exact I
    obtain⟨W,B,Q,w,G⟩:=vO (own:=own) L s1 NK;have U:∀i∈W,∃x a,own[i]? =J x/\a∈E n/\x.first=a.f:=by
     intro i hi;have:own[i]?.map (·.first)∈(E n).map (λe=>J e.f):=by rw[<- G];exact List.mem_map.2 ⟨i,hi,Z⟩
     obtain⟨a,g,h⟩:=List.mem_map.1 this;cases d:own[i]? with
     | none=>rw[d]at h;cases h
     | some x=>rw[d]at h;injection h with h;exact⟨x,a,Z,g,h.symm⟩
    refine⟨W,B,?_,λi=>⟨λhi=>?_,λ⟨k,t,l⟩=>?_⟩,Q,by rw[s2];exact w⟩
    ·refine zm (f:=λi=>own[i]?.map (·.first)) ?_;rw[G];have:=sY n zO;refine List.pairwise_map.2 ((List.pairwise_map.1 this).imp λh e=>h (by injection e))
    ·obtain⟨x,a,d,g,X⟩:=U i hi;have qd:¬rd i:=λh=>h x d n zO a g X.symm;obtain⟨e,A,-⟩:=O i x d qd;obtain⟨-,-,l,-⟩:=u i x d;exact⟨(aC.1 d).1,(qb n (σ i) a _ zO l g A X.symm).1.symm,qd⟩
    have d:=aD k;obtain⟨e,A,-⟩:=O i _ d l;rw[t]at A;have:(J (own[i]).first)∈W.map (λi=>own[i]?.map (·.first)):=by rw[G];exact List.mem_map.2 ⟨_,A,Z⟩
    obtain⟨j,qc,h⟩:=List.mem_map.1 this;obtain⟨y,b,q,-,-⟩:=U j qc;rw[q]at h;injection h with h;rw[hid i j _ y d q h.symm];exact qc
   obtain⟨W,B,Q,w,G,w4⟩:=hW;have D:∀i,i∈(eF own.length).filter (λi=>decide (σ i=n/\rd i)) ↔ i<own.length/\σ i=n/\rd i:=by
    intro i;rw[jF,lK,decide_eq_true_iff]
   refine⟨o++((eF own.length).filter (λi=>decide (σ i=n/\rd i))++W),B,?_,λi=>?_,?_,T.app ((yU L λi hi=>?_).app G),w4⟩
   ·refine List.nodup_append.2 ⟨M,List.nodup_append.2 ⟨List.nodup_range.filter _,Q,λa g b m e=>?_⟩,λa g b m e=>?_⟩
    ·subst e;exact((w a).1 m).2.2 ((D a).1 g).2.2
    subst e;have k:=((F a).1 g).2;rcases cy.1 m with m|m
    ·have:=((D a).1 m).2.1;omega
    have:=((w a).1 m).2.1;omega
   ·rw[cy,cy,F,D,w];constructor
    ·rintro (h|h|h)
     ·exact⟨h.1,zO⟩
     ·exact⟨h.1,zO⟩
     exact⟨h.1,zO⟩
    rintro⟨k,t⟩;by_cases l:σ i<n
    ·exact .inl ⟨k,l⟩
    by_cases I:rd i
    ·exact .inr (.inl ⟨k,zO,I⟩)
    exact .inr (.inr ⟨k,zO,I⟩)
   ·refine List.pairwise_append.2 ⟨P,?_,λa g b m=>?_⟩
    ·refine List.Pairwise.imp_of_mem (R:=λ_ _=>True) (λ{a b} g m _=>?_) (List.pairwise_of_forall λ_ _=>trivial);have e:∀z,z∈(eF own.length).filter (λi=>decide (σ i=n/\rd i))++W->σ z=n:=by
      intro z H;rcases cy.1 H with H|H
      ·exact((D z).1 H).2.1
      exact((w z).1 H).2.1
     have k:=e a g;have t:=e b m;omega
    have k:=((F a).1 g).2;rcases cy.1 m with m|m
    ·have:=((D b).1 m).2.1;omega
    have:=((w b).1 m).2.1;omega
   obtain⟨k,t,l⟩:=(D i).1 hi;have d:=aD k;obtain⟨k1,k2⟩:=qa _ (List.getElem_mem k);have:=hrd i _ d l;rw[t]at this;exact⟨_,d,k1,k2,this⟩
 obtain⟨o,c,M,F,P,T,-⟩:=key N (aq _);refine⟨o,c,M,λi=>(F i).trans ⟨λh=>h.1,λh=>⟨h,?_⟩⟩,?_,T⟩
 ·obtain⟨-,-,l,-⟩:=u i _ (aD h);exact l
 refine P.imp λ{i j} h x y d q fH=>?_;obtain⟨k,t,-⟩:=u i x d;obtain⟨l,I,-⟩:=u j y q;omega
end
end Go.Proofs.YtikdaeddbkopeaaGreatR
