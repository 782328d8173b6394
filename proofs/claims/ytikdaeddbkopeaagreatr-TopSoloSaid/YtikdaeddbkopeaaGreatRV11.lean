/- A part of the proof. -/
import Derived.Test.YtikdaeddbkopeaaGreatRV10
set_option linter.unusedVariables false
set_option linter.unusedSimpArgs false
set_option maxRecDepth 100000
set_option maxHeartbeats 16000000
open Bool renaming and_eq_true → dq
open Classical renaming byContradiction → Aw
open List renaming mem_cons → bD, nodup_cons → fy, mem_cons_of_mem → jk, range → xF
open Nat renaming le_trans → aQ, zero_le → aY, le_refl → az, le_add_right → dZ, le_add_left → fu, le_succ → uO
namespace Go.Proofs.YtikdaeddbkopeaaGreatR
def FK.own:FK->Int
 | .put n=>n
 | _=>0
def LK.own:LK->Int
 | .fh k | .fn k _ | .fr k _=>k.own
 | _=>0
def LK.cH:LK->List Int
 | .dc n _=>[n]
 | _=>[]
def FK.eff:FK->Nat
 | .fin _=>1
 | _=>0
def isN (b:Bool):Nat:=if b then 1 else 0
def LK.eff:LK->Nat
 | .fh k | .fn k _ | .fr k _=>k.eff
 | .out o | .clr o | .dc _ o=>isN o.is
 | .pt _ _=>0
def FK.tk:FK->Nat
 | .put n=>if n≠0 then 1 else 0
 | _=>0
def LK.tk:LK->Nat
 | .fh k | .fn k _ | .fr k _=>k.tk
 | .out _ | .clr _ | .dc _ _=>1
 | .pt _ _=>0
def LPh.own:LPh->Int × Int
 | .sub x k=>(x.own,k.own)
 | .fs k _ _ _ | .fo k _ _ _ | .fc k _ _=>(k.own,0)
 | .p1 n _ _ | .p2 n _ _ | .p0 n _ _ | .pc n _ _=>(n,0)
 | _=>(0,0)
def LPh.cH:LPh->List Int
 | .sub x k=>x.cH++k.cH
 | _=>[]
def LPh.eff:LPh->Nat
 | .sub _ k=>k.eff
 | .fs k _ _ _ | .fo k _ _ _ | .fc k _ _=>k.eff
 | .du _ _ _ _=>1
 | _=>0
def LPh.tk:LPh->Nat
 | .sub x k=>x.tk+k.tk
 | .fs k _ _ _ | .fo k _ _ _ | .fc k _ _=>k.tk
 | .p1 _ _ _ | .p2 _ _ _ | .p0 _ _ _ | .pc _ _ _=>1
 | _=>0
def LX.eff:LX->Nat
 | .go x _=>x.eff
 | .out o _=>isN o.is
 | .stuck=>0
def LX.tk:LX->Nat
 | .go x _=>x.tk
 | .out _ _=>1
 | .stuck=>0
structure oI (m:Sm) (g:Gh) (op:LOp):Prop where
 h:(g.st op.h).isL=true
 ho:cX m op.h < op.o
 hm:cX m op.h % 2=0
 o0:0<=op.o
 o1:op.o < 131072
 o2:op.o % 2=0->op.o=65536
 hb:(g.st op.h)= .li
def nr (m:Sm) (op:LOp):FK->Prop
 | .get=>op.kind=1
 | .put n=>op.kind=2/\(n≠0->m (.nd n 1)=op.o/\m (.nd n 2)=op.v)
 | .del=>op.kind=3/\op.o % 2=1
 | .fin _=>op.kind=3/\op.o % 2=1
def xn (m:Sm) (g:Gh) (op:LOp) (prev cur:Int):Prop:=(g.st prev).isL=true/\cX m prev < op.o/\(cur=0\/(g.st cur).isL=true/\cX m prev < cX m cur)
def At (m:Sm) (g:Gh) (op:LOp) (f:Fp):Prop:=f.a < 3/\f.b < 3/\f.c < 3/\xn m g op f.prev f.cur
def tg (m:Sm) (g:Gh) (op:LOp) (prev cur:Int):Prop:=(g.st prev).isL=true/\cX m prev < op.o/\(cur=0\/(g.st cur).isL=true/\op.o < cX m cur)
def qp (m:Sm) (g:Gh) (op:LOp) (o:dA):Prop:=op.kind=2->(g.st o.node).isL=true/\cX m o.node=op.o
def Eb (m:Sm) (g:Gh) (op:LOp) (x:Sub):LK->Prop
 | .fh k=>x.cls= .G (.nd op.h 0)/\nr m op k
 | .fn k f=>x.cls= .G (.nd f.cur 0)/\nr m op k/\At m g op f/\f.cur≠0
 | .fr k f=>x.cls= .R/\nr m op k/\At m g op f
 | .out o=>(x.cls= .C\/x.cls= .R)/\qp m g op o
 | .clr o=>x.cls= .V/\qp m g op o
 | .pt prev cur=>x.cls= .T/\op.kind=2/\tg m g op prev cur
 | .dc n o=>x.cls= .C/\qp m g op o
def Mk (m:Sm) (n y:Int):Prop:=0<=y/\y<=40/\m (.nd n 0)=gZ y
def LOk (s:Nat) (m:Sm) (g:Gh) (op:LOp):LPh->Prop
 | .sub x k=>mO s m g x/\Eb m g op x k
 | .fs k f next _=>nr m op k/\At m g op f/\f.cur≠0/\Rd m g (.nd f.cur 0) next
 | .fo k f next _=>nr m op k/\At m g op f/\f.cur≠0/\Rd m g (.nd f.cur 0) next
 | .fc k f nx=>nr m op k/\At m g op f/\f.cur≠0/\Mk m f.cur nx
 | .gv n _=>op.kind=1/\(g.st n).isL=true
 | .p1 n prev cur=>op.kind=2/\g.st n= .ow s/\tg m g op prev cur
 | .p2 n prev cur=>op.kind=2/\g.st n= .ow s/\tg m g op prev cur/\m (.nd n 1)=op.o
 | .p0 n prev cur=>op.kind=2/\g.st n= .ow s/\tg m g op prev cur/\m (.nd n 1)=op.o/\m (.nd n 2)=op.v
 | .pc n prev cur=>op.kind=2/\g.st n= .ow s/\tg m g op prev cur/\m (.nd n 1)=op.o/\m (.nd n 2)=op.v/\m (.nd n 0)=a9 cur
 | .dm prev cur next=>op.kind=3/\op.o % 2=1/\xn m g op prev cur/\cur≠0/\cX m cur=op.o/\fG next=false/\Rd m g (.nd cur 0) next
 | .du prev cur next _=>op.kind=3/\op.o % 2=1/\xn m g op prev cur/\cur≠0/\Mk m cur (idxOf next)
structure Cg (s:Nat) (m:Sm) (g:Gh) (op:LOp) (z:Pz) (x:LPh):Prop where
 opk:oI m g op
 ok:LOk s m g op x
 er:z.dO.length=3
 own:eJ g s x.own.1 x.own.2
 dd:g.dd s=z.gone.map (·.1)++x.cH
def vQ (s:Nat) (m:Sm) (g:Gh) (op:LOp):LX->Prop
 | .go x z=>Cg s m g op z x
 | .out o z=>qp m g op o/\z.dO.length=3/\eJ g s 0 0/\g.dd s=z.gone.map (·.1)
 | .stuck=>False
def vm (o:Int):Nat:=if o % 2=1 then 1 else 0
def LPh.gst (s:Nat) (g:Gh) (op:LOp):LPh->Int × Bool->Gh
 | .sub x _,r=>x.gst s g r
 | .fc _ f _,r=>if r.2 then g.unl s f.cur else g
 | .pc n prev _,r=>if r.2 then g.ins prev n (vm op.o) else g
 | .dm _ _ _,r=>if r.2 then g.mark else g
 | .du _ cur _ _,r=>if r.2 then g.unl s cur else g
 | _,_=>g
section
variable {m m':Sm} {g g':Gh} {s t:Nat} {op:LOp}
theorem oI.env (h:Gl m g) (h':Gl m' g') (e:Env s m g m' g') (k:oI m g op):oI m' g' op:=by
 have hk:=iN e k.h;have hL:=(e.isL op.h k.h).1;refine ⟨hL,by rw [hk];exact k.ho,by rw [hk];exact k.hm,k.o0,k.o1,k.o2,?_⟩
 refine I3 h' hL ?_
 cases hb:fG (m' (.nd op.h 0)) with
 | false=>rfl
 | true=>have:=h'.lmrk op.h hL hb;rw [hk,k.hm] at this;simp at this
theorem xn.env (e:Env s m g m' g') {prev cur:Int} (k:xn m g op prev cur):xn m' g' op prev cur:=by
 obtain ⟨h1,h2,h3⟩:=k;rw [xn,iN e h1];exact ⟨(e.isL _ h1).1,h2,h3.imp_right fun ⟨a,b⟩=>⟨(e.isL _ a).1,by rw [iN e a];exact b⟩⟩
theorem tg.env (e:Env s m g m' g') {prev cur:Int} (k:tg m g op prev cur):tg m' g' op prev cur:=by
 obtain ⟨h1,h2,h3⟩:=k;rw [tg,iN e h1];exact ⟨(e.isL _ h1).1,h2,h3.imp_right fun ⟨a,b⟩=>⟨(e.isL _ a).1,by rw [iN e a];exact b⟩⟩
theorem At.env (e:Env s m g m' g') {f:Fp} (k:At m g op f):At m' g' op f:=⟨k.1,k.2.1,k.2.2.1,k.2.2.2.env e⟩
theorem qp.env (e:Env s m g m' g') {o:dA} (k:qp m g op o):qp m' g' op o:=fun hk=>by
 obtain ⟨a,b⟩:=k hk;exact ⟨(e.isL _ a).1,by rw [iN e a];exact b⟩
theorem Mk.env (e:Env s m g m' g') {n y:Int} (hn:(g.st n).isL=true) (k:Mk m n y):Mk m' n y:=
 ⟨k.1,k.2.1,by rw [e.mrk n hn (by rw [k.2.2];exact lB y)];exact k.2.2⟩
theorem nr.env (e:Env s m g m' g') (ht:t≠s) {k:FK} (ho:∀ n,n≠0->k.own=n->g.st n= .ow t) (h:nr m op k):nr m' op k:=by
 cases k with
 | put n=>
  refine ⟨h.1,fun hn=>?_⟩
  have:=(e.own n t (ho n hn rfl) ht).2;rw [this,this];exact h.2 hn
 | _=>exact h
theorem nr.same {k:FK} (hs:∀ i,m' (.nd k.own i)=m (.nd k.own i)) (h:nr m op k):nr m' op k:=by
 cases k with
 | put n=>exact ⟨h.1,fun hn=>by have:=hs;simp only [FK.own] at this;rw [this,this];exact h.2 hn⟩
 | _=>exact h
theorem Eb.env (e:Env s m g m' g') {x x':Sub} (hx:x'.cls=x.cls) {k:LK} (hf:∀ f,nr m op f->k.own=f.own->nr m' op f) (h:Eb m g op x k):Eb m' g' op x' k:=by
 cases k with
 | fh k=>exact ⟨hx.trans h.1,hf _ h.2 rfl⟩
 | fn k f=>exact ⟨hx.trans h.1,hf _ h.2.1 rfl,h.2.2.1.env e,h.2.2.2⟩
 | fr k f=>exact ⟨hx.trans h.1,hf _ h.2.1 rfl,h.2.2.env e⟩
 | out o=>exact ⟨by rw [hx];exact h.1,h.2.env e⟩
 | clr o=>exact ⟨hx.trans h.1,h.2.env e⟩
 | pt prev cur=>exact ⟨hx.trans h.1,h.2.1,h.2.2.env e⟩
 | dc n o=>exact ⟨hx.trans h.1,h.2.env e⟩
theorem Cg.env {z:Pz} {x:LPh} (h:Gl m g) (h':Gl m' g') (e:Env s m g m' g') (ht:t≠s) (K:Cg t m g op z x):Cg t m' g' op z x:=by
 refine ⟨K.opk.env h h' e,?_,K.er,K.own.env e ht,(e.ddo t ht).trans K.dd⟩;have bG:=K.ok;have bn:=K.own;clear K;have fk:∀ (f:FK) (a:Int),eJ g t f.own a\/eJ g t a f.own->nr m op f->nr m' op f:=by
  intro f a ho hf;refine hf.env e ht fun n hn he=>?_
  rcases ho with ho | ho
  ·exact (ho n).2 ⟨hn,.inl he.symm⟩
  ·exact (ho n).2 ⟨hn,.inr he.symm⟩
 have ow:∀ n,g.st n= .ow t->g'.st n= .ow t/\∀ i,m' (.nd n i)=m (.nd n i):=fun n hn=>e.own n t hn ht
 cases x with
 | sub x k=>
  refine ⟨mO.env h e ht bG.1,Eb.env (x:=x) e rfl (fun f hf he=>?_) bG.2⟩
  have bn:eJ g t x.own k.own:=bn;rw [he] at bn;exact fk f _ (.inr bn) hf
 | fs k f nx told=>exact ⟨fk k _ (.inl bn) bG.1,bG.2.1.env e,bG.2.2.1,Rd.env e ⟨rfl,by rcases bG.2.1.2.2.2.2.2 with h | h;exact absurd h bG.2.2.1;exact h.1⟩ bG.2.2.2⟩
 | fo k f nx told=>exact ⟨fk k _ (.inl bn) bG.1,bG.2.1.env e,bG.2.2.1,Rd.env e ⟨rfl,by rcases bG.2.1.2.2.2.2.2 with h | h;exact absurd h bG.2.2.1;exact h.1⟩ bG.2.2.2⟩
 | fc k f nx=>exact ⟨fk k _ (.inl bn) bG.1,bG.2.1.env e,bG.2.2.1,bG.2.2.2.env e (by rcases bG.2.1.2.2.2.2.2 with h | h;exact absurd h bG.2.2.1;exact h.1)⟩
 | gv n p=>exact ⟨bG.1,(e.isL n bG.2).1⟩
 | p1 n prev cur=>exact ⟨bG.1,(ow n bG.2.1).1,bG.2.2.env e⟩
 | p2 n prev cur=>exact ⟨bG.1,(ow n bG.2.1).1,bG.2.2.1.env e,by rw [(ow n bG.2.1).2];exact bG.2.2.2⟩
 | p0 n prev cur=>exact ⟨bG.1,(ow n bG.2.1).1,bG.2.2.1.env e,by rw [(ow n bG.2.1).2];exact bG.2.2.2.1,by rw [(ow n bG.2.1).2];exact bG.2.2.2.2⟩
 | pc n prev cur=>exact ⟨bG.1,(ow n bG.2.1).1,bG.2.2.1.env e,by rw [(ow n bG.2.1).2];exact bG.2.2.2.1,by rw [(ow n bG.2.1).2];exact bG.2.2.2.2.1,by rw [(ow n bG.2.1).2];exact bG.2.2.2.2.2⟩
 | dm prev cur next=>
  have hc:(g.st cur).isL=true:=by rcases bG.2.2.1.2.2 with h | h;exact absurd h bG.2.2.2.1;exact h.1
  exact ⟨bG.1,bG.2.1,bG.2.2.1.env e,bG.2.2.2.1,by rw [iN e hc];exact bG.2.2.2.2.1,bG.2.2.2.2.2.1,Rd.env e ⟨rfl,hc⟩ bG.2.2.2.2.2.2⟩
 | du prev cur next p=>
  have hc:(g.st cur).isL=true:=by rcases bG.2.2.1.2.2 with h | h;exact absurd h bG.2.2.2.1;exact h.1
  exact ⟨bG.1,bG.2.1,bG.2.2.1.env e,bG.2.2.2.1,bG.2.2.2.2.env e hc⟩
variable {z:Pz}
theorem qf (gk:oI m g op) {o:dA} (ho:qp m g op o) (hz:z.dO.length=3) (hO:eJ g s 0 0) (hd:g.dd s=z.gone.map (·.1)):vQ s m g op (iE o z):=by
 have h:=sa (m:=m) (k:=.C) (o0:=0) (p0:=[]) rfl hz hO (by simpa using hd) 0
 unfold iE
 cases hx:dK z 0 with
 | go x z'=>
  rw [hx] at h;obtain ⟨h1,h2,h3,h4,h5⟩:=h;exact ⟨gk,⟨h2,.inl h1,ho⟩,h3,h4,h5⟩
 | ret r z'=>
  rw [hx] at h;obtain ⟨h1,h3,h4,h5⟩:=h;have hr:r= .un:=by
   unfold dK at hx;split at hx <;> simp at hx
   exact hx.1.symm
  rw [hr] at h4;exact ⟨ho,h3,h4,by simpa using h5⟩
 | stuck=>rw [hx] at h;exact h
theorem jy (o:dA) (z:Pz):(iE o z).eff=isN o.is/\(iE o z).tk=1:=by
 unfold iE
 cases hx:dK z 0 with
 | go x z'=>
  have:x.tk=0:=by unfold dK at hx;split at hx <;> simp at hx;rw [<- hx.1];rfl
  exact ⟨rfl,by show x.tk+1=1;omega⟩
 | ret r z'=>exact ⟨rfl,rfl⟩
 | stuck=>unfold dK at hx;split at hx <;> simp at hx
theorem Jp (gk:oI m g op) {n:Int} {o:dA} (ho:qp m g op o) (hz:z.dO.length=3) (hO:eJ g s 0 0) (hd:g.dd s=z.gone.map (·.1)++[n]):vQ s m g op (ie n o z):=by
 have h:=sa (m:=m) (k:=.C) (o0:=0) (p0:=[n]) rfl hz hO hd 0;unfold ie
 cases hx:dK z 0 with
 | go x z'=>
  rw [hx] at h;obtain ⟨h1,h2,h3,h4,h5⟩:=h;exact ⟨gk,⟨h2,h1,ho⟩,h3,h4,h5⟩
 | ret r z'=>
  rw [hx] at h;obtain ⟨h1,h3,h4,h5⟩:=h;have hr:r= .un:=by
   unfold dK at hx;split at hx <;> simp at hx
   exact hx.1.symm
  rw [hr] at h4;exact ⟨gk,⟨show n∈g.dd s by rw [h5];simp,.inr rfl,ho⟩,h3,h4,h5⟩
 | stuck=>rw [hx] at h;exact h
theorem DS (n:Int) (o:dA) (z:Pz):(ie n o z).eff=isN o.is/\(ie n o z).tk=1:=by
 unfold ie
 cases hx:dK z 0 with
 | go x z'=>
  have:x.tk=0:=by unfold dK at hx;split at hx <;> simp at hx;rw [<- hx.1];rfl
  exact ⟨rfl,by show x.tk+1=1;omega⟩
 | ret r z'=>exact ⟨rfl,rfl⟩
 | stuck=>unfold dK at hx;split at hx <;> simp at hx
theorem mL (gk:oI m g op) {k:FK} (hk:nr m op k) (hz:z.dO.length=3) (hO:eJ g s 0 k.own) (hd:g.dd s=z.gone.map (·.1)):vQ s m g op (jU op k z):=
 ⟨gk,⟨⟨zD,rfl,gk.h⟩,rfl,hk⟩,hz,hO,by simpa [LPh.cH,Sub.cH,LK.cH] using hd⟩
theorem eJ.swap {a b:Int} (h:eJ g s a b):eJ g s b a:=fun y=>by rw [h y];omega
theorem zn (h:Gl m g) (gk:oI m g op) {k:FK} (hk:nr m op k) {there:Bool} {prev cur next:Int} {pt:Nat} (hz:z.dO.length=3) (hO:eJ g s k.own 0) (hd:g.dd s=z.gone.map (·.1))
  (hy:there=true->xn m g op prev cur/\cur≠0/\cX m cur=op.o/\fG next=false/\Rd m g (.nd cur 0) next)
  (hn:there=false->tg m g op prev cur):vQ s m g op (kI op k there prev cur next pt z):=by
 cases k with
 | get=>
  cases there with
  | true=>
   obtain ⟨h1,h2,-⟩:=hy rfl;have hc:(g.st cur).isL=true:=by rcases h1.2.2 with h | h;exact absurd h h2;exact h.1
   exact ⟨gk,⟨hk,hc⟩,hz,hO,by simpa [LPh.cH] using hd⟩
  | false=>exact qf gk (fun e=>absurd (hk.symm.trans e) zD) hz hO hd
 | put n=>
  cases there with
  | true=>
   obtain ⟨h1,h2,h3,-⟩:=hy rfl;have hc:(g.st cur).isL=true:=by rcases h1.2.2 with h | h;exact absurd h h2;exact h.1
   show vQ s m g op (if n≠0 then _ else _)
   split
   ·rename_i vt;refine ⟨gk,⟨(hO n).2 ⟨vt,.inl rfl⟩,rfl,fun _=>⟨hc,h3⟩⟩,hz,hO,by simpa [LPh.cH,Sub.cH,LK.cH] using hd⟩
   ·rename_i vt;have:n=0:=by simpa using vt
    subst this;exact qf gk (fun _=>⟨hc,h3⟩) hz hO hd
  | false=>
   show vQ s m g op (if n=0 then _ else _)
   split
   ·rename_i vt;subst vt;exact ⟨gk,⟨trivial,rfl,hk.1,hn rfl⟩,hz,hO,by simpa [LPh.cH,Sub.cH,LK.cH] using hd⟩
   ·rename_i vt;exact ⟨gk,⟨hk.1,(hO n).2 ⟨vt,.inl rfl⟩,hn rfl,(hk.2 vt).1,(hk.2 vt).2⟩,hz,hO,by simpa [LPh.cH] using hd⟩
 | del=>
  cases there with
  | true=>
   obtain ⟨h1,h2,h3,h4,h5⟩:=hy rfl;exact ⟨gk,⟨hk.1,hk.2,h1,h2,h3,h4,h5⟩,hz,hO,by simpa [LPh.cH] using hd⟩
  | false=>exact qf gk (fun e=>absurd (hk.1.symm.trans e) zD) hz hO hd
 | fin p=>exact qf gk (fun e=>absurd (hk.1.symm.trans e) zD) hz hO hd
theorem vH (op:LOp) (k:FK) (there:Bool) (prev cur next:Int) (pt:Nat) (z:Pz):k.eff<=(kI op k there prev cur next pt z).eff/\k.tk<=(kI op k there prev cur next pt z).tk:=by
 cases k with
 | get=>
  cases there
  ·show _<=(iE _ _).eff/\_<=(iE _ _).tk;rw [(jy _ _).1,(jy _ _).2];exact ⟨aY _,aY _⟩
  ·exact ⟨az _,az _⟩
 | put n=>
  cases there
  ·show _<=LX.eff (if n=0 then _ else _)/\_<=LX.tk (if n=0 then _ else _)
   split
   ·rename_i hn;subst hn;exact ⟨aY _,aY _⟩
   ·rename_i hn;refine ⟨aY _,?_⟩;show (if n≠0 then 1 else 0)<=1;split <;> omega
  ·show _<=LX.eff (if n≠0 then _ else _)/\_<=LX.tk (if n≠0 then _ else _)
   split
   ·rename_i hn;refine ⟨aY _,?_⟩;show (if n≠0 then 1 else 0)<=1;split <;> omega
   ·rename_i hn;rw [(jy _ _).1,(jy _ _).2];refine ⟨aY _,?_⟩;show (if n≠0 then 1 else 0)<=1;split <;> omega
 | del=>
  cases there
  ·show _<=(iE _ _).eff/\_<=(iE _ _).tk;rw [(jy _ _).1,(jy _ _).2];exact ⟨aY _,aY _⟩
  ·exact ⟨az _,az _⟩
 | fin p=>
  show _<=(iE _ _).eff/\_<=(iE _ _).tk;rw [(jy _ _).1,(jy _ _).2];exact ⟨az _,aY _⟩
theorem yH (h:Gl m g) (gk:oI m g op) {k:FK} (hk:nr m op k) {f:Fp} (hf:At m g op f) (hz:z.dO.length=3) (hO:eJ g s 0 k.own) (hd:g.dd s=z.gone.map (·.1)):vQ s m g op (fY op k f z):=by
 unfold fY;split
 ·rename_i h0;refine zn h gk hk hz hO.swap hd (fun e=>by cases e) fun _=>⟨hf.2.2.2.1,hf.2.2.2.2.1,.inl rfl⟩
 ·rename_i h0;have hc:(g.st f.cur).isL=true:=by rcases hf.2.2.2.2.2 with h | h;exact absurd h h0;exact h.1
  exact ⟨gk,⟨⟨hf.2.1,rfl,hc⟩,rfl,hk,hf,h0⟩,hz,hO,by simpa [LPh.cH,Sub.cH,LK.cH] using hd⟩
theorem vq (op:LOp) (k:FK) (f:Fp) (z:Pz):k.eff<=(fY op k f z).eff/\k.tk<=(fY op k f z).tk:=by
 unfold fY;split
 ·exact vH _ _ _ _ _ _ _ _
 ·exact ⟨az _,fu _ _⟩
theorem yv {n v:Int} (h:Rd m g (.nd n 0) v):0<=idxOf v/\idxOf v<=40/\(v=a9 (idxOf v)/\fG v=false\/v=gZ (idxOf v)/\fG v=true/\m (.nd n 0)=v)/\(idxOf v=0\/(g.st (idxOf v)).isL=true/\cX m n < cX m (idxOf v)):=by
 obtain ⟨y,h0,h1,hv,hy⟩:=h;rcases hv with hv | ⟨hv,hm⟩
 ·have:idxOf v=y:=by rw [hv];exact iU h0 h1
  rw [this];exact ⟨h0,h1,.inl ⟨hv,by rw [hv];exact dQ y⟩,hy⟩
 ·have:idxOf v=y:=by rw [hv];exact lF h0 h1
  rw [this];exact ⟨h0,h1,.inr ⟨hv,by rw [hv];exact lB y,hm⟩,hy⟩
theorem resL_ok (h:Gl m g) (gk:oI m g op) {k:LK} {x:Sub} {r:Ret} (hk:Eb m g op x k) (hr:kV s m g x.cls r) (hz:z.dO.length=3) (hO:eJ g s r.own k.own) (hd:g.dd s=z.gone.map (·.1)++k.cH):
  vQ s m g op (jS op r z k)/\k.eff<=(jS op r z k).eff/\r.tkn+k.tk<=(jS op r z k).tk:=by
 cases k with
 | fh k=>
  rw [hk.1] at hr
  cases r with
  | gd v p=>
   obtain ⟨i0,i1,iw,ik⟩:=yv hr.2;refine ⟨yH h gk hk.2 ⟨Nat.zero_lt_succ 2,Nat.lt_of_succ_lt (Nat.lt_succ_self 2),Nat.lt_succ_self 2,gk.h,gk.ho,ik⟩ hz hO (by simpa [LK.cH] using hd),?_⟩
   have:=vq op k ⟨0,1,2,op.h,idxOf v,p⟩ z;exact ⟨this.1,by show 0+k.tk<=(fY op k ⟨0,1,2,op.h,idxOf v,p⟩ z).tk;omega⟩
  | _=>exact absurd hr (by simp [kV])
 | fn k f=>
  rw [hk.1] at hr
  cases r with
  | gd v p=>
   refine ⟨⟨gk,⟨hk.2.1,hk.2.2.1,hk.2.2.2,hr.2⟩,hz,hO.swap,by simpa [LPh.cH,LK.cH] using hd⟩,az _,?_⟩
   show 0+k.tk<=k.tk;omega
  | _=>exact absurd hr (by simp [kV])
 | fr k f=>
  rw [hk.1] at hr
  cases r with
  | un=>
   have:=vq op k f z;exact ⟨yH h gk hk.2.1 hk.2.2 hz hO (by simpa [LK.cH] using hd),this.1,by show 0+k.tk<=(fY op k f z).tk;omega⟩
  | _=>exact absurd hr (by simp [kV])
 | out o=>
  have hu:r= .un:=by
   rcases hk.1 with e | e <;> (rw [e] at hr;cases r <;> simp [kV] at hr;rfl)
  subst hu;exact ⟨⟨hk.2,hz,hO,by simpa [LK.cH] using hd⟩,az _,az _⟩
 | clr o=>
  have hu:r= .un:=by
   rw [hk.1] at hr;cases r <;> simp [kV] at hr;rfl
  subst hu;have hc:=jy o z;exact ⟨qf gk hk.2 hz hO (by simpa [LK.cH] using hd),by show isN o.is<=(iE o z).eff;omega,by show 0+1<=(iE o z).tk;omega⟩
 | pt prev cur=>
  rw [hk.1] at hr
  cases r with
  | tk n p ok=>
   obtain ⟨rfl,hn⟩:=hr;exact ⟨⟨gk,⟨hk.2.1,hn,hk.2.2⟩,hz,hO,by simpa [LPh.cH,LK.cH] using hd⟩,az _,az _⟩
  | _=>exact absurd hr (by simp [kV])
 | dc n o=>
  have hu:r= .un:=by
   rw [hk.1] at hr;cases r <;> simp [kV] at hr;rfl
  subst hu;exact ⟨⟨gk,⟨show n∈g.dd s by rw [hd];simp [LK.cH],.inr rfl,hk.2⟩,hz,hO,by simpa [LPh.cH,Sub.cH,LK.cH] using hd⟩,az _,az _⟩
theorem LPh.pg (h:Gl m g) {x:LPh} (hx:Cg s m g op z x):nU g (x.acc s op).c:=by
 have bG:=hx.ok;have L:∀ n i,(g.st n).isL=true->0<=i->i < 8->nU g (.nd n i):=fun n i hn h0 h8=>by
  have:=jY h hn;exact ⟨this.1,this.2,h0,h8,fun _=>I1 hn⟩
 cases x with
 | sub x k=>exact Sub.pg h bG.1
 | fs k f nx told=>exact L _ _ bG.2.1.2.2.2.1 zD zD
 | fo k f nx told=>exact L _ _ (by rcases bG.2.1.2.2.2.2.2 with h | h;exact absurd h bG.2.2.1;exact h.1) zD zD
 | fc k f nx=>exact L _ _ bG.2.1.2.2.2.1 zD zD
 | gv n p=>exact L _ _ bG.2 zD zD
 | p1 n prev cur=>exact oE h bG.2.1 zD zD
 | p2 n prev cur=>exact oE h bG.2.1 zD zD
 | p0 n prev cur=>exact oE h bG.2.1 zD zD
 | pc n prev cur=>exact L _ _ bG.2.2.1.1 zD zD
 | dm prev cur next=>exact L _ _ (by rcases bG.2.2.1.2.2 with h | h;exact absurd h bG.2.2.2.1;exact h.1) zD zD
 | du prev cur next p=>exact L _ _ bG.2.2.1.1 zD zD
theorem nr.same' {k:FK} (hs:k.own≠0->∀ i,m' (.nd k.own i)=m (.nd k.own i)) (h:nr m op k):nr m' op k:=by
 cases k with
 | put n=>exact ⟨h.1,fun hn=>by have:=hs hn;simp only [FK.own] at this;rw [this,this];exact h.2 hn⟩
 | _=>exact h
theorem Ms {x:Sub} (hx:(∃ c,x.cls= .G c)\/x.cls= .R) (n i:Int):(x.acc s).mem m (.nd n i)=m (.nd n i):=by
 cases x with
 | g1 j c=>rw [bO rfl]
 | g2 j c v=>rw [bO rfl]
 | g3 j c v=>rw [cW rfl];rfl
 | r1 n=>rw [bO rfl]
 | r2 n e=>rw [rV rfl];rfl
 | _=>rcases hx with ⟨c,hx⟩ | hx <;> cases hx
theorem M6 {n p:Int} (hn:g.st n= .ow s) (hp:(g.st p).isL=true):n≠p:=by rintro rfl;rw [hn] at hp;cases hp
theorem LPh.step (h:Gl m g) {x:LPh} {th:Int} (hx:Cg s m g op z x) (hc:g.fc+1 < 268435456) (ht:g.tk<=37) (jl:((g.dd s).length:Int) < th):
  Gl ((x.acc s op).mem m) (x.gst s g op ((x.acc s op).res m))/\Env s m g ((x.acc s op).mem m) (x.gst s g op ((x.acc s op).res m))/\
  vQ s ((x.acc s op).mem m) (x.gst s g op ((x.acc s op).res m)) op (x.stp th op z ((x.acc s op).res m))/\(x.gst s g op ((x.acc s op).res m)).tk+x.tk<=g.tk+(x.stp th op z ((x.acc s op).res m)).tk/\
  (x.gst s g op ((x.acc s op).res m)).n+x.eff<=g.n+(x.stp th op z ((x.acc s op).res m)).eff/\(op.o % 2=0->(x.gst s g op ((x.acc s op).res m)).n=g.n):=by
 have gk:=hx.opk;have bG:=hx.ok;have hz:=hx.er;have hO:=hx.own;have hd:=hx.dd;clear hx
 cases x with
 | sub x k=>
  have jm:k.own≠0->(∃ c,x.cls= .G c)\/x.cls= .R:=by
   intro hv;have h2:=bG.2
   cases k with
   | fh k=>exact .inl ⟨_,h2.1⟩
   | fn k f=>exact .inl ⟨_,h2.1⟩
   | fr k f=>exact .inr h2.1
   | _=>exact absurd rfl hv
  have hV:x.cls= .V->k.own=0:=by
   intro hv;refine Aw fun dF=>?_
   rcases jm dF with ⟨c,e⟩ | e <;> (rw [hv] at e;cases e)
  have hd2:g.dd s=z.gone.map (·.1)++(x.cH++k.cH):=hd;obtain ⟨s1,s2,s3,s4,s5⟩:=Sub.step h (z:=z) (o0:=k.own) (p0:=k.cH) (th:=th) bG.1 hz hO hd2 hc ht hV jl;have hop':oI ((x.acc s).mem m) (x.gst s g ((x.acc s).res m)) op:=gk.env h s1 s2;have hfk:∀ f,nr m op f->k.own=f.own->nr ((x.acc s).mem m) op f:=by
   intro f hf he;refine hf.same' fun dF i=>?_
   exact Ms (jm (by rw [he];exact dF)) _ _
  have qL:∀ x':Sub,x'.cls=x.cls->Eb ((x.acc s).mem m) (x.gst s g ((x.acc s).res m)) op x' k:=fun x' AW=>Eb.env s2 AW hfk bG.2
  refine ⟨s1,s2,?_⟩;show vQ s _ (x.gst s g ((x.acc s).res m)) op ((x.stp th z ((x.acc s).res m)).oX k fun t s=>jS op t s k)/\(x.gst s g ((x.acc s).res m)).tk+(x.tk+k.tk)<=g.tk+LX.tk ((x.stp th z ((x.acc s).res m)).oX k fun t s=>jS op t s k)/\(x.gst s g ((x.acc s).res m)).n+k.eff<=g.n+LX.eff ((x.stp th z ((x.acc s).res m)).oX k fun t s=>jS op t s k)/\(op.o % 2=0->(x.gst s g ((x.acc s).res m)).n=g.n)
  cases aG:x.stp th z ((x.acc s).res m) with
  | go x' z'=>
   rw [aG] at s3 s4;obtain ⟨a1,a2,a3,a4,a5⟩:=s3;have s4:(x.gst s g ((x.acc s).res m)).tk+x.tk<=g.tk+x'.tk:=s4;refine ⟨⟨hop',⟨a2,qL x' a1⟩,a3,a4,a5⟩,?_,?_,fun _=>s5⟩
   ·show _<=g.tk+(x'.tk+k.tk);omega
   ·show _<=g.n+k.eff;omega
  | ret r z'=>
   rw [aG] at s3 s4;obtain ⟨a1,a3,a4,a5⟩:=s3;have s4:(x.gst s g ((x.acc s).res m)).tk+x.tk<=g.tk+r.tkn:=s4;obtain ⟨b1,b2,b3⟩:=resL_ok s1 hop' (qL x rfl) a1 a3 a4 a5;refine ⟨b1,?_,?_,fun _=>s5⟩
   ·show _<=g.tk+(jS op r z' k).tk;omega
   ·show _<=g.n+(jS op r z' k).eff;omega
  | stuck=>rw [aG] at s3;exact absurd s3 (by simp [JF])
 | fs k f next told=>
  have hd2:g.dd s=z.gone.map (·.1):=by simpa [LPh.cH] using hd
  rw [bO rfl];refine ⟨h,Env.refl s m g,?_⟩;show vQ s m g op (if _ then _ else _)/\g.tk+k.tk<=g.tk+LX.tk (if _ then _ else _)/\g.n+k.eff<=g.n+LX.eff (if _ then _ else _)/\(op.o % 2=0->g.n=g.n)
  split
  ·exact ⟨mL gk bG.1 hz hO.swap hd2,by show _<=g.tk+(0+k.tk);omega,az _,fun _=>rfl⟩
  ·exact ⟨⟨gk,bG,hz,hO,hd⟩,az _,az _,fun _=>rfl⟩
 | fo k f next told=>
  have hd2:g.dd s=z.gone.map (·.1):=by simpa [LPh.cH] using hd
  obtain ⟨hk,hf,h0,hr⟩:=bG;have ja:(g.st f.cur).isL=true/\cX m f.prev < cX m f.cur:=by rcases hf.2.2.2.2.2 with h | h;exact absurd h h0;exact h
  obtain ⟨i0,i1,iw,ik⟩:=yv hr;rw [bO rfl];refine ⟨h,Env.refl s m g,?_⟩;have hv:(((LPh.fo k f next told).acc s op).res m).1=cX m f.cur:=fF _ _
  show vQ s m g op (if _ then _ else _)/\g.tk+k.tk<=g.tk+LX.tk (if _ then _ else _)/\g.n+k.eff<=g.n+LX.eff (if _ then _ else _)/\(op.o % 2=0->g.n=g.n)
  rw [hv];split
  ·rename_i hm;rcases iw with ⟨_,e⟩ | ⟨e,_,e2⟩
   ·rw [e] at hm;cases hm
   ·exact ⟨⟨gk,⟨hk,hf,h0,i0,i1,by rw [e2];exact e⟩,hz,hO,hd⟩,az _,az _,fun _=>rfl⟩
  ·rename_i hm;have hm:fG next=false:=by simpa using hm
   split
   ·rename_i dN;have:=vq op k ⟨f.b,f.c,f.a,f.cur,idxOf next,told⟩ z.got
    refine ⟨yH h gk hk ⟨hf.2.1,hf.2.2.1,hf.1,ja.1,dN,ik⟩ hz hO.swap hd2,zO,zO,fun _=>rfl⟩
   ·rename_i hge;split
    ·rename_i heq;have:=vH op k true f.prev f.cur next told z.got
     exact ⟨zn h gk hk hz hO hd2 (fun _=>⟨hf.2.2.2,h0,heq,hm,hr⟩) (fun e=>by cases e),zO,zO,fun _=>rfl⟩
    ·rename_i dF;have:=vH op k false f.prev f.cur 0 (z.made - 1) z.got;exact ⟨zn h gk hk hz hO hd2 (fun e=>by cases e) (fun _=>⟨hf.2.2.2.1,hf.2.2.2.2.1,.inr ⟨ja.1,zO⟩⟩),zO,zO,fun _=>rfl⟩
 | fc k f nx=>
  have hd2:g.dd s=z.gone.map (·.1):=by simpa [LPh.cH] using hd
  obtain ⟨hk,hf,h0,mU⟩:=bG;have ja:(g.st f.cur).isL=true/\cX m f.prev < cX m f.cur:=by rcases hf.2.2.2.2.2 with h | h;exact absurd h h0;exact h
  cases hr:(((LPh.fc k f nx).acc s op).res m).2 with
  | false=>
   rw [dg rfl hr];have e1:LPh.gst s g op (.fc k f nx) (((LPh.fc k f nx).acc s op).res m)=g:=by simp [LPh.gst,hr]
   have e2:LPh.stp th op z (.fc k f nx) (((LPh.fc k f nx).acc s op).res m)=jU op k z.got:=by simp [LPh.stp,hr]
   rw [e1,e2];exact ⟨h,Env.refl s m g,mL gk hk hz hO.swap hd2,by show _<=g.tk+(0+k.tk);exact Nat.add_le_add_left (fu _ _) _,az _,fun _=>rfl⟩
  | true=>
   obtain ⟨hm,hw⟩:=eZ (a:=(LPh.fc k f nx).acc s op) rfl hr;have hm:m (.nd f.prev 0)=a9 f.cur:=hm;rw [hw];have e1:LPh.gst s g op (.fc k f nx) (((LPh.fc k f nx).acc s op).res m)=g.unl s f.cur:=by simp [LPh.gst,hr]
   have e2:LPh.stp th op z (.fc k f nx) (((LPh.fc k f nx).acc s op).res m)= .go (.sub (.r1 f.cur) (.fr k ⟨f.b,f.a,f.c,f.prev,nx,z.made⟩)) z.got:=by simp [LPh.stp,hr]
   rw [e1,e2];have hp:=hf.2.2.2.1;have g1:=h.unl (s:=s) hp hm ja.1 mU.1 mU.2.1 mU.2.2;have g2:Env s m g (bZ m (.nd f.prev 0) (a9 nx)) (g.unl s f.cur):=Env.unl h hp hm ja.1;have lJ:nx=0\/(g.st nx).isL=true/\cX m f.cur < cX m nx:=by
    obtain ⟨y,y0,y1,yw,yy⟩:=h.lwrd f.cur ja.1;have:y=nx:=by
     rcases yw with yw | yw
     ·have:=lB nx;rw [<- mU.2.2,yw,dQ] at this;cases this
     ·rw [<- lF y0 y1,<- yw,mU.2.2,lF mU.1 mU.2.1]
    rw [this] at yy;exact yy
   have jm:g.st f.cur= .li:=by
    obtain ⟨_,_,_,Lj⟩:=oF h hp (by have:=jY h ja.1;omega) (jY h ja.1).2 hm
    exact (h.lmem _).1 (Lj.resolve_left h0)
   refine ⟨g1,g2,⟨gk.env h g1 g2,⟨?_,rfl,hk.same' fun dF i=>?_,?_⟩,hz,?_,?_⟩,?_,az _,fun _=>rfl⟩
   ·show f.cur∈(g.unl s f.cur).dd s;simp [Gh.unl,eV]
   ·exact iM m f.prev _ (.inl (M6 ((hO k.own).2 ⟨dF,.inl rfl⟩) hp))
   ·exact At.env g2 ⟨hf.2.1,hf.1,hf.2.2.1,hp,hf.2.2.2.2.1,lJ.imp_right fun ⟨a,b⟩=>⟨a,by show cX m f.prev < cX m nx;omega⟩⟩
   ·intro y;show eK g.st f.cur (.dli s) y= .ow s ↔ y≠0/\(y=0\/y=k.own);have hy:=hO y
    by_cases e:y=f.cur
    ·rw [e,bH];rw [e,jm] at hy;simp at hy ⊢;exact fun a=>⟨h0,fun hh=>hy h0 |>.1 hh⟩
    ·rw [bJ _ _ e,hy];show _/\(y=k.own\/y=0) ↔ _;omega
   ·show (g.unl s f.cur).dd s=z.gone.map (·.1)++([f.cur]++[]);simp [Gh.unl,eV,hd2]
   ·show g.tk+k.tk<=g.tk+(0+k.tk);omega
 | gv n p=>
  have hd2:g.dd s=z.gone.map (·.1):=by simpa [LPh.cH] using hd
  rw [bO rfl];refine ⟨h,Env.refl s m g,?_⟩;have:=jy ⟨(((LPh.gv n p).acc s op).res m).1,true,p,n⟩ z.got;exact ⟨qf gk (fun e=>absurd (bG.1.symm.trans e) zD) hz hO hd2,by show g.tk+0<=g.tk+(iE _ _).tk;omega,by show g.n+0<=g.n+(iE _ _).eff;omega,fun _=>rfl⟩
 | p1 n prev cur=>
  rw [cW rfl];have g1:=h.bP (s:=s) (c:=.nd n 1) bG.2.1 op.o;have g2:Env s m g (bZ m (.nd n 1) op.o) g:=Env.bP h (c:=.nd n 1) bG.2.1 op.o;exact ⟨g1,g2,⟨gk.env h g1 g2,⟨bG.1,bG.2.1,bG.2.2.env g2,db _ _ _⟩,hz,hO,hd⟩,az _,az _,fun _=>rfl⟩
 | p2 n prev cur=>
  rw [cW rfl];have g1:=h.bP (s:=s) (c:=.nd n 2) bG.2.1 op.v;have g2:Env s m g (bZ m (.nd n 2) op.v) g:=Env.bP h (c:=.nd n 2) bG.2.1 op.v;exact ⟨g1,g2,⟨gk.env h g1 g2,⟨bG.1,bG.2.1,bG.2.2.1.env g2,by show bZ m (.nd n 2) op.v (.nd n 1)=_;rw [fO m n 2 _ (.inr zD)];exact bG.2.2.2,db _ _ _⟩,hz,hO,hd⟩,az _,az _,fun _=>rfl⟩
 | p0 n prev cur=>
  rw [cW rfl];have g1:=h.bP (s:=s) (c:=.nd n 0) bG.2.1 (a9 cur);have g2:Env s m g (bZ m (.nd n 0) (a9 cur)) g:=Env.bP h (c:=.nd n 0) bG.2.1 (a9 cur);exact ⟨g1,g2,⟨gk.env h g1 g2,⟨bG.1,bG.2.1,bG.2.2.1.env g2,by show bZ m (.nd n 0) _ (.nd n 1)=_;rw [fO m n 0 _ (.inr zD)];exact bG.2.2.2.1,by show bZ m (.nd n 0) _ (.nd n 2)=_;rw [fO m n 0 _ (.inr zD)];exact bG.2.2.2.2,db _ _ _⟩,hz,hO,hd⟩,az _,az _,fun _=>rfl⟩
 | pc n prev cur=>
  have hd2:g.dd s=z.gone.map (·.1):=by simpa [LPh.cH] using hd
  obtain ⟨nY,hn,hi,A3,uL,vt⟩:=bG;have dF:n≠0:=by have:=h.rng n (by rw [hn];simp);omega
  cases hr:(((LPh.pc n prev cur).acc s op).res m).2 with
  | false=>
   rw [dg rfl hr];have e1:LPh.gst s g op (.pc n prev cur) (((LPh.pc n prev cur).acc s op).res m)=g:=by simp [LPh.gst,hr]
   have e2:LPh.stp th op z (.pc n prev cur) (((LPh.pc n prev cur).acc s op).res m)=jU op (.put n) z.got:=by simp [LPh.stp,hr]
   rw [e1,e2];refine ⟨h,Env.refl s m g,mL gk ⟨nY,fun _=>⟨A3,uL⟩⟩ hz hO.swap hd2,?_,az _,fun _=>rfl⟩
   show g.tk+1<=g.tk+(0+if n≠0 then 1 else 0)
   rw [if_pos dF];omega
  | true=>
   obtain ⟨hm,hw⟩:=eZ (a:=(LPh.pc n prev cur).acc s op) rfl hr;have hm:m (.nd prev 0)=a9 cur:=hm;rw [hw];have e1:LPh.gst s g op (.pc n prev cur) (((LPh.pc n prev cur).acc s op).res m)=g.ins prev n (vm op.o):=by simp [LPh.gst,hr]
   have e2:LPh.stp th op z (.pc n prev cur) (((LPh.pc n prev cur).acc s op).res m)=iE ⟨0,true,z.made,n⟩ z.got:=by simp [LPh.stp,hr]
   rw [e1,e2];have he:if op.o % 2=1 then vm op.o=1 else vm op.o=0:=by unfold vm;split <;> rfl
   have g1:=h.ins (s:=s) (e:=vm op.o) hi.1 hm hn A3 hi.2.1 hi.2.2 vt gk.o0 gk.o1 gk.o2 he;have En:0<=cur/\cur<=40:=by
    rcases hi.2.2 with h1 | h1
    ·omega
    ·have:=jY h h1.1;omega
   have lH:=(oF h hi.1 En.1 En.2 hm).1;have g2:Env s m g (bZ m (.nd prev 0) (a9 n)) (g.ins prev n (vm op.o)):=Env.ins h lH hm hn;have hnp:=M6 hn hi.1;have:=jy ⟨0,true,z.made,n⟩ z.got;refine ⟨g1,g2,qf (gk.env h g1 g2) (fun _=>⟨?_,?_⟩) hz ?_ hd2,?_,?_,?_⟩
   ·show (eK g.st n .li n).isL=true;rw [bH];rfl
   ·show bZ m (.nd prev 0) _ (.nd n 1)=op.o;rw [fO m prev 0 _ (.inr zD)];exact A3
   ·intro y;have hy:=hO y;show eK g.st n .li y= .ow s ↔ _
    by_cases e:y=n
    ·rw [e,bH];simp
    ·rw [bJ _ _ e,hy];show _/\(y=n\/y=0) ↔ _;omega
   ·show g.tk+1<=_;omega
   ·have h1:=this.1;show g.n+vm op.o+0<=g.n+(iE _ _).eff;rw [h1];have:vm op.o<=1:=by unfold vm;split <;> omega
    show g.n+vm op.o+0<=g.n+1;omega
   ·intro ho;show g.n+vm op.o=g.n;unfold vm;rw [if_neg zO];omega
 | dm prev cur next=>
  have hd2:g.dd s=z.gone.map (·.1):=by simpa [LPh.cH] using hd
  obtain ⟨El,vr,hcu,h0,hkc,hmn,hrd⟩:=bG;have ja:(g.st cur).isL=true/\cX m prev < cX m cur:=by rcases hcu.2.2 with h | h;exact absurd h h0;exact h
  obtain ⟨i0,i1,iw,ik⟩:=yv hrd;have lH:next=a9 (idxOf next):=by
   rcases iw with e | e
   ·exact e.1
   ·rw [hmn] at e;cases e.2.1
  cases hr:(((LPh.dm prev cur next).acc s op).res m).2 with
  | false=>
   rw [dg rfl hr];have e1:LPh.gst s g op (.dm prev cur next) (((LPh.dm prev cur next).acc s op).res m)=g:=by simp [LPh.gst,hr]
   have e2:LPh.stp th op z (.dm prev cur next) (((LPh.dm prev cur next).acc s op).res m)=jU op .del z.got:=by simp [LPh.stp,hr]
   rw [e1,e2];exact ⟨h,Env.refl s m g,mL gk ⟨El,vr⟩ hz hO hd2,az _,az _,fun _=>rfl⟩
  | true=>
   obtain ⟨hm,hw⟩:=eZ (a:=(LPh.dm prev cur next).acc s op) rfl hr
   have hm:m (.nd cur 0)=next:=hm
   rw [hw];have e1:LPh.gst s g op (.dm prev cur next) (((LPh.dm prev cur next).acc s op).res m)=g.mark:=by simp [LPh.gst,hr]
   have e2:LPh.stp th op z (.dm prev cur next) (((LPh.dm prev cur next).acc s op).res m)= .go (.du prev cur next z.made) z.got:=by simp [LPh.stp,hr]
   rw [e1,e2];have J7:m (.nd cur 0)=a9 (idxOf next):=hm.trans lH
   have g1:=h.mark ja.1 i0 i1 J7 (by rw [hkc];exact vr)
   have g2:Env s m g (bZ m (.nd cur 0) (gZ (idxOf next))) g.mark:=Env.mark h ja.1 i0 i1 J7
   refine ⟨g1,g2,⟨gk.env h g1 g2,⟨El,vr,hcu.env g2,h0,i0,i1,db _ _ _⟩,hz,hO,hd⟩,az _,az _,fun e=>by omega⟩
 | du prev cur next p=>
  have hd2:g.dd s=z.gone.map (·.1):=by simpa [LPh.cH] using hd
  obtain ⟨El,vr,hcu,h0,mU⟩:=bG;have ja:(g.st cur).isL=true/\cX m prev < cX m cur:=by rcases hcu.2.2 with h | h;exact absurd h h0;exact h
  cases hr:(((LPh.du prev cur next p).acc s op).res m).2 with
  | false=>
   rw [dg rfl hr];have e1:LPh.gst s g op (.du prev cur next p) (((LPh.du prev cur next p).acc s op).res m)=g:=by simp [LPh.gst,hr]
   have e2:LPh.stp th op z (.du prev cur next p) (((LPh.du prev cur next p).acc s op).res m)=jU op (.fin p) z.got:=by simp [LPh.stp,hr]
   rw [e1,e2];exact ⟨h,Env.refl s m g,mL gk ⟨El,vr⟩ hz hO hd2,az _,az _,fun _=>rfl⟩
  | true=>
   obtain ⟨hm,hw⟩:=eZ (a:=(LPh.du prev cur next p).acc s op) rfl hr
   have hm:m (.nd prev 0)=a9 cur:=hm;rw [hw];have e1:LPh.gst s g op (.du prev cur next p) (((LPh.du prev cur next p).acc s op).res m)=g.unl s cur:=by simp [LPh.gst,hr]
   have e2:LPh.stp th op z (.du prev cur next p) (((LPh.du prev cur next p).acc s op).res m)=ie cur ⟨0,true,p,0⟩ z.got:=by simp [LPh.stp,hr]
   rw [e1,e2];have g1:=h.unl (s:=s) hcu.1 hm ja.1 mU.1 mU.2.1 mU.2.2;have g2:Env s m g (bZ m (.nd prev 0) (a9 (idxOf next))) (g.unl s cur):=Env.unl h hcu.1 hm ja.1
   have jm:g.st cur= .li:=by
    obtain ⟨_,_,_,Lj⟩:=oF h hcu.1 (by have:=jY h ja.1;omega) (jY h ja.1).2 hm
    exact (h.lmem _).1 (Lj.resolve_left h0)
   have:=DS cur ⟨0,true,p,0⟩ z.got;refine ⟨g1,g2,Jp (gk.env h g1 g2) (fun e=>absurd (El.symm.trans e) zD) hz ?_ ?_,?_,?_,fun _=>rfl⟩
   ·intro y;have hy:=hO y;show eK g.st cur (.dli s) y= .ow s ↔ _
    by_cases e:y=cur
    ·rw [e,bH];simp
    ·rw [bJ _ _ e,hy];exact Iff.rfl
   ·show (g.unl s cur).dd s=z.gone.map (·.1)++[cur];simp [Gh.unl,eV,hd2]
   ·show g.tk+0<=_;omega
   ·show g.n+1<=g.n+(ie _ _ _).eff;rw [this.1];exact az _
end
theorem rv_bd:∀ (i x:Nat),rv i x < 2 ^ i
 | 0,x=>by simp [rv]
 | i+1,x=>by
  have:=rv_bd i (x / 2);unfold rv;have h2:x % 2=0\/x % 2=1:=zO;have hp:(2:Nat) ^ (i+1)=2 ^ i+2 ^ i:=by rw [Nat.pow_succ];omega
  rcases h2 with h | h <;> rw [h] <;> omega
theorem revI_bd (x:Int):0<=qY x/\qY x<=65535:=by
 have:=rv_bd 16 (x % 65536).toNat;unfold qY;omega
theorem MP {x:Int} (h:x % 2=1):32768<=qY x:=by
 unfold qY rv;have:(x % 65536).toNat % 2=1:=zO;have h2:(2:Nat) ^ 15=32768:=zD;rw [this,h2];omega
theorem dummy1:rA 1=65536:=zD
theorem CV (a:Int):1<=jr a/\jr a < 131072/\jr a % 2=1/\(a % 2=1->65536 < jr a):=by
 have:=revI_bd a;unfold jr;refine ⟨zO,zO,zO,fun h=>?_⟩
 have:=MP h;omega
def MPh.own:MPh->Int × Int
 | .ml _ _ _ _ x _=>x.own
 | _=>(0,0)
def MPh.cH:MPh->List Int
 | .ml _ _ _ _ x _=>x.cH
 | _=>[]
def MPh.eff:MPh->Nat
 | .ml dm _ _ _ x _=>if dm then 0 else x.eff
 | .m5 _ _ | .m6 _ _ | .m7 _=>1
 | _=>0
def MPh.tk:MPh->Nat
 | .ml dm _ _ _ x _=>if dm then x.tk else 1+x.tk
 | .m4 _ _=>1
 | .m5 _ _ | .m6 _ _ | .m7 _=>2
 | _=>0
def MX.eff:MX->Nat
 | .go x _ _=>x.eff
 | .out _=>1
 | .stuck=>0
def MX.tk:MX->Nat
 | .go x _ _=>x.tk
 | .out _=>2
 | .stuck=>0
def MOk (s:Nat) (m:Sm) (g:Gh) (op:MOp) (gn:cG):MPh->Prop
 | .m1=>True
 | .m2 sz b=>(sz=1\/sz=2)/\b=op.a % sz
 | .m3 sz=>sz=2/\op.a % 2=1
 | .ml dm sz _ lo x z=>Cg s m g lo z x/\(sz=1\/sz=2)/\z.gone=gn/\(dm=true->lo=⟨2,1,65536,0⟩/\sz=2/\op.a % 2=1)/\(dm=false->lo.kind=op.kind/\lo.o=jr op.a/\lo.v=op.b)
 | .m4 sz n=>sz=2/\op.a % 2=1/\(g.st n).isL=true/\cX m n=65536
 | .m5 sz _=>sz=1\/sz=2
 | .m6 sz _=>sz=1
 | .m7 _=>True
structure Ea (s:Nat) (m:Sm) (g:Gh) (op:MOp) (gn:cG) (x:MPh):Prop where
 k:1<=op.kind/\op.kind<=3
 a:0<=op.a/\op.a < 65536
 ok:MOk s m g op gn x
 own:eJ g s x.own.1 x.own.2
 dd:g.dd s=gn.map (·.1)++x.cH
def Aq (s:Nat) (m:Sm) (g:Gh) (op:MOp):MX->Prop
 | .go x _ gn=>Ea s m g op gn x
 | .out o=>eJ g s 0 0/\g.dd s=o.gone.map (·.1)
 | .stuck=>False
def MPh.gst (s:Nat) (g:Gh):MPh->Int × Bool->Gh
 | .ml _ _ _ lo x _,r=>x.gst s g lo r
 | _,_=>g
section
variable {m m':Sm} {g g':Gh} {s t:Nat} {op:MOp} {gn:cG}
theorem Ea.env {x:MPh} (h:Gl m g) (h':Gl m' g') (e:Env s m g m' g') (ht:t≠s) (K:Ea t m g op gn x):Ea t m' g' op gn x:=by
 refine ⟨K.k,K.a,?_,K.own.env e ht,(e.ddo t ht).trans K.dd⟩;have bG:=K.ok
 cases x with
 | ml dm sz mm lo x z=>exact ⟨bG.1.env h h' e ht,bG.2⟩
 | m4 sz n=>exact ⟨bG.1,bG.2.1,(e.isL n bG.2.2.1).1,by rw [iN e bG.2.2.1];exact bG.2.2.2⟩
 | _=>exact bG
theorem Dg (h:Gl m g) {n:Int} (hn:(g.st n).isL=true) (hk:cX m n % 2=0):g.st n= .li:=by
 refine I3 h hn ?_
 cases hb:fG (m (.nd n 0)) with
 | false=>rfl
 | true=>have:=h.lmrk n hn hb;omega
theorem Bx (h:Gl m g):(g.st 1).isL=true:=by
 obtain ⟨r,hr⟩:=h.lhd;exact BC ((h.lmem 1).1 (by rw [hr];simp))
theorem AA {lo:LOp} (gk:oI m g lo) (hk:lo.kind=1\/lo.kind=2\/lo.kind=3/\lo.o % 2=1) (hO:eJ g s 0 0) (hd:g.dd s=gn.map (·.1)):
  ∃ x,dp lo gn= .go x ⟨[0,0,0],gn,0⟩/\Cg s m g lo ⟨[0,0,0],gn,0⟩ x/\x.eff=0/\x.tk=0:=by
 rcases hk with hk | hk | ⟨hk,ho⟩
 ·refine ⟨_,by unfold dp jU;rw [hk];rfl,mL (k:=.get) gk hk rfl hO hd,rfl,rfl⟩
 ·refine ⟨_,by unfold dp jU;rw [hk];rfl,mL (k:=.put 0) gk ⟨hk,fun h=>absurd rfl h⟩ rfl hO hd,rfl,rfl⟩
 ·refine ⟨_,by unfold dp jU;rw [hk];rfl,mL (k:=.del) gk ⟨hk,ho⟩ rfl hO hd,rfl,rfl⟩
theorem yC (h:Gl m g) (hk:1<=op.kind/\op.kind<=3) (ha:0<=op.a/\op.a < 65536) {sz n:Int} {made:Nat} (hs:sz=1\/sz=2) (hn:(g.st n).isL=true) (Jc:cX m n < jr op.a/\cX m n % 2=0) (hO:eJ g s 0 0) (hd:g.dd s=gn.map (·.1)):
  Aq s m g op (ku op sz n made gn)/\(ku op sz n made gn).eff=0/\1<=(ku op sz n made gn).tk:=by
 have hb:=CV op.a;have gk:oI m g ⟨op.kind,n,jr op.a,op.b⟩:=⟨hn,Jc.1,Jc.2,by show 0<=jr op.a;omega,hb.2.1,fun e=>by have:jr op.a % 2=0:=e;omega,Dg h hn Jc.2⟩
 obtain ⟨x,hx,h1,h2,h3⟩:=AA (gn:=gn) gk (by show op.kind=1\/op.kind=2\/op.kind=3/\jr op.a % 2=1;omega) hO hd
 have L6:=h.rng n (I1 hn);unfold ku;rw [if_pos L6];show Aq s m g op (LX.inM _ _ _ _ _ (dp ⟨op.kind,n,jr op.a,op.b⟩ gn))/\(LX.inM _ _ _ _ _ (dp ⟨op.kind,n,jr op.a,op.b⟩ gn)).eff=0/\1<=(LX.inM _ _ _ _ _ (dp ⟨op.kind,n,jr op.a,op.b⟩ gn)).tk;rw [hx];refine ⟨⟨hk,ha,⟨h1,hs,rfl,(fun e=>by cases e),fun _=>⟨rfl,rfl,rfl⟩⟩,h1.own,h1.dd⟩,?_,?_⟩
 ·exact h2
 ·show 1<=1+x.tk;omega
theorem Ny {sz:Int} {o:dA} {made:Nat} (hk:1<=op.kind/\op.kind<=3) (ha:0<=op.a/\op.a < 65536) (hs:sz=1\/sz=2) (hO:eJ g s 0 0) (hd:g.dd s=gn.map (·.1)):
  Aq s m g op (jf op sz o made gn)/\(jf op sz o made gn).eff=1/\(jf op sz o made gn).tk=2:=by
 unfold jf;split
 ·exact ⟨⟨hO,hd⟩,rfl,rfl⟩
 ·split
  ·exact ⟨⟨hk,ha,hs,hO,by simpa [MPh.cH] using hd⟩,rfl,rfl⟩
  ·split
   ·exact ⟨⟨hk,ha,trivial,hO,by simpa [MPh.cH] using hd⟩,rfl,rfl⟩
   ·exact ⟨⟨hO,hd⟩,rfl,rfl⟩
theorem MPh.pg (h:Gl m g) {x:MPh} (hx:Ea s m g op gn x):nU g (x.acc s).c:=by
 have bG:=hx.ok
 cases x with
 | m2 sz b=>
  show b=0\/b=1;rcases bG.1 with e | e <;> (have:=bG.2;rw [e] at this;omega)
 | m3 sz=>exact .inl rfl
 | ml dm sz mm lo x z=>exact LPh.pg h bG.1
 | m4 sz n=>exact .inr rfl
 | _=>trivial
theorem MPh.step (h:Gl m g) {x:MPh} {th:Int} {made:Nat} (hx:Ea s m g op gn x) (hc:g.fc+1 < 268435456) (ht:g.tk<=37) (jl:((g.dd s).length:Int) < th):
  Gl ((x.acc s).mem m) (x.gst s g ((x.acc s).res m))/\Env s m g ((x.acc s).mem m) (x.gst s g ((x.acc s).res m))/\
  Aq s ((x.acc s).mem m) (x.gst s g ((x.acc s).res m)) op (x.stp th 2 op made gn ((x.acc s).res m))/\(x.gst s g ((x.acc s).res m)).tk+x.tk<=g.tk+(x.stp th 2 op made gn ((x.acc s).res m)).tk/\
  (x.gst s g ((x.acc s).res m)).n+x.eff<=g.n+(x.stp th 2 op made gn ((x.acc s).res m)).eff:=by
 have hk:=hx.k;have ha:=hx.a;have bG:=hx.ok;have hO:=hx.own;have hd:=hx.dd;clear hx;have hb:=CV op.a
 cases x with
 | m1=>
  rw [bO rfl];refine ⟨h,Env.refl s m g,?_⟩;have e1:MPh.stp th 2 op made gn .m1 ((MPh.m1.acc s).res m)= .go (.m2 (m .msize) (op.a % m .msize)) (made+1) gn:=by
   show (if _ then _ else _)=_
   rw [fF];exact if_pos (show m .msize=1\/m .msize=2/\(2:Int)=2 from h.msz.imp_right fun e=>⟨e,rfl⟩)
  rw [e1];exact ⟨⟨hk,ha,⟨h.msz,rfl⟩,hO,hd⟩,az _,az _⟩
 | m2 sz b=>
  rw [bO rfl];refine ⟨h,Env.refl s m g,?_⟩;have hd2:g.dd s=gn.map (·.1):=by simpa [MPh.cH] using hd
  have hv:(((MPh.m2 sz b).acc s).res m).1=m (.bucket b):=fF _ _;show Aq s m g op (if _ then _ else _)/\g.tk+0<=g.tk+MX.tk (if _ then _ else _)/\g.n+0<=g.n+MX.eff (if _ then _ else _)
  rw [hv];have hb01:b=0\/b=1/\sz=2/\op.a % 2=1:=by
   rcases bG.1 with e | e <;> (have:=bG.2;rw [e] at this;omega)
  rcases hb01 with rfl | ⟨rfl,dB,vr⟩
  ·have hi:idxOf (m (.bucket 0))=1:=by rw [h.b0];exact iU zD zD
   rw [hi,if_pos zD];have h1:=yC (op:=op) (made:=made+1) (sz:=sz) h hk ha bG.1 (Bx h) (by rw [h.l1];omega) hO hd2
   exact ⟨h1.1,zO,zO⟩
  ·rcases h.b1 with e | ⟨d,d1,d2,d3⟩
   ·have hi:idxOf (m (.bucket 1))=0:=by rw [e];decide
    rw [hi,if_neg zD,if_pos rfl];exact ⟨⟨hk,ha,⟨dB,vr⟩,hO,hd⟩,az _,az _⟩
   ·have hdr:=jY h d1;have hi:idxOf (m (.bucket 1))=d:=by rw [d3];exact iU zO hdr.2
    rw [hi,if_pos zO];have h1:=yC (op:=op) (made:=made+1) (sz:=sz) h hk ha bG.1 d1 (by rw [d2];have:=hb.2.2.2 vr;omega) hO hd2
    exact ⟨h1.1,zO,zO⟩
 | m3 sz=>
  rw [bO rfl];refine ⟨h,Env.refl s m g,?_⟩;have hd2:g.dd s=gn.map (·.1):=by simpa [MPh.cH] using hd
  have hv:(((MPh.m3 sz).acc s).res m).1=m (.bucket 0):=fF _ _;have hi:idxOf (m (.bucket 0))=1:=by rw [h.b0];exact iU zD zD
  show Aq s m g op (if _ then _ else _)/\g.tk+0<=g.tk+MX.tk (if _ then _ else _)/\g.n+0<=g.n+MX.eff (if _ then _ else _)
  rw [hv,hi,if_neg zD,dummy1];have gk:oI m g ⟨2,1,65536,0⟩:=⟨Bx h,by show cX m 1 < 65536;rw [h.l1];decide,by show cX m 1 % 2=0;rw [h.l1];decide,(by decide:(0:Int)<=65536),(by decide:(65536:Int) < 131072),fun _=>rfl,Dg h (Bx h) (by rw [h.l1];decide)⟩
  obtain ⟨x,hx,h1,h2,h3⟩:=AA (gn:=gn) gk (.inr (.inl rfl)) hO hd2;show Aq s m g op (LX.inM _ _ _ _ _ (dp ⟨2,1,65536,0⟩ gn))/\g.tk+0<=g.tk+MX.tk (LX.inM _ _ _ _ _ (dp ⟨2,1,65536,0⟩ gn))/\g.n+0<=g.n+MX.eff (LX.inM _ _ _ _ _ (dp ⟨2,1,65536,0⟩ gn));rw [hx];refine ⟨⟨hk,ha,⟨h1,.inr bG.1,rfl,fun _=>⟨rfl,bG⟩,(fun e=>by cases e)⟩,h1.own,h1.dd⟩,?_,?_⟩
  ·exact dZ _ _
  ·exact dZ _ _
 | ml dm sz mm lo x z=>
  obtain ⟨hL,hs,hg,hdm,hmn⟩:=bG;obtain ⟨s1,s2,s3,s4,s5,s6⟩:=LPh.step (th:=th) h hL hc ht jl;refine ⟨s1,s2,?_⟩;show Aq s _ (x.gst s g lo ((x.acc s lo).res m)) op (LX.inM dm sz mm lo (fun o s'=>if dm then .go (.m4 sz o.node) (mm+s'.made) s'.gone else jf op sz { o with aH:=mm+o.aH } (mm+s'.made) s'.gone) (x.stp th lo z ((x.acc s lo).res m)))/\
   (x.gst s g lo ((x.acc s lo).res m)).tk+(if dm then x.tk else 1+x.tk)<=g.tk+MX.tk (LX.inM dm sz mm lo (fun o s'=>if dm then .go (.m4 sz o.node) (mm+s'.made) s'.gone else jf op sz { o with aH:=mm+o.aH } (mm+s'.made) s'.gone) (x.stp th lo z ((x.acc s lo).res m)))/\
   (x.gst s g lo ((x.acc s lo).res m)).n+(if dm then 0 else x.eff)<=g.n+MX.eff (LX.inM dm sz mm lo (fun o s'=>if dm then .go (.m4 sz o.node) (mm+s'.made) s'.gone else jf op sz { o with aH:=mm+o.aH } (mm+s'.made) s'.gone) (x.stp th lo z ((x.acc s lo).res m)))
  cases aG:x.stp th lo z ((x.acc s lo).res m) with
  | go x' z'=>
   rw [aG] at s3 s4 s5;refine ⟨⟨hk,ha,⟨s3,hs,rfl,hdm,hmn⟩,s3.own,s3.dd⟩,?_,?_⟩
   ·show _<=g.tk+(if dm then x'.tk else 1+x'.tk)
    have s4:(x.gst s g lo ((x.acc s lo).res m)).tk+x.tk<=g.tk+x'.tk:=s4;split <;> omega
   ·show _<=g.n+(if dm then 0 else x'.eff)
    have s5:(x.gst s g lo ((x.acc s lo).res m)).n+x.eff<=g.n+x'.eff:=s5
    cases dm with
    | true=>
     obtain ⟨rfl,-,-⟩:=hdm rfl;have:=s6 (show (65536:Int) % 2=0 by decide)
     simp;omega
    | false=>simpa using s5
  | out o z'=>
   rw [aG] at s3 s4 s5;obtain ⟨a1,a2,a3,a4⟩:=s3;have s4:(x.gst s g lo ((x.acc s lo).res m)).tk+x.tk<=g.tk+1:=s4;have s5:(x.gst s g lo ((x.acc s lo).res m)).n+x.eff<=g.n+isN o.is:=s5;have hi:isN o.is<=1:=by unfold isN;split <;> omega
   cases dm with
   | true=>
    obtain ⟨rfl,dB,vr⟩:=hdm rfl;have s6:=s6 (show (65536:Int) % 2=0 by decide)
    have ho:=a1 rfl;refine ⟨⟨hk,ha,⟨dB,vr,ho.1,ho.2⟩,a3,by simpa [MPh.cH] using a4⟩,?_,?_⟩
    ·show _<=g.tk+1;simpa using s4
    ·show _<=g.n+0;simp;omega
   | false=>
    have:=Ny (m:=(x.acc s lo).mem m) (op:=op) (o:={ o with aH:=mm+o.aH }) (made:=mm+z'.made) hk ha hs a3 a4
    refine ⟨this.1,?_,?_⟩
    ·show _<=g.tk+(jf op sz _ _ _).tk;rw [this.2.2];simp;omega
    ·show _<=g.n+(jf op sz _ _ _).eff;rw [this.2.1];simp;omega
  | stuck=>rw [aG] at s3;exact absurd s3 (by simp [vQ])
 | m4 sz n=>
  obtain ⟨rfl,vr,hn,Jc⟩:=bG;have hd2:g.dd s=gn.map (·.1):=by simpa [MPh.cH] using hd
  have e1:MPh.gst s g (.m4 2 n) (((MPh.m4 2 n).acc s).res m)=g:=rfl;have hG:Gl (((MPh.m4 2 n).acc s).mem m) g/\Env s m g (((MPh.m4 2 n).acc s).mem m) g:=by
   cases hr:(((MPh.m4 2 n).acc s).res m).2 with
   | false=>rw [dg rfl hr];exact ⟨h,Env.refl s m g⟩
   | true=>
    obtain ⟨hm,hw⟩:=eZ (a:=(MPh.m4 2 n).acc s) rfl hr;rw [hw];exact ⟨h.bucket hn Jc,Env.plain (by intro x i e;cases e) (by intro e;cases e)⟩
  rw [e1];refine ⟨hG.1,hG.2,?_⟩;have hn':=(hG.2.isL n hn).1;have qL:=iN hG.2 hn;have h1:=yC (m:=((MPh.m4 2 n).acc s).mem m) (op:=op) (made:=made+1) (sz:=2) hG.1 hk ha (.inr rfl) hn (by rw [qL,Jc];have:=hb.2.2.2 vr;omega) hO hd2
  exact ⟨h1.1,by show g.tk+1<=g.tk+(ku op 2 n (made+1) gn).tk;omega,by show g.n+0<=g.n+(ku op 2 n (made+1) gn).eff;omega⟩
 | m5 sz o=>
  have hd2:g.dd s=gn.map (·.1):=by simpa [MPh.cH] using hd
  rw [rV rfl];refine ⟨h.bP (s:=s) (c:=.mcount) trivial _,Env.bP h (c:=.mcount) trivial _,?_⟩;show Aq s _ g op (if _ then _ else _)/\g.tk+2<=g.tk+MX.tk (if _ then _ else _)/\g.n+1<=g.n+MX.eff (if _ then _ else _)
  split
  ·rename_i hc;refine ⟨⟨hk,ha,?_,hO,hd⟩,az _,az _⟩;show sz=1;have:sz=1\/sz=2:=bG;omega
  ·exact ⟨⟨hO,hd2⟩,az _,az _⟩
 | m6 sz o=>
  have hd2:g.dd s=gn.map (·.1):=by simpa [MPh.cH] using hd
  have nX:sz=1:=bG;subst nX;have e1:MPh.gst s g (.m6 1 o) (((MPh.m6 1 o).acc s).res m)=g:=rfl;have hG:Gl (((MPh.m6 1 o).acc s).mem m) g/\Env s m g (((MPh.m6 1 o).acc s).mem m) g:=by
   cases hr:(((MPh.m6 1 o).acc s).res m).2 with
   | false=>rw [dg rfl hr];exact ⟨h,Env.refl s m g⟩
   | true=>
    obtain ⟨hm,hw⟩:=eZ (a:=(MPh.m6 1 o).acc s) rfl hr;rw [hw];exact ⟨h.size,Env.plain (by intro x i e;cases e) (by intro e;cases e)⟩
  rw [e1];exact ⟨hG.1,hG.2,⟨hO,hd2⟩,az _,az _⟩
 | m7 o=>
  have hd2:g.dd s=gn.map (·.1):=by simpa [MPh.cH] using hd
  rw [rV rfl];exact ⟨h.bP (s:=s) (c:=.mcount) trivial _,Env.bP h (c:=.mcount) trivial _,⟨hO,hd2⟩,az _,az _⟩
end
def EK.cH:EK->List Int
 | .orr n _=>[n]
 | _=>[]
def EK.eff:EK->Nat
 | .oc o | .orr _ o | .od o=>isN o.is
 | _=>0
def EK.tk:EK->Nat
 | .ug _=>1
 | _=>0
def EPh.own:EPh->Int × Int
 | .sub x _=>(x.own,0)
 | .u1 n | .u2 n | .u3 n _ | .u4 n _ | .u5 n | .u6 n _ | .u7 _ n _ _ | .u8 n _ _ | .u9 n _ _=>(n,0)
 | _=>(0,0)
def EPh.cH:EPh->List Int
 | .sub x k=>x.cH++k.cH
 | .o4 n _=>[n]
 | _=>[]
def EPh.eff:EPh->Nat
 | .sub _ k=>k.eff
 | .o4 _ _=>1
 | _=>0
def EPh.tk:EPh->Nat
 | .sub x k=>x.tk+k.tk
 | .u1 _ | .u2 _ | .u3 _ _ | .u4 _ _ | .u5 _ | .u6 _ _ | .u7 _ _ _ _ | .u8 _ _ _ | .u9 _ _ _=>1
 | _=>0
def EX.eff:EX->Nat
 | .go x _=>x.eff
 | .out _=>1
 | .stuck=>0
def EX.tk:EX->Nat
 | .go x _=>x.tk
 | .out _=>2
 | .stuck=>0
def EKOk (x:Sub):EK->Prop
 | .ut=>x.cls= .T
 | .ug _=>x.cls= .V
 | .og=>x.cls= .G .top
 | .oc _=>x.cls= .C
 | .orr _ _=>x.cls= .C
 | .od _=>x.cls= .R
def EOk (s:Nat) (m:Sm) (g:Gh) (a:Int):EPh->Prop
 | .sub x k=>mO s m g x/\EKOk x k
 | .u1 n=>g.st n= .ow s
 | .u2 n | .u3 n _ | .u5 n | .u6 n _ | .u7 _ n _ _ | .u8 n _ _ | .u9 n _ _=>g.st n= .ow s/\m (.nd n 1)=a
 | .u4 n bF=>g.st n= .ow s/\m (.nd n 1)=a/\m (.nd n 0)=idxOf bF
 | .o2 bF=>idxOf bF≠0/\(g.st (idxOf bF)).isS=true
 | .o3 bF below=>idxOf bF≠0/\(g.st (idxOf bF)).isS=true/\below=m (.nd (idxOf bF) 0)
 | .o4 n _=>(g.st n).isS=true
 | .o5 | .o6 _=>True
structure Ee (s:Nat) (m:Sm) (g:Gh) (a:Int) (z:Pz) (x:EPh):Prop where
 ok:EOk s m g a x
 er:z.dO.length=3
 own:eJ g s x.own.1 x.own.2
 dd:g.dd s=z.gone.map (·.1)++x.cH
def vS (s:Nat) (m:Sm) (g:Gh) (a:Int):EX->Prop
 | .go x z=>Ee s m g a z x
 | .out o=>eJ g s 0 0/\g.dd s=o.gone.map (·.1)
 | .stuck=>False
def EPh.gst (s:Nat) (g:Gh):EPh->Int × Bool->Gh
 | .sub x _,r=>x.gst s g r
 | .u4 n _,r=>if r.2 then g.push n else g
 | .o3 _ _,r=>if r.2 then g.pop s else g
 | _,_=>g
section
variable {m m':Sm} {g g':Gh} {s t:Nat} {a:Int} {z:Pz}
theorem Ee.env {x:EPh} (h:Gl m g) (e:Env s m g m' g') (ht:t≠s) (K:Ee t m g a z x):Ee t m' g' a z x:=by
 refine ⟨?_,K.er,K.own.env e ht,(e.ddo t ht).trans K.dd⟩;have bG:=K.ok;clear K;have ow:∀ n,g.st n= .ow t->g'.st n= .ow t/\∀ i,m' (.nd n i)=m (.nd n i):=fun n hn=>e.own n t hn ht
 cases x with
 | sub x k=>exact ⟨mO.env h e ht bG.1,bG.2⟩
 | u1 n=>exact (ow n bG).1
 | u2 n=>exact ⟨(ow n bG.1).1,by rw [(ow n bG.1).2];exact bG.2⟩
 | u3 n w=>exact ⟨(ow n bG.1).1,by rw [(ow n bG.1).2];exact bG.2⟩
 | u4 n w=>exact ⟨(ow n bG.1).1,by rw [(ow n bG.1).2];exact bG.2.1,by rw [(ow n bG.1).2];exact bG.2.2⟩
 | u5 n=>exact ⟨(ow n bG.1).1,by rw [(ow n bG.1).2];exact bG.2⟩
 | u6 n w=>exact ⟨(ow n bG.1).1,by rw [(ow n bG.1).2];exact bG.2⟩
 | u7 j n w p=>exact ⟨(ow n bG.1).1,by rw [(ow n bG.1).2];exact bG.2⟩
 | u8 n w p=>exact ⟨(ow n bG.1).1,by rw [(ow n bG.1).2];exact bG.2⟩
 | u9 n w p=>exact ⟨(ow n bG.1).1,by rw [(ow n bG.1).2];exact bG.2⟩
 | o2 bF=>exact ⟨bG.1,(e.isS _ bG.2).1⟩
 | o3 bF below=>exact ⟨bG.1,(e.isS _ bG.2.1).1,by rw [(e.isS _ bG.2.1).2.1];exact bG.2.2⟩
 | o4 n p=>exact (e.isS _ bG).1
 | o5=>trivial
 | o6 w=>trivial
theorem Km {val aH:Int} {is:Bool} (hz:z.dO.length=3) (hO:eJ g s 0 0) (hd:g.dd s=z.gone.map (·.1)):vS s m g a (zq val is aH z):=by
 have h:=sa (m:=m) (k:=.C) (o0:=0) (p0:=[]) rfl hz hO (by simpa using hd) 0
 unfold zq
 cases hx:dK z 0 with
 | go x z'=>
  rw [hx] at h;obtain ⟨h1,h2,h3,h4,h5⟩:=h;exact ⟨⟨h2,h1⟩,h3,h4,h5⟩
 | ret r z'=>
  rw [hx] at h;obtain ⟨h1,h3,h4,h5⟩:=h;have hr:r= .un:=by
   unfold dK at hx;split at hx <;> simp at hx
   exact hx.1.symm
  rw [hr] at h4;exact ⟨h4,by simpa using h5⟩
 | stuck=>rw [hx] at h;exact h
theorem Ov {n:Int} {o:Out} {f:Pz->EX} (hf:∀ z,f z= .go (.sub (.r1 n) (.od o)) z) (hz:z.dO.length=3) (hO:eJ g s 0 0) (hd:g.dd s=z.gone.map (·.1)++[n]):
  vS s m g a ((dK z 0).mX (.orr n o) fun _ s=>f s)/\((dK z 0).mX (.orr n o) fun _ s=>f s).eff=isN o.is:=by
 have h:=sa (m:=m) (k:=.C) (o0:=0) (p0:=[n]) rfl hz hO hd 0
 cases hx:dK z 0 with
 | go x z'=>
  rw [hx] at h;obtain ⟨h1,h2,h3,h4,h5⟩:=h;exact ⟨⟨⟨h2,h1⟩,h3,h4,h5⟩,rfl⟩
 | ret r z'=>
  rw [hx] at h;obtain ⟨h1,h3,h4,h5⟩:=h;have hr:r= .un:=by
   unfold dK at hx;split at hx <;> simp at hx
   exact hx.1.symm
  rw [hr] at h4;show vS s m g a (f z')/\(f z').eff=_;rw [hf];exact ⟨⟨⟨show n∈g.dd s by rw [h5];simp,rfl⟩,h3,h4,h5⟩,rfl⟩
 | stuck=>rw [hx] at h;exact absurd h (by simp [JF])
theorem EPh.pg (h:Gl m g) {x:EPh} (hx:Ee s m g a z x):nU g (x.acc s a).c:=by
 have bG:=hx.ok;have S:∀ n i,(g.st n).isS=true->0<=i->i < 8->nU g (.nd n i):=fun n i hn h0 h8=>by
  have:=h.rng n (NJ hn);exact ⟨this.1,this.2,h0,h8,fun _=>NJ hn⟩
 cases x with
 | sub x k=>exact Sub.pg h bG.1
 | u1 n=>exact oE h bG zD zD
 | u3 n bF=>exact oE h bG.1 zD zD
 | o2 bF=>exact S _ _ bG.2 zD zD
 | o4 n p=>exact S _ _ bG zD zD
 | _=>trivial
theorem rO (h:Gl m g) {x:LAc} (hk:x.k=3\/x.k=2) (hc:x.c= .slot):Gl (x.mem m) g/\Env s m g (x.mem m) g/\(∀ n i,x.mem m (.nd n i)=m (.nd n i)):=by
 have e1:x.mem m=m\/x.mem m=bZ m .slot x.v:=by
  rcases hk with hk | hk
  ·cases hr:(x.res m).2 with
   | false=>exact .inl (dg hk hr)
   | true=>obtain ⟨_,hw⟩:=eZ hk hr;exact .inr (by rw [hw,hc])
  ·exact .inr (by rw [cW hk,hc])
 rcases e1 with e | e <;> rw [e]
 ·exact ⟨h,Env.refl s m g,fun _ _=>rfl⟩
 ·exact ⟨h.bP (s:=s) (c:=.slot) trivial _,Env.bP h (c:=.slot) trivial _,fun _ _=>rfl⟩
theorem EPh.step (h:Gl m g) {x:EPh} {th:Int} (hx:Ee s m g a z x) (hc:g.fc+1 < 268435456) (ht:g.tk<=37) (jl:((g.dd s).length:Int) < th):
  Gl ((x.acc s a).mem m) (x.gst s g ((x.acc s a).res m))/\Env s m g ((x.acc s a).mem m) (x.gst s g ((x.acc s a).res m))/\
  vS s ((x.acc s a).mem m) (x.gst s g ((x.acc s a).res m)) a (x.stp th a z ((x.acc s a).res m))/\(x.gst s g ((x.acc s a).res m)).tk+x.tk<=g.tk+(x.stp th a z ((x.acc s a).res m)).tk/\
  (x.gst s g ((x.acc s a).res m)).n+x.eff<=g.n+(x.stp th a z ((x.acc s a).res m)).eff:=by
 have bG:=hx.ok;have hz:=hx.er;have hO:=hx.own;have hd:=hx.dd;clear hx
 cases x with
 | sub x k=>
  have hd2:g.dd s=z.gone.map (·.1)++(x.cH++k.cH):=hd;obtain ⟨s1,s2,s3,s4,s5⟩:=Sub.step h (z:=z) (o0:=0) (p0:=k.cH) (th:=th) bG.1 hz hO hd2 hc ht (fun _=>rfl) jl
  refine ⟨s1,s2,?_⟩;show vS s _ (x.gst s g ((x.acc s).res m)) a ((x.stp th z ((x.acc s).res m)).mX k fun t s=>sx t s k)/\(x.gst s g ((x.acc s).res m)).tk+(x.tk+k.tk)<=g.tk+EX.tk ((x.stp th z ((x.acc s).res m)).mX k fun t s=>sx t s k)/\(x.gst s g ((x.acc s).res m)).n+k.eff<=g.n+EX.eff ((x.stp th z ((x.acc s).res m)).mX k fun t s=>sx t s k)
  rw [s5]
  cases aG:x.stp th z ((x.acc s).res m) with
  | go x' z'=>
   rw [aG] at s3 s4;obtain ⟨a1,a2,a3,a4,a5⟩:=s3;have s4:(x.gst s g ((x.acc s).res m)).tk+x.tk<=g.tk+x'.tk:=s4;have qL:EKOk x' k:=by
    have:=bG.2
    cases k <;> exact a1.trans this
   exact ⟨⟨⟨a2,qL⟩,a3,a4,a5⟩,by show _<=g.tk+(x'.tk+k.tk);omega,az _⟩
  | ret r z'=>
   rw [aG] at s3 s4;obtain ⟨a1,a3,a4,a5⟩:=s3;have s4:(x.gst s g ((x.acc s).res m)).tk+x.tk<=g.tk+r.tkn:=s4;have nm:=bG.2;have hi:∀ b:Bool,isN b<=1:=fun b=>by unfold isN;split <;> omega
   cases k with
   | ut=>
    rw [nm] at a1
    cases r with
    | tk n p ok=>
     obtain ⟨rfl,hn⟩:=a1;exact ⟨⟨hn,a3,a4,by simpa [EPh.cH,EK.cH] using a5⟩,by show _<=g.tk+1;exact s4,az _⟩
    | _=>exact absurd a1 (by simp [kV])
   | ug p=>
    have hu:r= .un:=by rw [nm] at a1;cases r <;> simp [kV] at a1;rfl
    subst hu;refine ⟨⟨a4,by simpa [EK.cH] using a5⟩,?_,uO _⟩
    have s4:(x.gst s g ((x.acc s).res m)).tk+x.tk<=g.tk+0:=s4;show _+(x.tk+1)<=g.tk+2;omega
   | og=>
    rw [nm] at a1
    cases r with
    | gd bF p=>
     have s4:(x.gst s g ((x.acc s).res m)).tk+x.tk<=g.tk+0:=s4;have a5:(x.gst s g ((x.acc s).res m)).dd s=z'.gone.map (·.1):=by simpa [EK.cH] using a5
     show vS _ _ _ _ (if _ then _ else _)/\_<=g.tk+EX.tk (if _ then _ else _)/\g.n+0<=g.n+EX.eff (if _ then _ else _)
     split
     ·exact ⟨Km a3 a4 a5,by show _+(x.tk+0)<=_;omega,dZ _ _⟩
     ·rename_i h0;exact ⟨⟨⟨h0,a1.2.resolve_left h0⟩,a3,a4,by simpa [EPh.cH] using a5⟩,by show _+(x.tk+0)<=g.tk+0;omega,az _⟩
    | _=>exact absurd a1 (by simp [kV])
   | oc o=>
    have hu:r= .un:=by rw [nm] at a1;cases r <;> simp [kV] at a1;rfl
    subst hu;have s4:(x.gst s g ((x.acc s).res m)).tk+x.tk<=g.tk+0:=s4;exact ⟨⟨a4,by simpa [EK.cH] using a5⟩,by show _+(x.tk+0)<=g.tk+2;omega,Nat.add_le_add_left (hi _) _⟩
   | orr n o=>
    have hu:r= .un:=by rw [nm] at a1;cases r <;> simp [kV] at a1;rfl
    subst hu;have s4:(x.gst s g ((x.acc s).res m)).tk+x.tk<=g.tk+0:=s4;exact ⟨⟨⟨show n∈(x.gst s g ((x.acc s).res m)).dd s by rw [a5];simp [EK.cH],rfl⟩,a3,a4,by simpa [EPh.cH,EK.cH,Sub.cH] using a5⟩,by show _+(x.tk+0)<=g.tk+(0+0);omega,az _⟩
   | od o=>
    have hu:r= .un:=by rw [nm] at a1;cases r <;> simp [kV] at a1;rfl
    subst hu;have s4:(x.gst s g ((x.acc s).res m)).tk+x.tk<=g.tk+0:=s4;exact ⟨⟨a4,by simpa [EK.cH] using a5⟩,by show _+(x.tk+0)<=g.tk+2;omega,Nat.add_le_add_left (hi _) _⟩
  | stuck=>rw [aG] at s3;exact absurd s3 (by simp [JF])
 | u1 n=>
  rw [cW rfl];exact ⟨h.bP (s:=s) (c:=.nd n 1) bG _,Env.bP h (c:=.nd n 1) bG _,⟨⟨bG,db _ _ _⟩,hz,hO,hd⟩,az _,az _⟩
 | u2 n=>
  rw [bO rfl];exact ⟨h,Env.refl s m g,⟨bG,hz,hO,hd⟩,az _,az _⟩
 | u3 n bF=>
  rw [cW rfl];exact ⟨h.bP (s:=s) (c:=.nd n 0) bG.1 _,Env.bP h (c:=.nd n 0) bG.1 _,⟨⟨bG.1,by show bZ m (.nd n 0) _ (.nd n 1)=a;rw [fO m n 0 _ (.inr zD)];exact bG.2,db _ _ _⟩,hz,hO,hd⟩,az _,az _⟩
 | u4 n bF=>
  have hd2:g.dd s=z.gone.map (·.1):=by simpa [EPh.cH] using hd
  cases hr:(((EPh.u4 n bF).acc s a).res m).2 with
  | false=>
   rw [dg rfl hr];have e1:EPh.gst s g (.u4 n bF) (((EPh.u4 n bF).acc s a).res m)=g:=by simp [EPh.gst,hr]
   have e2:EPh.stp th a z (.u4 n bF) (((EPh.u4 n bF).acc s a).res m)= .go (.u5 n) z.got:=by simp [EPh.stp,hr]
   rw [e1,e2];exact ⟨h,Env.refl s m g,⟨⟨bG.1,bG.2.1⟩,hz,hO,hd⟩,az _,az _⟩
  | true=>
   obtain ⟨hm,hw⟩:=eZ (a:=(EPh.u4 n bF).acc s a) rfl hr;have hm:m .top=bF:=hm;rw [hw];have e1:EPh.gst s g (.u4 n bF) (((EPh.u4 n bF).acc s a).res m)=g.push n:=by simp [EPh.gst,hr]
   have e2:EPh.stp th a z (.u4 n bF) (((EPh.u4 n bF).acc s a).res m)=IP 0 true z.made z.got:=by simp [EPh.stp,hr]
   rw [e1,e2];have g1:=h.push (s:=s) bG.1 (by rw [hm];exact bG.2.2)
   rw [hm] at g1;refine ⟨g1,Env.push bG.1 _,⟨?_,hd2⟩,by show g.tk+1<=g.tk+2;omega,az _⟩
   intro y;have hy:=hO y;show eK g.st n .sk y= .ow s ↔ _
   by_cases e:y=n
   ·rw [e,bH];simp
   ·rw [bJ _ _ e,hy];show _/\(y=n\/y=0) ↔ _;omega
 | u5 n=>
  rw [bO rfl];refine ⟨h,Env.refl s m g,?_⟩;show vS _ _ _ _ (if _ then _ else _)/\g.tk+1<=g.tk+EX.tk (if _ then _ else _)/\g.n+0<=g.n+EX.eff (if _ then _ else _)
  split
  ·exact ⟨⟨bG,hz,hO,hd⟩,az _,az _⟩
  ·exact ⟨⟨bG,hz,hO,hd⟩,az _,az _⟩
 | u6 n w=>
  obtain ⟨g1,g2,g3⟩:=rO (s:=s) h (x:=(EPh.u6 n w).acc s a) (.inl rfl) rfl;refine ⟨g1,g2,?_⟩;show vS s _ g a (if _ then _ else _)/\g.tk+1<=g.tk+EX.tk (if _ then _ else _)/\g.n+0<=g.n+EX.eff (if _ then _ else _)
  have NZ:g.st n= .ow s/\((EPh.u6 n w).acc s a).mem m (.nd n 1)=a:=⟨bG.1,by rw [g3];exact bG.2⟩
  split
  ·exact ⟨⟨NZ,hz,hO,hd⟩,az _,az _⟩
  ·exact ⟨⟨NZ,hz,hO,hd⟩,az _,az _⟩
 | u7 j n w p=>
  rw [bO rfl];refine ⟨h,Env.refl s m g,?_⟩;show vS s _ g a (if _ then _ else if _ then _ else _)/\g.tk+1<=g.tk+EX.tk (if _ then _ else if _ then _ else _)/\g.n+0<=g.n+EX.eff (if _ then _ else if _ then _ else _)
  split
  ·exact ⟨⟨bG,hz,hO,hd⟩,az _,az _⟩
  ·split
   ·exact ⟨⟨bG,hz,hO,hd⟩,az _,az _⟩
   ·exact ⟨⟨bG,hz,hO,hd⟩,az _,az _⟩
 | u8 n w p=>
  obtain ⟨g1,g2,g3⟩:=rO (s:=s) h (x:=(EPh.u8 n w p).acc s a) (.inl rfl) rfl;refine ⟨g1,g2,?_⟩;show vS s _ g a (if _ then _ else _)/\g.tk+1<=g.tk+EX.tk (if _ then _ else _)/\g.n+0<=g.n+EX.eff (if _ then _ else _)
  have NZ:g.st n= .ow s/\((EPh.u8 n w p).acc s a).mem m (.nd n 1)=a:=⟨bG.1,by rw [g3];exact bG.2⟩
  split
  ·exact ⟨⟨NZ,hz,hO,hd⟩,az _,az _⟩
  ·exact ⟨⟨NZ,hz,hO,hd⟩,az _,az _⟩
 | u9 n w p=>
  obtain ⟨g1,g2,g3⟩:=rO (s:=s) h (x:=(EPh.u9 n w p).acc s a) (.inr rfl) rfl;exact ⟨g1,g2,⟨⟨bG.1,rfl⟩,hz,hO,hd⟩,az _,az _⟩
 | o2 bF=>
  rw [bO rfl];exact ⟨h,Env.refl s m g,⟨⟨bG.1,bG.2,fF _ _⟩,hz,hO,hd⟩,az _,az _⟩
 | o3 bF below=>
  have hd2:g.dd s=z.gone.map (·.1):=by simpa [EPh.cH] using hd
  cases hr:(((EPh.o3 bF below).acc s a).res m).2 with
  | false=>
   rw [dg rfl hr];have e1:EPh.gst s g (.o3 bF below) (((EPh.o3 bF below).acc s a).res m)=g:=by simp [EPh.gst,hr]
   have e2:EPh.stp th a z (.o3 bF below) (((EPh.o3 bF below).acc s a).res m)= .go .o5 z.got:=by simp [EPh.stp,hr]
   rw [e1,e2];exact ⟨h,Env.refl s m g,⟨trivial,hz,hO,hd⟩,az _,az _⟩
  | true=>
   obtain ⟨hm,hw⟩:=eZ (a:=(EPh.o3 bF below).acc s a) rfl hr;have hm:m .top=bF:=hm;rw [hw];have e1:EPh.gst s g (.o3 bF below) (((EPh.o3 bF below).acc s a).res m)=g.pop s:=by simp [EPh.gst,hr]
   have e2:EPh.stp th a z (.o3 bF below) (((EPh.o3 bF below).acc s a).res m)= .go (.o4 (idxOf bF) z.made) z.got:=by simp [EPh.stp,hr]
   rw [e1,e2];have hi:=BJ h;rw [hm] at hi;obtain ⟨r,hsk⟩:∃ r,g.sk=idxOf bF :: r:=by
    cases hs:g.sk with
    | nil=>rw [hs] at hi;exact absurd hi bG.1
    | cons y r=>rw [hs] at hi;exact ⟨r,by rw [hi];rfl⟩
   have g1:=h.pop (s:=s) hsk;rw [hm,<- bG.2.2] at g1;have aG:g.st (idxOf bF)= .sk:=(h.smem _).1 (by rw [hsk];simp)
   have eA:(g.pop s).st=eK g.st (idxOf bF) (.dsk s):=by simp [Gh.pop,hsk]
   refine ⟨g1,Env.pop h hsk _,⟨?_,hz,?_,?_⟩,az _,az _⟩
   ·show ((g.pop s).st (idxOf bF)).isS=true;rw [eA,bH];rfl
   ·intro y;have hy:=hO y;show (g.pop s).st y= .ow s ↔ _;rw [eA]
    by_cases e:y=idxOf bF
    ·rw [e,bH];rw [e,aG] at hy;simp;exact fun _=>⟨bG.1,bG.1⟩
    ·rw [bJ _ _ e];exact hy
   ·show (g.pop s).dd s=z.gone.map (·.1)++[idxOf bF];simp [Gh.pop,eV,hd2,hsk]
 | o4 n p=>
  rw [bO rfl];refine ⟨h,Env.refl s m g,?_⟩;have hc:=Ov (m:=m) (a:=a) (z:=z.got) (o:=⟨(((EPh.o4 n p).acc s a).res m).1,true,p,[]⟩) (f:=fun s'=>.go (.sub (.r1 n) (.od ⟨(((EPh.o4 n p).acc s a).res m).1,true,p,[]⟩)) s') (fun _=>rfl) hz hO hd
  exact ⟨hc.1,dZ _ _,Nat.add_le_add_left (Nat.le_of_eq hc.2.symm) _⟩
 | o5=>
  have hd2:g.dd s=z.gone.map (·.1):=by simpa [EPh.cH] using hd
  rw [bO rfl];refine ⟨h,Env.refl s m g,?_⟩;show vS s _ g a (if _ then _ else _)/\g.tk+0<=g.tk+EX.tk (if _ then _ else _)/\g.n+0<=g.n+EX.eff (if _ then _ else _)
  split
  ·exact ⟨⟨⟨⟨zD,trivial⟩,rfl⟩,hz,hO,hd⟩,az _,az _⟩
  ·exact ⟨⟨trivial,hz,hO,hd⟩,az _,az _⟩
 | o6 w=>
  have hd2:g.dd s=z.gone.map (·.1):=by simpa [EPh.cH] using hd
  obtain ⟨g1,g2,g3⟩:=rO (s:=s) h (x:=(EPh.o6 w).acc s a) (.inl rfl) rfl;refine ⟨g1,g2,?_⟩;show vS s _ g a (if _ then _ else _)/\g.tk+0<=g.tk+EX.tk (if _ then _ else _)/\g.n+0<=g.n+EX.eff (if _ then _ else _)
  split
  ·exact ⟨Km hz hO hd2,dZ _ _,dZ _ _⟩
  ·exact ⟨⟨⟨⟨zD,trivial⟩,rfl⟩,hz,hO,hd⟩,az _,az _⟩
end
def CK.own:CK->Int
 | .sg bP=>bP
 | _=>0
def CK.eff:CK->Nat
 | .sv _=>1
 | .oc o=>isN o.is
 | _=>0
def mtk (n:Int):Nat:=if n≠0 then 1 else 0
def CK.tk:CK->Nat
 | .sg bP=>mtk bP
 | .sv _ | .oc _=>1
 | _=>0
def CPh.own:CPh->Int × Int
 | .sub x k=>(x.own,k.own)
 | .s2 n _ _ | .s3 n _ _ | .s4 n _ | .s5 n _ _ | .fl n _ _ | .s6 n _=>(n,0)
 | _=>(0,0)
def CPh.cH:CPh->List Int
 | .sub x _=>x.cH
 | _=>[]
def CPh.eff:CPh->Nat
 | .sub _ k=>k.eff
 | .s7 _ _ _=>1
 | _=>0
def CPh.tk:CPh->Nat
 | .sub x k=>x.tk+k.tk
 | .s2 n _ _ | .s3 n _ _ | .s4 n _ | .s5 n _ _=>mtk n
 | .fl _ _ _ | .s6 _ _ | .s7 _ _ _=>1
 | _=>0
def CX.eff:CX->Nat
 | .go x _=>x.eff
 | .out _=>1
 | .stuck=>0
def CX.tk:CX->Nat
 | .go x _=>x.tk
 | .out _=>2
 | .stuck=>0
def mW (m:Sm) (a n:Int):Prop:=n≠0->m (.nd n 0)=0/\m (.nd n 1)=a+2/\∀ i,2<=i->i<=5->m (.nd n i)=0
def nW (m:Sm) (x j:Int):Prop:=∀ i,1<=i->i<=j->m (.nd x i)≠0
def qu (m:Sm) (x j:Int):Prop:=∀ i,1<=i->i<=j->m (.nd x i)=1
def CKOk (m:Sm) (g:Gh) (a:Int) (x:Sub):CK->Prop
 | .sg bP=>x.cls= .G .tail/\mW m a bP
 | .st bF=>x.cls= .T/\g.st (idxOf bF)= .sg/\nW m (idxOf bF) 5
 | .sv _=>x.cls= .V
 | .rg=>x.cls= .G .head
 | .oc _=>x.cls= .C
def COk (s:Nat) (m:Sm) (g:Gh) (a:Int):CPh->Prop
 | .sub x k=>mO s m g x/\CKOk m g a x k
 | .s2 n bF i=>mW m a n/\g.st (idxOf bF)= .sg/\i < 5/\nW m (idxOf bF) i
 | .s3 n bF i=>mW m a n/\g.st (idxOf bF)= .sg/\i < 5/\nW m (idxOf bF) i
 | .s4 n bF=>mW m a n/\g.st (idxOf bF)= .sg/\nW m (idxOf bF) 5
 | .s5 n bF nx=>mW m a n/\g.st nx= .sg/\g.st (idxOf bF)= .sg/\m (.nd (idxOf bF) 0)=nx
 | .fl n bF j=>g.st n= .ow s/\g.st (idxOf bF)= .sg/\nW m (idxOf bF) 5/\j<=5/\(0 < j->m (.nd n 0)=0)/\(1 < j->m (.nd n 1)=a+2)/\∀ i:Int,2<=i->i < j->m (.nd n i)=0
 | .s6 n bF=>g.st n= .ow s/\mW m a n/\g.st (idxOf bF)= .sg/\nW m (idxOf bF) 5
 | .s7 n _ _=>g.st n= .sg
 | .r2 bF i=>g.st (idxOf bF)= .sg/\i < 5/\qu m (idxOf bF) i
 | .r3 bF i has=>g.st (idxOf bF)= .sg/\i < 5/\qu m (idxOf bF) i/\has≠0/\has≠1/\(m (.nd (idxOf bF) (1+i))=has\/m (.nd (idxOf bF) (1+i))=1)
 | .r4 bF=>g.st (idxOf bF)= .sg/\qu m (idxOf bF) 5
structure Ef (s:Nat) (m:Sm) (g:Gh) (a:Int) (z:Pz) (x:CPh):Prop where
 av:0<=a/\a < 4294967296
 ok:COk s m g a x
 er:z.dO.length=3
 own:eJ g s x.own.1 x.own.2
 dd:g.dd s=z.gone.map (·.1)++x.cH
def Au (s:Nat) (m:Sm) (g:Gh) (a:Int):CX->Prop
 | .go x z=>Ef s m g a z x
 | .out o=>eJ g s 0 0/\g.dd s=o.gone.map (·.1)
 | .stuck=>False
def CPh.gst (s:Nat) (g:Gh):CPh->Int × Bool->Gh
 | .sub x _,r=>x.gst s g r
 | .s3 _ _ _,r=>if r.2 then g.eff else g
 | .s6 n _,r=>if r.2 then g.app n else g
 | .r3 _ _ _,r=>if r.2 then g.eff else g
 | _,_=>g
section
variable {m m':Sm} {g g':Gh} {s t:Nat} {a:Int} {z:Pz}
theorem nW.env (e:Env s m g m' g') {x j:Int} (hx:g.st x= .sg) (hj:j<=5) (h:nW m x j):nW m' x j:=
 fun i h1 h2=>by
  have:=(e.isC x hx).2.2 i h1 zO (h i h1 h2);have:=h i h1 h2;omega
theorem qu.env (e:Env s m g m' g') {x j:Int} (hx:g.st x= .sg) (hj:j<=5) (h:qu m x j):qu m' x j:=
 fun i h1 h2=>by
  have h3:=h i h1 h2;have:=(e.isC x hx).2.2 i h1 zO zO;omega
theorem mW.same {n:Int} (hs:n≠0->∀ i,m' (.nd n i)=m (.nd n i)) (h:mW m a n):mW m' a n:=fun hn=>by
 have e:=hs hn;obtain ⟨h1,h2,h3⟩:=h hn;exact ⟨by rw [e];exact h1,by rw [e];exact h2,fun i i1 i2=>by rw [e];exact h3 i i1 i2⟩
theorem Ef.env {x:CPh} (h:Gl m g) (e:Env s m g m' g') (ht:t≠s) (K:Ef t m g a z x):Ef t m' g' a z x:=by
 refine ⟨K.av,?_,K.er,K.own.env e ht,(e.ddo t ht).trans K.dd⟩;have bG:=K.ok;have hO:=K.own;clear K;have ow:∀ n,g.st n= .ow t->g'.st n= .ow t/\∀ i,m' (.nd n i)=m (.nd n i):=fun n hn=>e.own n t hn ht
 have mn:∀ n,(n≠0->g.st n= .ow t)->mW m a n->mW m' a n:=fun n hn hm=>hm.same fun h0=>(ow n (hn h0)).2
 cases x with
 | sub x k=>
  refine ⟨mO.env h e ht bG.1,?_⟩;have h2:=bG.2
  cases k with
  | sg bP=>exact ⟨h2.1,mn bP (fun h0=>(hO bP).2 ⟨h0,.inr rfl⟩) h2.2⟩
  | st bF=>exact ⟨h2.1,(e.isC _ h2.2.1).1,h2.2.2.env e h2.2.1 zD⟩
  | _=>exact h2
 | s2 n bF i=>exact ⟨mn n (fun h0=>(hO n).2 ⟨h0,.inl rfl⟩) bG.1,(e.isC _ bG.2.1).1,bG.2.2.1,bG.2.2.2.env e bG.2.1 (by have:=bG.2.2.1;omega)⟩
 | s3 n bF i=>exact ⟨mn n (fun h0=>(hO n).2 ⟨h0,.inl rfl⟩) bG.1,(e.isC _ bG.2.1).1,bG.2.2.1,bG.2.2.2.env e bG.2.1 (by have:=bG.2.2.1;omega)⟩
 | s4 n bF=>exact ⟨mn n (fun h0=>(hO n).2 ⟨h0,.inl rfl⟩) bG.1,(e.isC _ bG.2.1).1,bG.2.2.env e bG.2.1 zD⟩
 | s5 n bF nx=>exact ⟨mn n (fun h0=>(hO n).2 ⟨h0,.inl rfl⟩) bG.1,(e.isC _ bG.2.1).1,(e.isC _ bG.2.2.1).1,by
  have hr:=h.rng nx (by rw [bG.2.1];simp)
  rw [(e.isC _ bG.2.2.1).2.1 (by rw [bG.2.2.2];omega)];exact bG.2.2.2⟩
 | fl n bF j=>
  obtain ⟨h1,h2,h3,h4,h5,h6,h7⟩:=bG;have e2:=(ow n h1).2;exact ⟨(ow n h1).1,(e.isC _ h2).1,h3.env e h2 zD,h4,fun h=>by rw [e2];exact h5 h,fun h=>by rw [e2];exact h6 h,fun i a b=>by rw [e2];exact h7 i a b⟩
 | s6 n bF=>exact ⟨(ow n bG.1).1,mn n (fun _=>bG.1) bG.2.1,(e.isC _ bG.2.2.1).1,bG.2.2.2.env e bG.2.2.1 zD⟩
 | s7 n bF p=>exact (e.isC _ bG).1
 | r2 bF i=>exact ⟨(e.isC _ bG.1).1,bG.2.1,bG.2.2.env e bG.1 (by have:=bG.2.1;omega)⟩
 | r3 bF i has=>exact ⟨(e.isC _ bG.1).1,bG.2.1,bG.2.2.1.env e bG.1 (by have:=bG.2.1;omega),bG.2.2.2.1,bG.2.2.2.2.1,by
  have h1:=bG.2.2.2;have:=(e.isC _ bG.1).2.2 (1+i) zO (by have:=bG.2.1;omega) zO
  omega⟩
 | r4 bF=>exact ⟨(e.isC _ bG.1).1,bG.2.env e bG.1 zD⟩
theorem sd {val aH:Int} {is:Bool} (ha:0<=a/\a < 4294967296) (hz:z.dO.length=3) (hO:eJ g s 0 0) (hd:g.dd s=z.gone.map (·.1)):Au s m g a (lN val is aH z):=by
 have h:=sa (m:=m) (k:=.C) (o0:=0) (p0:=[]) rfl hz hO (by simpa using hd) 0
 unfold lN
 cases hx:dK z 0 with
 | go x z'=>
  rw [hx] at h;obtain ⟨h1,h2,h3,h4,h5⟩:=h;exact ⟨ha,⟨h2,h1⟩,h3,h4,by simpa [CPh.cH] using h5⟩
 | ret r z'=>
  rw [hx] at h;obtain ⟨h1,h3,h4,h5⟩:=h;have hr:r= .un:=by
   unfold dK at hx;split at hx <;> simp at hx
   exact hx.1.symm
  rw [hr] at h4;exact ⟨h4,by simpa using h5⟩
 | stuck=>rw [hx] at h;exact h
theorem uA (val aH:Int) (is:Bool) (z:Pz):isN is<=(lN val is aH z).eff/\1<=(lN val is aH z).tk:=by
 unfold lN
 cases hx:dK z 0 with
 | go x z'=>exact ⟨az _,fu _ _⟩
 | ret r z'=>exact ⟨by show isN is<=1;unfold isN;split <;> omega,by show 1<=2;omega⟩
 | stuck=>unfold dK at hx;split at hx <;> simp at hx
theorem tH (n:Int):mtk n<=1:=by unfold mtk;split <;> omega
theorem C3 {n bF:Int} {i:Nat} (ha:0<=a/\a < 4294967296) (hz:z.dO.length=3) (hO:eJ g s n 0) (hd:g.dd s=z.gone.map (·.1)) (h1:mW m a n) (h2:g.st (idxOf bF)= .sg) (h3:i < 5) (h4:nW m (idxOf bF) i) (h5:m (.nd (idxOf bF) (1+i))≠0):
  Au s m g a (mY n bF i z)/\(mY n bF i z).tk=mtk n/\(mY n bF i z).eff=0:=by
 unfold mY;have hf:nW m (idxOf bF) ((i+1:Nat):Int):=fun j j1 j2=>by
  by_cases e:j=1+i
  ·rw [e];exact h5
  ·exact h4 j j1 zO
 split
 ·rename_i hi;exact ⟨⟨ha,⟨h1,h2,zO,hf⟩,hz,hO,by simpa [CPh.cH] using hd⟩,rfl,rfl⟩
 ·rename_i hi;exact ⟨⟨ha,⟨h1,h2,fun j j1 j2=>hf j j1 zO⟩,hz,hO,by simpa [CPh.cH] using hd⟩,rfl,rfl⟩
theorem C4 {bF:Int} {i:Nat} (ha:0<=a/\a < 4294967296) (hz:z.dO.length=3) (hO:eJ g s 0 0) (hd:g.dd s=z.gone.map (·.1)) (h2:g.st (idxOf bF)= .sg) (h3:i < 5) (h4:qu m (idxOf bF) i) (h5:m (.nd (idxOf bF) (1+i))=1):
  Au s m g a (mZ bF i z)/\(mZ bF i z).tk=0/\(mZ bF i z).eff=0:=by
 unfold mZ;have hf:qu m (idxOf bF) ((i+1:Nat):Int):=fun j j1 j2=>by
  by_cases e:j=1+i
  ·rw [e];exact h5
  ·exact h4 j j1 zO
 split
 ·rename_i hi;exact ⟨⟨ha,⟨h2,zO,hf⟩,hz,hO,by simpa [CPh.cH] using hd⟩,rfl,rfl⟩
 ·rename_i hi;exact ⟨⟨ha,⟨h2,fun j j1 j2=>hf j j1 zO⟩,hz,hO,by simpa [CPh.cH] using hd⟩,rfl,rfl⟩
theorem uZ {x y:Int}:∀ {l:List Int},l.Nodup->x∈l->y∈l->x≠y->oK m x+oK m y<=gH m l
 | [],_,h,_,_=>by simp at h
 | b :: r,hd,hx,hy,dF=>by
  have qE:=fy.1 hd;have one:∀ {l:List Int} {w:Int},w∈l->oK m w<=gH m l:=by
   intro l
   induction l with
   | nil=>intro w h;simp at h
   | cons c t ih=>
    intro w hw;unfold gH at *;rw [List.map_cons,List.sum_cons];rcases bD.1 hw with rfl | hw
    ·omega
    ·have:=ih hw;omega
  have hs:gH m (b :: r)=oK m b+gH m r:=by unfold gH;rw [List.map_cons,List.sum_cons]
  rw [hs];rcases bD.1 hx with rfl | AW <;> rcases bD.1 hy with rfl | I6
  ·exact absurd rfl dF
  ·have:=one (l:=r) I6;omega
  ·have:=one (l:=r) AW;omega
  ·have:=uZ qE.2 AW I6 dF;omega
theorem zt {f:Int->Int}:∀ {l:List Int},Chn f l->l.Nodup->(∀ y∈l,y≠0)->∀ x∈l,f x≠x
 | [],_,_,_,x,h=>by simp at h
 | [b],hc,_,h0,x,h=>by
  simp at h;subst h;intro e;have:f x=0:=hc;exact h0 x zS (e.symm.trans this)
 | b :: c :: r,hc,hd,h0,x,h=>by
  have qE:=fy.1 hd;rcases bD.1 h with rfl | h
  ·intro e;rw [hc.1] at e;exact qE.1 (by rw [e];simp)
  ·exact zt (l:=c :: r) hc.2 qE.2 (fun y hy=>h0 y (jk _ hy)) x h
theorem Bn (h:Gl m g) {x:Int} (hx:g.st x= .sg) (hn:m (.nd x 0)≠0):m (.nd x 0)∈g.sg/\m (.nd x 0)≠2/\m (.nd x 0)≠x:=by
 have hxm:=(h.cmem x).2 hx;obtain ⟨r,hr⟩:=h.c2;have mK:=h.cch;have gu:=h.cnd;have h0:∀ y∈g.sg,y≠0:=fun y hy e=>by have:=Bm h hy;omega
 refine ⟨?_,?_,zt mK gu h0 x hxm⟩ <;> (rw [hr] at mK hxm gu;rcases uB mK hxm with e | e)
 ·exact absurd e hn
 ·rw [hr];exact jk _ e
 ·exact absurd e hn
 ·intro e2;have e:m (.nd x 0)∈r:=e;rw [e2] at e;exact (fy.1 gu).1 e
theorem no_more (h:Gl m g) (hn:g.n<=9) {x:Int} (hx:g.st x= .sg) (hg:qu m x 5):m (.nd x 0)=0:=by
 refine Aw fun h0=>?_
 obtain ⟨h1,h2,h3⟩:=Bn h hx h0;have h4:=h.cfst _ h1 h2;have h5:=uZ (m:=m) h.cnd ((h.cmem x).2 hx) h1 (fun e=>h3 e.symm)
 have h6:oK m x=10:=by
  unfold oK nzP rcP;rw [hg 1 zD zD,hg 2 zD zD,hg 3 zD zD,hg 4 zD zD,hg 5 zD zD]
  decide
 have h7:1<=oK m (m (.nd x 0)):=by
  unfold oK nzP;rw [if_pos h4];omega
 have:=h.tM;omega
theorem CPh.pg (h:Gl m g) {x:CPh} (hx:Ef s m g a z x):nU g (x.acc s a).c:=by
 have bG:=hx.ok;have C:∀ n i,g.st n= .sg->0<=i->i < 8->nU g (.nd n i):=fun n i hn h0 h8=>by
  have:=h.rng n (by rw [hn];simp)
  exact ⟨this.1,this.2,h0,h8,fun _=>by rw [hn];simp⟩
 cases x with
 | sub x k=>exact Sub.pg h bG.1
 | s2 n bF i=>exact C _ _ bG.2.1 zO (by have:=bG.2.2.1;omega)
 | s3 n bF i=>exact C _ _ bG.2.1 zO (by have:=bG.2.2.1;omega)
 | s4 n bF=>exact C _ _ bG.2.1 zD zD
 | fl n bF j=>exact oE h bG.1 zO (by have:=bG.2.2.2.1;omega)
 | s6 n bF=>exact C _ _ bG.2.2.1 zD zD
 | r2 bF i=>exact C _ _ bG.1 zO (by have:=bG.2.1;omega)
 | r3 bF i has=>exact C _ _ bG.1 zO (by have:=bG.2.1;omega)
 | r4 bF=>exact C _ _ bG.1 zD zD
 | _=>trivial
theorem Ax (h:Gl m g) {x:LAc} (hk:x.k=3) (hc:x.c= .tail) {n w:Int} (hv:x.v=ed w n) (hn:g.st n= .sg):Gl (x.mem m) g/\Env s m g (x.mem m) g/\(∀ n i,x.mem m (.nd n i)=m (.nd n i)):=by
 cases hr:(x.res m).2 with
 | false=>rw [dg hk hr];exact ⟨h,Env.refl s m g,fun _ _=>rfl⟩
 | true=>
  obtain ⟨_,hw⟩:=eZ hk hr;rw [hw,hc,hv];exact ⟨h.tail ((h.cmem n).2 hn),Env.plain (by intro x i e;cases e) (by intro e;cases e),fun _ _=>rfl⟩
theorem CPh.step (h:Gl m g) {x:CPh} {th:Int} (hx:Ef s m g a z x) (hc:g.fc+1 < 268435456) (ht:g.tk<=37) (hn9:g.n<=9) (jl:((g.dd s).length:Int) < th):
  Gl ((x.acc s a).mem m) (x.gst s g ((x.acc s a).res m))/\Env s m g ((x.acc s a).mem m) (x.gst s g ((x.acc s a).res m))/\
  Au s ((x.acc s a).mem m) (x.gst s g ((x.acc s a).res m)) a (x.stp th a z ((x.acc s a).res m))/\(x.gst s g ((x.acc s a).res m)).tk+x.tk<=g.tk+(x.stp th a z ((x.acc s a).res m)).tk/\
  (x.gst s g ((x.acc s a).res m)).n+x.eff<=g.n+(x.stp th a z ((x.acc s a).res m)).eff:=by
 have ha:=hx.av;have bG:=hx.ok;have hz:=hx.er;have hO:=hx.own;have hd:=hx.dd;clear hx
 cases x with
 | sub x k=>
  have jm:k.own≠0->∃ c,x.cls= .G c:=by
   intro hv;have h2:=bG.2
   cases k with
   | sg bP=>exact ⟨_,h2.1⟩
   | _=>exact absurd rfl hv
  have hV:x.cls= .V->k.own=0:=by
   intro hv;refine Aw fun dF=>?_
   obtain ⟨c,e⟩:=jm dF;rw [hv] at e;cases e
  have hd2:g.dd s=z.gone.map (·.1)++(x.cH++[]):=by simpa [CPh.cH] using hd
  obtain ⟨s1,s2,s3,s4,s5⟩:=Sub.step h (z:=z) (o0:=k.own) (p0:=[]) (th:=th) bG.1 hz hO hd2 hc ht hV jl;have qL:∀ x':Sub,x'.cls=x.cls->CKOk ((x.acc s).mem m) (x.gst s g ((x.acc s).res m)) a x' k:=by
   intro x' AW;have h2:=bG.2
   cases k with
   | sg bP=>exact ⟨AW.trans h2.1,h2.2.same fun h0 i=>Ms (.inl (jm h0)) _ _⟩
   | st bF=>exact ⟨AW.trans h2.1,(s2.isC _ h2.2.1).1,h2.2.2.env s2 h2.2.1 zD⟩
   | sv p=>exact AW.trans h2
   | rg=>exact AW.trans h2
   | oc o=>exact AW.trans h2
  refine ⟨s1,s2,?_⟩;show Au s _ (x.gst s g ((x.acc s).res m)) a ((x.stp th z ((x.acc s).res m)).qS k fun t s=>sy t s k)/\(x.gst s g ((x.acc s).res m)).tk+(x.tk+k.tk)<=g.tk+CX.tk ((x.stp th z ((x.acc s).res m)).qS k fun t s=>sy t s k)/\(x.gst s g ((x.acc s).res m)).n+k.eff<=g.n+CX.eff ((x.stp th z ((x.acc s).res m)).qS k fun t s=>sy t s k)
  rw [s5]
  cases aG:x.stp th z ((x.acc s).res m) with
  | go x' z'=>
   rw [aG] at s3 s4;obtain ⟨a1,a2,a3,a4,a5⟩:=s3;have s4:(x.gst s g ((x.acc s).res m)).tk+x.tk<=g.tk+x'.tk:=s4;exact ⟨⟨ha,⟨a2,qL x' a1⟩,a3,a4,by simpa [CPh.cH] using a5⟩,by show _<=g.tk+(x'.tk+k.tk);omega,az _⟩
  | ret r z'=>
   rw [aG] at s3 s4;obtain ⟨a1,a3,a4,a5⟩:=s3;have s4:(x.gst s g ((x.acc s).res m)).tk+x.tk<=g.tk+r.tkn:=s4;have nm:=qL x rfl;have a5:(x.gst s g ((x.acc s).res m)).dd s=z'.gone.map (·.1):=by simpa using a5
   cases k with
   | sg bP=>
    rw [nm.1] at a1
    cases r with
    | gd bF p=>
     have s4:(x.gst s g ((x.acc s).res m)).tk+x.tk<=g.tk+0:=s4;refine ⟨⟨ha,⟨nm.2,a1.2,zD,fun i h1 h2=>by omega⟩,a3,a4.swap,by simpa [CPh.cH] using a5⟩,?_,az _⟩
     show _+(x.tk+mtk bP)<=g.tk+mtk bP;omega
    | _=>exact absurd a1 (by simp [kV])
   | st bF=>
    rw [nm.1] at a1
    cases r with
    | tk n p ok=>
     obtain ⟨rfl,hn⟩:=a1;refine ⟨⟨ha,⟨hn,nm.2.1,nm.2.2,zD,fun h=>absurd h zD,fun h=>absurd h zD,fun i h1 h2=>by omega⟩,a3,a4,by simpa [CPh.cH] using a5⟩,by show _<=g.tk+1;exact s4,az _⟩
    | _=>exact absurd a1 (by simp [kV])
   | sv p=>
    have hu:r= .un:=by rw [show x.cls= .V from nm] at a1;cases r <;> simp [kV] at a1;rfl
    subst hu;have s4:(x.gst s g ((x.acc s).res m)).tk+x.tk<=g.tk+0:=s4;have h1:=uA 0 p true z';refine ⟨sd ha a3 a4 a5,?_,Nat.add_le_add_left h1.1 _⟩;show _+(x.tk+1)<=g.tk+(lN 0 true p z').tk;omega
   | rg=>
    rw [show x.cls= .G .head from nm] at a1
    cases r with
    | gd bF p=>
     have s4:(x.gst s g ((x.acc s).res m)).tk+x.tk<=g.tk+0:=s4;refine ⟨⟨ha,⟨a1.2,zD,fun i h1 h2=>by omega⟩,a3,a4,by simpa [CPh.cH] using a5⟩,?_,az _⟩
     show _+(x.tk+0)<=g.tk+0;omega
    | _=>exact absurd a1 (by simp [kV])
   | oc o=>
    have hu:r= .un:=by rw [show x.cls= .C from nm] at a1;cases r <;> simp [kV] at a1;rfl
    subst hu;have s4:(x.gst s g ((x.acc s).res m)).tk+x.tk<=g.tk+0:=s4;exact ⟨⟨a4,a5⟩,by show _+(x.tk+1)<=g.tk+2;omega,Nat.add_le_add_left (by show isN o.is<=1;unfold isN;split <;> omega) _⟩
  | stuck=>rw [aG] at s3;exact absurd s3 (by simp [JF])
 | s2 n bF i=>
  have hd2:g.dd s=z.gone.map (·.1):=by simpa [CPh.cH] using hd
  rw [bO rfl];refine ⟨h,Env.refl s m g,?_⟩;have hv:(((CPh.s2 n bF i).acc s a).res m).1=m (.nd (idxOf bF) (1+i)):=fF _ _;show Au s _ g a (if _ then _ else _)/\g.tk+mtk n<=g.tk+CX.tk (if _ then _ else _)/\g.n+0<=g.n+CX.eff (if _ then _ else _)
  rw [hv];split
  ·exact ⟨⟨ha,bG,hz,hO,hd⟩,az _,az _⟩
  ·rename_i h0;have h1:=C3 (n:=n) (z:=z.got) ha hz hO hd2 bG.1 bG.2.1 bG.2.2.1 bG.2.2.2 h0;exact ⟨h1.1,zO,zO⟩
 | s3 n bF i=>
  have hd2:g.dd s=z.gone.map (·.1):=by simpa [CPh.cH] using hd
  have hi:=bG.2.2.1
  cases hr:(((CPh.s3 n bF i).acc s a).res m).2 with
  | false=>
   rw [dg rfl hr];have e1:CPh.gst s g (.s3 n bF i) (((CPh.s3 n bF i).acc s a).res m)=g:=by simp [CPh.gst,hr]
   have e2:CPh.stp th a z (.s3 n bF i) (((CPh.s3 n bF i).acc s a).res m)=mY n bF i z.got:=by simp [CPh.stp,hr]
   rw [e1,e2];have h0:m (.nd (idxOf bF) (1+i))≠0:=by
    intro e;simp [LAc.res,CPh.acc,e] at hr
   have h1:=C3 (n:=n) (z:=z.got) ha hz hO hd2 bG.1 bG.2.1 bG.2.2.1 bG.2.2.2 h0;exact ⟨h,Env.refl s m g,h1.1,by show g.tk+mtk n<=_;omega,by show g.n+0<=_;omega⟩
  | true=>
   obtain ⟨hm,hw⟩:=eZ (a:=(CPh.s3 n bF i).acc s a) rfl hr;have hm:m (.nd (idxOf bF) (1+i))=0:=hm;rw [hw];have e1:CPh.gst s g (.s3 n bF i) (((CPh.s3 n bF i).acc s a).res m)=g.eff:=by simp [CPh.gst,hr]
   have e2:CPh.stp th a z (.s3 n bF i) (((CPh.s3 n bF i).acc s a).res m)=if n≠0 then .go (.sub (.v1 n) (.sv z.made)) z.got else lN 0 true z.made z.got:=by simp [CPh.stp,hr]
   rw [e1,e2];have g1:=h.place (v:=a+2) (n:=idxOf bF) (i:=1+i) bG.2.1 zO zO zO (.inr ⟨hm,zO⟩);have g2:Env s m g (bZ m (.nd (idxOf bF) (1+i)) (a+2)) g.eff:=Env.place bG.2.1 zO zO (fun e=>absurd hm e)
   refine ⟨g1,g2,?_⟩;have hmt:=tH n;split
   ·rename_i h0;refine ⟨⟨ha,⟨(hO n).2 ⟨h0,.inl rfl⟩,rfl⟩,hz,hO,hd⟩,?_,az _⟩;show g.tk+mtk n<=g.tk+(0+1);omega
   ·rename_i h0;have h0:n=0:=by simpa using h0
    have h1:=uA 0 z.made true z.got;subst h0;refine ⟨sd ha hz hO hd2,?_,Nat.add_le_add_left h1.1 _⟩;show g.tk+mtk 0<=g.tk+(lN 0 true z.made z.got).tk;omega
 | s4 n bF=>
  have hd2:g.dd s=z.gone.map (·.1):=by simpa [CPh.cH] using hd
  rw [bO rfl];refine ⟨h,Env.refl s m g,?_⟩;have hv:(((CPh.s4 n bF).acc s a).res m).1=m (.nd (idxOf bF) 0):=fF _ _;show Au s _ g a (if _ then _ else if _ then _ else _)/\g.tk+mtk n<=g.tk+CX.tk (if _ then _ else if _ then _ else _)/\g.n+0<=g.n+CX.eff (if _ then _ else if _ then _ else _)
  rw [hv];split
  ·rename_i h0;exact ⟨⟨ha,⟨bG.1,(h.cmem _).1 (Bn h bG.2.1 h0).1,bG.2.1,rfl⟩,hz,hO,hd⟩,az _,az _⟩
  ·split
   ·rename_i h0;subst h0;refine ⟨⟨ha,⟨trivial,rfl,bG.2⟩,hz,hO,hd⟩,?_,az _⟩;show g.tk+mtk 0<=_;exact dZ _ _
   ·rename_i h0;refine ⟨⟨ha,⟨(hO n).2 ⟨h0,.inl rfl⟩,bG⟩,hz,hO,hd⟩,?_,az _⟩;have:=tH n;show g.tk+mtk n<=g.tk+1;omega
 | s5 n bF nx=>
  have hd2:g.dd s=z.gone.map (·.1):=by simpa [CPh.cH] using hd
  obtain ⟨g1,g2,g3⟩:=Ax (s:=s) h (x:=(CPh.s5 n bF nx).acc s a) rfl rfl rfl bG.2.1;refine ⟨g1,g2,⟨ha,⟨⟨zD,trivial⟩,rfl,bG.1.same fun _ i=>g3 n i⟩,hz,hO.swap,hd⟩,?_,az _⟩
  show g.tk+mtk n<=g.tk+(0+mtk n);omega
 | fl n bF j=>
  obtain ⟨h1,h2,h3,h4,h5,h6,h7⟩:=bG;rw [cW rfl];have g1:=h.bP (s:=s) (c:=.nd n j) h1 (if j=1 then a+2 else 0)
  have g2:Env s m g (bZ m (.nd n j) (if j=1 then a+2 else 0)) g:=Env.bP h (c:=.nd n j) h1 _
  refine ⟨g1,g2,?_⟩;show Au s _ g a (if _ then _ else _)/\g.tk+1<=g.tk+CX.tk (if _ then _ else _)/\g.n+0<=g.n+CX.eff (if _ then _ else _)
  have f0:bZ m (.nd n j) (if j=1 then a+2 else 0) (.nd n 0)=0:=by
   by_cases e:j=0
   ·subst e;exact db _ _ _
   ·rw [fO m n j _ (.inr zO)];exact h5 zO
  have f1:1<=j->bZ m (.nd n j) (if j=1 then a+2 else 0) (.nd n 1)=a+2:=by
   intro hj
   by_cases e:j=1
   ·subst e;exact db _ _ _
   ·rw [fO m n j _ (.inr zO)];exact h6 zO
  have f2:∀ i,2<=i->i < (j:Int)+1->bZ m (.nd n j) (if j=1 then a+2 else 0) (.nd n i)=0:=by
   intro i i2 ij
   by_cases e:i=j
   ·rw [e,db,if_neg zO]
   ·rw [fO m n j _ (.inr e)];exact h7 i i2 zO
  split
  ·rename_i hj;exact ⟨⟨ha,⟨h1,(g2.isC _ h2).1,h3.env g2 h2 zD,zO,fun _=>f0,fun hh=>f1 zO,fun i i2 ij=>f2 i i2 zO⟩,hz,hO,hd⟩,az _,az _⟩
  ·rename_i hj;exact ⟨⟨ha,⟨h1,fun _=>⟨f0,f1 zO,fun i i2 ij=>f2 i i2 zO⟩,(g2.isC _ h2).1,h3.env g2 h2 zD⟩,hz,hO,hd⟩,az _,az _⟩
 | s6 n bF=>
  have hd2:g.dd s=z.gone.map (·.1):=by simpa [CPh.cH] using hd
  obtain ⟨hn,hmine,hw2,hful⟩:=bG;have vt:n≠0:=by have:=h.rng n (by rw [hn];simp);omega
  cases hr:(((CPh.s6 n bF).acc s a).res m).2 with
  | false=>
   rw [dg rfl hr];have e1:CPh.gst s g (.s6 n bF) (((CPh.s6 n bF).acc s a).res m)=g:=by simp [CPh.gst,hr]
   have e2:CPh.stp th a z (.s6 n bF) (((CPh.s6 n bF).acc s a).res m)=qW n z.got:=by simp [CPh.stp,hr]
   rw [e1,e2];refine ⟨h,Env.refl s m g,⟨ha,⟨⟨zD,trivial⟩,rfl,hmine⟩,hz,hO.swap,hd⟩,?_,az _⟩;show g.tk+1<=g.tk+(0+mtk n);unfold mtk;rw [if_pos vt];omega
  | true=>
   obtain ⟨hm,hw⟩:=eZ (a:=(CPh.s6 n bF).acc s a) rfl hr;have hm:m (.nd (idxOf bF) 0)=0:=hm;rw [hw];have e1:CPh.gst s g (.s6 n bF) (((CPh.s6 n bF).acc s a).res m)=g.app n:=by simp [CPh.gst,hr]
   have e2:CPh.stp th a z (.s6 n bF) (((CPh.s6 n bF).acc s a).res m)= .go (.s7 n bF z.made) z.got:=by simp [CPh.stp,hr]
   rw [e1,e2];obtain ⟨m0,m1,m2⟩:=hmine vt;have g1:=h.app (s:=s) hw2 hm (fun i i1 i5=>hful i i1 i5) hn m0 m1 zO m2
   have g2:Env s m g (bZ m (.nd (idxOf bF) 0) n) (g.app n):=Env.app hw2 hm hn;refine ⟨g1,g2,⟨ha,?_,hz,?_,hd⟩,az _,az _⟩
   ·show eK g.st n .sg n= .sg;exact bH _ _ _
   ·intro y;have hy:=hO y;show eK g.st n .sg y= .ow s ↔ y≠0/\(y=0\/y=0)
    by_cases e:y=n
    ·rw [e,bH];simp
    ·rw [bJ _ _ e,hy];show _/\(y=n\/y=0) ↔ _;omega
 | s7 n bF p=>
  have hd2:g.dd s=z.gone.map (·.1):=by simpa [CPh.cH] using hd
  obtain ⟨g1,g2,g3⟩:=Ax (s:=s) h (x:=(CPh.s7 n bF p).acc s a) rfl rfl rfl bG;have h1:=uA 0 p true z.got;refine ⟨g1,g2,sd ha hz hO hd2,?_,Nat.add_le_add_left h1.1 _⟩;show g.tk+1<=g.tk+(lN 0 true p z.got).tk;omega
 | r2 bF i=>
  have hd2:g.dd s=z.gone.map (·.1):=by simpa [CPh.cH] using hd
  rw [bO rfl];refine ⟨h,Env.refl s m g,?_⟩;have hv:(((CPh.r2 bF i).acc s a).res m).1=m (.nd (idxOf bF) (1+i)):=fF _ _;show Au s _ g a (if _ then _ else if _ then _ else _)/\g.tk+0<=g.tk+CX.tk (if _ then _ else if _ then _ else _)/\g.n+0<=g.n+CX.eff (if _ then _ else if _ then _ else _)
  rw [hv];split
  ·exact ⟨sd ha hz hO hd2,dZ _ _,dZ _ _⟩
  ·split
   ·rename_i h0 h1;have h1:=C4 (z:=z.got) ha hz hO hd2 bG.1 bG.2.1 bG.2.2 h1;exact ⟨h1.1,dZ _ _,dZ _ _⟩
   ·rename_i h0 h1;exact ⟨⟨ha,⟨bG.1,bG.2.1,bG.2.2,h0,h1,.inl rfl⟩,hz,hO,hd⟩,az _,az _⟩
 | r3 bF i has=>
  have hd2:g.dd s=z.gone.map (·.1):=by simpa [CPh.cH] using hd
  have hi:=bG.2.1
  cases hr:(((CPh.r3 bF i has).acc s a).res m).2 with
  | false=>
   rw [dg rfl hr];have e1:CPh.gst s g (.r3 bF i has) (((CPh.r3 bF i has).acc s a).res m)=g:=by simp [CPh.gst,hr]
   have e2:CPh.stp th a z (.r3 bF i has) (((CPh.r3 bF i has).acc s a).res m)=mZ bF i z.got:=by simp [CPh.stp,hr]
   rw [e1,e2];have h0:m (.nd (idxOf bF) (1+i))=1:=by
    refine bG.2.2.2.2.2.resolve_left fun e=>?_
    simp [LAc.res,CPh.acc,e] at hr
   have h1:=C4 (z:=z.got) ha hz hO hd2 bG.1 bG.2.1 bG.2.2.1 h0;exact ⟨h,Env.refl s m g,h1.1,dZ _ _,dZ _ _⟩
  | true=>
   obtain ⟨hm,hw⟩:=eZ (a:=(CPh.r3 bF i has).acc s a) rfl hr;have hm:m (.nd (idxOf bF) (1+i))=has:=hm;rw [hw];have e1:CPh.gst s g (.r3 bF i has) (((CPh.r3 bF i has).acc s a).res m)=g.eff:=by simp [CPh.gst,hr]
   have e2:CPh.stp th a z (.r3 bF i has) (((CPh.r3 bF i has).acc s a).res m)=lN (has - 2) true z.made z.got:=by simp [CPh.stp,hr]
   rw [e1,e2];have g1:=h.place (v:=1) (n:=idxOf bF) (i:=1+i) bG.1 zO zO zO (.inl ⟨by rw [hm];exact bG.2.2.2.2.1,rfl,by rw [hm];exact bG.2.2.2.1⟩)
   have g2:Env s m g (bZ m (.nd (idxOf bF) (1+i)) 1) g.eff:=Env.place bG.1 zO zO (fun _=>rfl)
   have h1:=uA (has - 2) z.made true z.got;exact ⟨g1,g2,sd ha hz hO hd2,dZ _ _,Nat.add_le_add_left h1.1 _⟩
 | r4 bF=>
  have hd2:g.dd s=z.gone.map (·.1):=by simpa [CPh.cH] using hd
  rw [bO rfl];refine ⟨h,Env.refl s m g,?_⟩;have hv:(((CPh.r4 bF).acc s a).res m).1=m (.nd (idxOf bF) 0):=fF _ _;have e2:CPh.stp th a z (.r4 bF) (((CPh.r4 bF).acc s a).res m)=lN 0 false z.made z.got:=by
   show (if _ then _ else _)=_
   rw [hv];exact if_pos (no_more h hn9 bG.1 bG.2)
  rw [e2];exact ⟨sd ha hz hO hd2,dZ _ _,dZ _ _⟩
end
def rk (m:Sm) (g:Gh) (c:Int):Nat:=if c=0 then 0 else (xF 41).countP fun (n:Nat)=>(g.st (n:Int)).isL&&decide (cX m c<=cX m (n:Int))
def ee (m:Sm) (z:Pz):Sub->Nat
 | .g1 i _=>if z.dO.getD i 0=m .era then 2 else 5
 | .g2 i _ _=>if z.dO.getD i 0=m .era then 1 else 4
 | .g3 _ _ e=>if e=m .era then 3 else 6
 | .t1=>5
 | .t2 fr=>if m .free=fr then 4 else 7
 | .t3 fr _=>if m .free=fr then 3 else 6
 | .t4 _ _=>2
 | .t5 _ _ _=>1
 | .v1 _=>3
 | .v2 _ fr=>if m .free=fr then 2 else 5
 | .v3 _ fr=>if m .free=fr then 1 else 4
 | .cl i=>3 - i
 | .r1 _=>2
 | .r2 _ _=>1
def SX.rho (m:Sm):SX->Nat
 | .go x z=>ee m z x
 | _=>0
def Sub.now (m:Sm):Sub->Bool
 | .g2 _ c v=>m c==v
 | _=>true
section
variable {m m':Sm} {g g':Gh} {s t:Nat} {z:Pz}
theorem AG (m:Sm) (g:Gh) (c:Int):rk m g c<=41:=by
 unfold rk;split
 ·omega
 ·exact aQ List.countP_le_length zS
theorem rk_zero (m:Sm) (g:Gh):rk m g 0=0:=by simp [rk]
theorem A8 {α:Type} {P Q:α->Bool} {x:α}:∀ {l:List α},(∀ y∈l,Q y=true->P y=true)->x∈l->P x=true->Q x=false->l.countP Q+1<=l.countP P
 | [],_,h,_,_=>by simp at h
 | a :: r,h,hx,h1,h2=>by
  rw [List.countP_cons,List.countP_cons];have hle:r.countP Q<=r.countP P:=List.countP_mono_left fun y hy=>h y (jk _ hy)
  rcases bD.1 hx with rfl | hx
  ·rw [h1,h2];simp;exact hle
  ·have:=A8 (fun y hy=>h y (jk _ hy)) hx h1 h2
   have ha:=h a zS
   cases hq:Q a
   ·simp;omega
   ·rw [ha hq];simp;omega
theorem Bp (h:Gl m g) {c d:Int} (hc:(g.st c).isL=true) (hd:d=0\/(g.st d).isL=true/\cX m c < cX m d):rk m g d+1<=rk m g c:=by
 have hr:=jY h hc;have kY:c.toNat∈xF 41:=List.mem_range.2 zO;have Dy:((c.toNat:Nat):Int)=c:=zO;unfold rk;rw [if_neg (show c≠0 by omega)]
 have hP:((g.st ((c.toNat:Nat):Int)).isL&&decide (cX m c<=cX m ((c.toNat:Nat):Int)))=true:=by rw [Dy];simp [hc]
 split
 ·have:=(List.countP_pos_iff (p:=fun (n:Nat)=>(g.st (n:Int)).isL&&decide (cX m c<=cX m (n:Int)))).2 ⟨_,kY,hP⟩
  omega
 ·rename_i h0;have hd:=hd.resolve_left h0;refine A8 (x:=c.toNat) ?_ kY hP ?_
  ·intro y _ hy;simp only [dq,decide_eq_true_eq] at hy ⊢;exact ⟨hy.1,zO⟩
  ·rw [Dy];simp;intro _;omega
theorem rk_pos (h:Gl m g) {c:Int} (hc:(g.st c).isL=true):1<=rk m g c:=by
 have:=Bp h hc (.inl rfl);rw [rk_zero] at this;omega
structure rH (m:Sm) (g:Gh) (m':Sm) (g':Gh):Prop where
 st:∀ n,(g'.st n).isL=(g.st n).isL
 key:∀ n,(g.st n).isL=true->cX m' n=cX m n
theorem rH.rk (h:rH m g m' g') {c:Int} (hc:c=0\/(g.st c).isL=true):rk m' g' c=rk m g c:=by
 unfold Go.Proofs.YtikdaeddbkopeaaGreatR.rk;split
 ·rfl
 ·rename_i h0;have hc:=hc.resolve_left h0;refine List.countP_congr fun n _=>?_
  rw [h.st,h.key c hc]
  cases hn:(g.st (n:Int)).isL
  ·simp
  ·rw [h.key _ hn]
theorem rH.refl (m:Sm) (g:Gh):rH m g m g:=⟨fun _=>rfl,fun _ _=>rfl⟩
theorem rH.Nb (e:Env s m g m' g') (h:∀ n,(g'.st n).isL=true->(g.st n).isL=true):rH m g m' g':=by
 refine ⟨fun n=>?_,fun n hn=>iN e hn⟩
 cases hn:(g.st n).isL
 ·cases hn':(g'.st n).isL
  ·rfl
  ·rw [h n hn'] at hn;cases hn
 ·exact (e.isL n hn).1
theorem C5 {e:List Int}:∀ {f i j:Nat},sU e f i=some j->i<=j/\j < i+f
 | 0,_,_,h=>by cases h
 | f+1,i,j,h=>by
  unfold sU at h;split at h
  ·injection h with h;omega
  ·have:=C5 h;omega
theorem pB (m:Sm) (z:Pz) (i:Nat) (hi:i<=3):(dK z i).rho m<=3 - i:=by
 unfold dK
 cases hj:sU z.dO (3 - i) i with
 | none=>exact aY _
 | some j=>
  have:=C5 hj;show 3 - j<=3 - i;omega
theorem Sub.dec (h:Gl m g) {x:Sub} {th:Int} (hx:mO s m g x) (hz:z.dO.length=3):(x.stp th z ((x.acc s).res m)).rho ((x.acc s).mem m)+1<=ee m z x:=by
 cases x with
 | g1 i c=>rw [bO rfl];show (if z.dO.getD i 0=m .era then 1 else 4)+1<=if z.dO.getD i 0=m .era then 2 else 5;split <;> omega
 | g2 i c v=>
  rw [bO rfl];have hv:(((Sub.g2 i c v).acc s).res m).1=m .era:=fF _ _;show SX.rho m (if _ then _ else _)+1<=if z.dO.getD i 0=m .era then 1 else 4
  rw [hv]
  by_cases e:m .era=z.dO.getD i 0
  ·rw [if_pos e,if_pos e.symm];exact az _
  ·rw [if_neg e,if_neg (fun h=>e h.symm)]
   show (if m .era=m .era then 3 else 6)+1<=4
   rw [if_pos rfl];exact az _
 | g3 i c e=>
  rw [cW rfl];show (if (z.dO.set i e).getD i 0=m .era then 2 else 5)+1<=if e=m .era then 3 else 6
  have:(z.dO.set i e).getD i 0=e:=by
   have:=hx.1;simp [List.getD,List.getElem?_set,hz,this]
  rw [this];split <;> omega
 | t1=>
  rw [bO rfl];have hv:((Sub.t1.acc s).res m).1=m .free:=fF _ _;show SX.rho m (if _ then _ else _)+1<=5
  rw [hv];split
  ·show 0+1<=5;omega
  ·show (if m .free=m .free then 4 else 7)+1<=5
   rw [if_pos rfl];exact az _
 | t2 fr=>rw [bO rfl];show (if m .free=fr then 3 else 6)+1<=if m .free=fr then 4 else 7;split <;> omega
 | t3 fr lk=>
  by_cases e:m .free=fr
  ·have hr:((Sub.t3 fr lk).acc s |>.res m).2=true:=by simp [LAc.res,Sub.acc,e]
   have e2:Sub.stp th z (.t3 fr lk) (((Sub.t3 fr lk).acc s).res m)= .go (.t4 (idxOf fr) z.made) z.got:=by simp [Sub.stp,hr]
   rw [e2];show 2+1<=if m .free=fr then 3 else 6
   rw [if_pos e];exact az _
  ·have hr:((Sub.t3 fr lk).acc s |>.res m).2=false:=by simp [LAc.res,Sub.acc,e]
   have e2:Sub.stp th z (.t3 fr lk) (((Sub.t3 fr lk).acc s).res m)= .go .t1 z.got:=by simp [Sub.stp,hr]
   rw [e2];show 5+1<=if m .free=fr then 3 else 6
   rw [if_neg e];exact az _
 | t4 n p=>exact az _
 | t5 n b p=>exact az _
 | v1 n=>
  rw [bO rfl];have hv:(((Sub.v1 n).acc s).res m).1=m .free:=fF _ _;show (if m .free=(((Sub.v1 n).acc s).res m).1 then 2 else 5)+1<=3
  rw [hv,if_pos rfl];exact az _
 | v2 n fr=>
  rw [cW rfl];show (if m .free=fr then 1 else 4)+1<=if m .free=fr then 2 else 5
  split <;> omega
 | v3 n fr=>
  by_cases e:m .free=fr
  ·have hr:((Sub.v3 n fr).acc s |>.res m).2=true:=by simp [LAc.res,Sub.acc,e]
   have e2:Sub.stp th z (.v3 n fr) (((Sub.v3 n fr).acc s).res m)= .ret .un z.got:=by simp [Sub.stp,hr]
   rw [e2];show 0+1<=if m .free=fr then 1 else 4
   rw [if_pos e];exact az _
  ·have hr:((Sub.v3 n fr).acc s |>.res m).2=false:=by simp [LAc.res,Sub.acc,e]
   have e2:Sub.stp th z (.v3 n fr) (((Sub.v3 n fr).acc s).res m)= .go (.v1 n) z.got:=by simp [Sub.stp,hr]
   rw [e2];show 3+1<=if m .free=fr then 1 else 4
   rw [if_neg e];exact az _
 | cl i=>
  have hi:i < 3:=hx;have:=pB ((Sub.cl i).acc s |>.mem m) { z.got with dO:=z.dO.set i 0 } (i+1) zO
  show (dK { z.got with dO:=z.dO.set i 0 } (i+1)).rho _+1<=3 - i
  omega
 | r1 n=>exact az _
 | r2 n e=>
  show SX.rho _ (if _ then _ else _)+1<=1
  split <;> exact az _
end
end Go.Proofs.YtikdaeddbkopeaaGreatR
