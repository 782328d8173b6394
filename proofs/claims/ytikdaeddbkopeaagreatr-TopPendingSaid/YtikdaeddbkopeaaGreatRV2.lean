/- A part of the proof. -/
import Derived.Test.YtikdaeddbkopeaaGreatRV1
set_option linter.unusedVariables false
set_option linter.unusedSimpArgs false
set_option maxRecDepth 100000
set_option maxHeartbeats 16000000
open Go.Proofs.Tryz
open And renaming intro → al
open Bool renaming false → X, true → O, and_eq_true → bN
open Classical renaming byContradiction → db
open List renaming getElem?_eq_some_iff → aC, getElem?_eq_getElem → aD, mem_cons → aL, mem_of_getElem? → aU, setIfInBounds_toArray → ak, getElem_cons_zero → an, getElem_cons_succ → ar, getElem_toArray → au, set_cons_zero → ay, set_cons_succ → az, mem_singleton → bH, mem_cons_of_mem → cM, nodup_cons → cS, mem_append → cy, range → eF, mem_range → lK, pairwise_cons → nQ, map_cons → s8
open Nat renaming le_trans → aF, zero_le → aN, le_refl → aq, le_add_right → dT, succ_le_succ → eJ, le_add_left → eK, zero_add → ea, le_succ → oU
open Option renaming some → J
open Or renaming inl → jI
open True renaming intro → bd
namespace Go.Proofs.YtikdaeddbkopeaaGreatR
section
variable {c:Loc} {p:Pl} {l:List Int}
section
variable {m m':Sm} {g:Gh} {s:Nat}
def rel(g:Gh):Loc->Prop
 | .free | .msize | .bucket _ | .top | .head | .tail=>True
 | .nd n i=>(0<=i/\i<=5/\((g.st n).isL=O\/(g.st n).isS=O\/g.st n= .sg))\/(i=7/\g.st n= .fr)
 | _=>False
theorem AN(h:p= .li):p.isL=O:=by rw[h];rfl
theorem vK(h:p= .sk):p.isS=O:=by rw[h];rfl
theorem nZ:∀ {l:List Int},(∀n∈l,m' (.nd n 1)=m (.nd n 1))->oa m' l=oa m l:=by
 intro l h;unfold oa;exact List.countP_congr λn a=>by unfold bT;rw[h n a]
theorem rp:∀ {l:List Int},(∀n∈l,m' (.nd n 0)=m (.nd n 0))->ny m' l=ny m l:=by
 intro l h;unfold ny;exact List.countP_congr λn a=>by rw[h n a]
theorem rb{n:Int}(h:∀i,1<=i->i<=5->m' (.nd n i)=m (.nd n i)):mV m' n=mV m n:=by
 unfold mV nzP rcP;rw[h 1 M M,h 2 M M,h 3 M M,h 4 M M,h 5 M M]
theorem kz(h:∀n∈l,∀i,1<=i->i<=5->m' (.nd n i)=m (.nd n i)):fJ m' l=fJ m l:=by
 unfold fJ;rw[List.map_congr_left λn a=>rb (h n a)]
theorem Ch(h:∀n∈l,m' (.nd n 1)=m (.nd n 1))(d:l.Pairwise λa b=>bT m a<bT m b):l.Pairwise λa b=>bT m' a<bT m' b:=
 d.imp_of_mem λ{a b} c e f=>by unfold bT at *;rw[h a c,h b e];exact f
theorem Gl.congr(h:Gl m g)(e:∀x,rel g x->m' x=m x):Gl m' g:=by
 have k:∀n i,(g.st n).isL=O->0<=i->i<=5->m' (.nd n i)=m (.nd n i):=λn i a c f=>e _ (jI ⟨c,f,jI a⟩);have w:∀n i,(g.st n).isS=O->0<=i->i<=5->m' (.nd n i)=m (.nd n i):=λn i a c f=>e _ (jI ⟨c,f,Or.inr (jI a)⟩);have l:∀n i,g.st n= .sg->0<=i->i<=5->m' (.nd n i)=m (.nd n i):=λn i a c f=>e _ (jI ⟨c,f,Or.inr (Or.inr a)⟩);have E:∀n,g.st n= .fr->m' (.nd n 7)=m (.nd n 7):=λn a=>e _ (Or.inr ⟨Z,a⟩);have b:∀n,(g.st n).isL=O->bT m' n=bT m n:=λn a=>k n 1 a M M;have u:∀n∈g.ls,(g.st n).isL=O:=λn a=>AN ((h.iu n).1 a);have D:(g.st 1).isL=O:=by obtain⟨r,F⟩:=h.lhd;exact u 1 (by rw[F];simp)
 have o:∀n∈g.sg,g.st n= .sg:=λn a=>(h.cmem n).1 a;refine
 { rng:=h.rng,fw:=?_,fch:=?_,fmem:=h.fmem,fnd:=h.fnd,ftk:=h.ftk,fcb:=h.fcb,lhd:=h.lhd,sa:=?_,iu:=h.iu,iX:=?_,lwrd:=?_,lded:=?_,lmrk:=?_,lkey:=?_,l1:=?_,b0:=?_,b1:=?_,msz:=?_,tpw:=?_,sch:=?_,smem:=h.smem,snd:=h.snd,snx:=?_,chd:=?_,c2:=h.c2,qS:=?_,cch:=?_,cmem:=h.cmem,cnd:=h.cnd,cfst:=?_,cful:=?_,cval:=?_,dmem:=h.dmem,dnd:=h.dnd,dlen:=h.dlen,cnt:=?_ }
 ·rw[e .free trivial];exact h.fw
 ·exact h.fch.congr λn a=>E n ((h.fmem n).1 a).2.2
 ·exact h.sa.congr λn a=>by show idxOf _=idxOf _;rw[k n 0 (u n a) M M]
 ·exact Ch (λn a=>b n (u n a)) h.iX
 ·intro n a;obtain⟨x,c,q,A,B⟩:=h.lwrd n a;rw[k n 0 a M M];refine⟨x,c,q,A,B.imp_right λ⟨z,G⟩=>⟨z,?_⟩⟩;rw[b n a,b x z];exact G
 ·intro n s a;rw[k n 0 (by rw[a];rfl) M M];exact h.lded n s a
 ·intro n a y;rw[k n 0 a M M]at y;rw[b n a];exact h.lmrk n a y
 ·intro n a;rw[b n a];exact h.lkey n a
 ·rw[b 1 D];exact h.l1
 ·rw[e (.bucket 0) trivial];exact h.b0
 ·rw[e (.bucket 1) trivial];exact h.b1.imp_right λ⟨d,q,j,C⟩=>⟨d,q,by rw[b d q];exact j,C⟩
 ·rw[e .msize trivial];exact h.msz
 ·rw[e .top trivial];exact h.tpw
 ·exact h.sch.congr λn a=>w n 0 (vK ((h.smem n).1 a)) M M
 ·intro n a;rw[w n 0 a M M];exact h.snx n a
 ·rw[e .head trivial];exact h.chd
 ·rw[e .tail trivial];exact h.qS
 ·exact h.cch.congr λn a=>l n 0 (o n a) M M
 ·intro n a j;rw[l n 1 (o n a) M M];exact h.cfst n a j
 ·intro n a j i v t;rw[l n 0 (o n a) M M]at j;rw[l n i (o n a) M t];exact h.cful n a j i v t
 ·intro n a i v t;rw[l n i (o n a) M t];exact h.cval n a i v t
 rw[nZ λn a=>b n (u n a),rp λn a=>k n 0 (u n a) M M,kz λn a i q f=>l n i (o n a) M f];exact h.cnt
def bq(s:Nat)(g:Gh):Loc->Prop
 | .nd n i=>g.st n= .ow s
 | .era | .resv _ _ | .mcount | .slot=>True
 | _=>False
theorem Nf{x:Loc}(h:bq s g c)(a:rel g x):x≠c:=by
 rintro rfl;cases x with
 | nd n i=>
  simp only[bq]at h;simp only[rel,h,Pl.isL,Pl.isS]at a;simp at a
 | _=>first|exact h | exact a
theorem Gl.bq(h:Gl m g)(b:bq s g c)(v:Int):Gl (bz m c v) g:=
 h.congr λx a=>eV m v (Nf b a)
theorem Env.refl(s:Nat)(m:Sm)(g:Gh):Env s m g m g:=
 ⟨λn h=>⟨h,Z,Z⟩,λ_ _ _=>Z,λn h=>⟨h,Z,Z⟩,λn h=>⟨h,λ_=>Z,λi _ _=>λ_=>.inl Z⟩,λn t h _=>⟨h,λ_=>Z⟩,λ_ _ h _=>h,aq _,oU _,λ_=>⟨Z,Z,λ_ _=>Z⟩,λ_ _=>Z⟩
theorem Env.bq(f:Gl m g)(e:bq s g c)(v:Int):Env s m g (bz m c v) g:=by
 have a:∀n i,g.st n≠ .ow s->bz m c v (.nd n i)=m (.nd n i):=by
  intro n i d;refine eV m v ?_;rintro rfl;exact d e
 have j:bz m c v .free=m .free:=eV m v (by rintro rfl;exact e);refine⟨λn h=>⟨h,a n 1 ?_,a n 2 ?_⟩,λn h _=>a n 0 ?_,λn h=>⟨h,a n 0 ?_,a n 1 ?_⟩,λn h=>⟨h,λ_=>a n 0 ?_,λi _ _=>?_⟩,λn t h k=>⟨h,λi=>a n i ?_⟩,λ_ _ h _=>h,aq _,oU _,λ_=>⟨j,rfl,λn d=>?_⟩,λ_ _=>rfl⟩;all_goals try (intro b;rw[b]at h;simp[Pl.isL,Pl.isS]at h;done)
 ·rw[a n i (by rw[h];simp)];exact λ_=>.inl Z
 ·intro b;rw[b]at h;injection h with h;exact k h.symm
 exact a n 7 (by rw[((f.fmem n).1 d).2.2];simp)
end
end
section
variable {n v x:Int} {r:List Int} {g':Gh} {c:Loc} {p:Pl}
section
variable {m m':Sm} {g:Gh} {s:Nat}
def Gh.take(g:Gh)(s:Nat):Gh:={ g with fl:=g.fl.tail,fc:=g.fc+1,st:=dO g.st (g.fl.headD 0) (.ow s),tk:=g.tk+1 }
def Gh.oh(g:Gh)(n:Int):Gh:={ g with fl:=n :: g.fl,fc:=g.fc+1,st:=dO g.st n .fr }
def Gh.push(g:Gh)(n:Int):Gh:={ g with sk:=n :: g.sk,st:=dO g.st n .sk,n:=g.n+1 }
def Gh.pop(g:Gh)(s:Nat):Gh:={ g with sk:=g.sk.tail,st:=dO g.st (g.sk.headD 0) (.dsk s),dd:=fD g.dd s (g.dd s++[g.sk.headD 0]),ds:=g.ds+1,n:=g.n+1 }
theorem pZ(h:Gl m g):0<=g.fl.headD 0/\g.fl.headD 0<=40:=by
 cases a:g.fl with
 | nil=>simp
 | cons x r=>have:=(h.fmem x).1 (by rw[a];simp);simp;omega
theorem I6{w:Int}{c:Nat}{i:Int}(a:w=dL i X c)(e:c+1<268435456)(d:0<=x)(b:x<=40):dC w x=dL x X ((c+1:Nat):Int):=by
 unfold dC;rw[a,xG _ _ _ M M];congr 1
 ·omega
 omega
theorem Ah(w:Int)(b:0<=x)(a:x<=40):∃c,dC w x=dL x X c:=⟨_,by unfold dC;rw[show x%65536=x by omega]⟩
theorem Gl.take(h:Gl m g)(j:g.fl=x :: r)(v:g.fc+1<268435456):Gl (bz m .free (dC (m .free) (m (.nd x 7)))) (g.take s):=by
 have l:=(h.fmem x).1 (by rw[j];simp);have A:=h.fch;rw[j]at A;have D:m (.nd x 7)=r.headD 0:=A.head;have w:=h.fnd;rw[j]at w;have I:x∉r:=(cS.1 w).1;have u:0<=r.headD 0/\r.headD 0<=40:=by
  cases u:r with
  | nil=>simp
  | cons y t=>have:=(h.fmem y).1 (by rw[j,u];simp);simp;omega
 have i:(g.take s).st=dO g.st x (.ow s):=by simp[Gh.take,j]
 have o:(g.take s).fl=r:=by simp[Gh.take,j]
 have q:∀n,(dO g.st x (.ow s) n).isL=(g.st n).isL:=by
  intro n;by_cases f:n=x
  ·rw[f,bn,l.2.2];rfl
  rw[br _ _ f]
 have C:∀n,(dO g.st x (.ow s) n).isS=(g.st n).isS:=by
  intro n;by_cases f:n=x
  ·rw[f,bn,l.2.2];rfl
  rw[br _ _ f]
 have k:∀n p,p≠ .fr->p≠ .ow s->((dO g.st x (.ow s) n=p) ↔ g.st n=p):=by
  intro n p z G;by_cases f:n=x
  ·rw[f,bn,l.2.2];exact⟨λe=>absurd e.symm G,λe=>absurd e.symm z⟩
  rw[br _ _ f]
 have J:∀c,c≠ .free->bz m .free (dC (m .free) (m (.nd x 7))) c=m c:=λc v=>eV m _ v;have base:Gl m { g with st:=dO g.st x (.ow s) } ->True:=λ_=>trivial;refine
 { rng:=?_,fw:=?_,fch:=?_,fmem:=?_,fnd:=?_,ftk:=?_,fcb:=?_,lhd:=h.lhd,sa:=h.sa,iu:=?_,iX:=h.iX,lwrd:=?_,lded:=?_,lmrk:=?_,lkey:=?_,l1:=h.l1,b0:=h.b0,b1:=?_,msz:=h.msz,tpw:=h.tpw,sch:=h.sch,smem:=?_,snd:=h.snd,snx:=?_,chd:=h.chd,c2:=h.c2,qS:=h.qS,cch:=h.cch,cmem:=?_,cnd:=h.cnd,cfst:=h.cfst,cful:=h.cful,cval:=h.cval,dmem:=?_,dnd:=h.dnd,dlen:=h.dlen,cnt:=h.cnt }
 ·intro n f;rw[i]at f;by_cases e:n=x
  ·rw[e];exact⟨l.1,l.2.1⟩
  rw[br _ _ e]at f;exact h.rng n f
 ·rw[bU,o,D];exact I6 h.fw v u.1 u.2
 ·rw[o];exact A.tail
 ·intro n;rw[o,i];by_cases e:n=x
  ·rw[e,bn];exact⟨λB=>absurd B I,λB=>by simp at B⟩
  rw[br _ _ e,<- h.fmem n,j];simp[e]
 ·rw[o];exact(cS.1 w).2
 ·rw[o];have:=h.ftk;rw[j]at this;simp[Gh.take]at this ⊢;omega
 ·exact v
 ·intro n;rw[i,k n .li zS zS];exact h.iu n
 ·intro n f;rw[i,q]at f;obtain⟨y,H,z,E,F⟩:=h.lwrd n f;exact⟨y,H,z,E,F.imp_right λ⟨a,b⟩=>⟨by rw[i,q];exact a,b⟩⟩
 ·intro n t f;rw[i,k n _ zS zS]at f;exact h.lded n t f
 ·intro n f;rw[i,q]at f;exact h.lmrk n f
 ·intro n f;rw[i,q]at f;exact h.lkey n f
 ·exact h.b1.imp_right λ⟨d,a,b⟩=>⟨d,by rw[i,q];exact a,b⟩
 ·intro n;rw[i,k n .sk zS zS];exact h.smem n
 ·intro n f;rw[i,C]at f;exact(h.snx n f).imp_right λa=>by rw[i,C];exact a
 ·intro n;rw[i,k n .sg zS zS];exact h.cmem n
 intro t n;rw[i,k n _ zS zS,k n _ zS zS];exact h.dmem t n
theorem Env.take(h:Gl m g)(d:g.fl=x :: r)(v:Int):Env s m g (bz m .free v) (g.take s):=by
 have c:=(h.fmem x).1 (by rw[d];simp);have b:(g.take s).st=dO g.st x (.ow s):=by simp[Gh.take,d]
 refine⟨λn a=>⟨?_,Z,Z⟩,λn a _=>Z,λn a=>⟨?_,Z,Z⟩,λn a=>⟨?_,λ_=>Z,λi _ _=>λ_=>.inl Z⟩,λn t a f=>⟨?_,λi=>Z⟩,λn t a f=>?_,by simp[Gh.take],by simp[Gh.take],λe=>?_,λ_ _=>Z⟩
 ·rw[b,br _ _ (by rintro rfl;rw[c.2.2]at a;cases a)];exact a
 ·rw[b,br _ _ (by rintro rfl;rw[c.2.2]at a;cases a)];exact a
 ·rw[b,br _ _ (by rintro rfl;rw[c.2.2]at a;cases a)];exact a
 ·rw[b,br _ _ (by rintro rfl;rw[c.2.2]at a;cases a)];exact a
 ·rw[b]at a;by_cases e:n=x
  ·rw[e,bn]at a;injection a with a;exact absurd a.symm f
  rw[br _ _ e]at a;exact a
 simp[Gh.take]at e
theorem Gl.oh(h:Gl m g)(j:g.st n= .ow s)(u:g.fc+1<268435456)(z:m (.nd n 7)=idxOf (m .free)):Gl (bz m .free (dC (m .free) n)) (g.oh n):=by
 have q:=h.rng n (by rw[j];simp);have hd:=pZ h;have hi:idxOf (m .free)=g.fl.headD 0:=by rw[h.fw];exact gw _ _ _ hd.1 M
 have C:n∉g.fl:=λw=>by have:=((h.fmem n).1 w).2.2;rw[j]at this;simp at this
 have f:(g.oh n).st=dO g.st n .fr:=Z;have k:∀x,(dO g.st n .fr x).isL=(g.st x).isL:=by
  intro x;by_cases e:x=n
  ·rw[e,bn,j];rfl
  rw[br _ _ e]
 have o:∀x,(dO g.st n .fr x).isS=(g.st x).isS:=by
  intro x;by_cases e:x=n
  ·rw[e,bn,j];rfl
  rw[br _ _ e]
 have i:∀x p,p≠ .fr->p≠ .ow s->((dO g.st n .fr x=p) ↔ g.st x=p):=by
  intro x p l D;by_cases e:x=n
  ·rw[e,bn,j];exact⟨λe=>absurd e.symm l,λe=>absurd e.symm D⟩
  rw[br _ _ e]
 refine
 { rng:=?_,fw:=?_,fch:=?_,fmem:=?_,fnd:=?_,ftk:=?_,fcb:=u,lhd:=h.lhd,sa:=h.sa,iu:=?_,iX:=h.iX,lwrd:=?_,lded:=?_,lmrk:=?_,lkey:=?_,l1:=h.l1,b0:=h.b0,b1:=?_,msz:=h.msz,tpw:=h.tpw,sch:=h.sch,smem:=?_,snd:=h.snd,snx:=?_,chd:=h.chd,c2:=h.c2,qS:=h.qS,cch:=h.cch,cmem:=?_,cnd:=h.cnd,cfst:=h.cfst,cful:=h.cful,cval:=h.cval,dmem:=?_,dnd:=h.dnd,dlen:=h.dlen,cnt:=h.cnt }
 ·intro x c;rw[f]at c;by_cases e:x=n
  ·rw[e,bn]at c;simp at c
  rw[br _ _ e]at c;exact h.rng x c
 ·rw[bU];exact I6 h.fw u M q.2
 ·exact Chn.cons (h.fch.congr λx _=>Z) (z.trans hi)
 ·intro x;rw[f];by_cases e:x=n
  ·rw[e,bn];simp[Gh.oh,q]
  rw[br _ _ e,<- h.fmem x];simp[Gh.oh,e]
 ·exact cS.2 ⟨C,h.fnd⟩
 ·have:=h.ftk;simp[Gh.oh];omega
 ·intro x;rw[f,i x .li zS zS];exact h.iu x
 ·intro x c;rw[f,k]at c;obtain⟨y,A,l,v,B⟩:=h.lwrd x c;exact⟨y,A,l,v,B.imp_right λ⟨a,b⟩=>⟨by rw[f,k];exact a,b⟩⟩
 ·intro x t c;rw[f,i x _ zS zS]at c;exact h.lded x t c
 ·intro x c;rw[f,k]at c;exact h.lmrk x c
 ·intro x c;rw[f,k]at c;exact h.lkey x c
 ·exact h.b1.imp_right λ⟨d,a,b⟩=>⟨d,by rw[f,k];exact a,b⟩
 ·intro x;rw[f,i x .sk zS zS];exact h.smem x
 ·intro x c;rw[f,o]at c;exact(h.snx x c).imp_right λa=>by rw[f,o];exact a
 ·intro x;rw[f,i x .sg zS zS];exact h.cmem x
 intro t x;rw[f,i x _ zS zS,i x _ zS zS];exact h.dmem t x
theorem JC(f:g.st n= .ow s)(j:g'.st=dO g.st n p)(o:∀t,t≠s->p≠ .ow t)(b:∀x i,bz m c v (.nd x i)=m (.nd x i))(w:g.fc<=g'.fc)(y:g'.fc<=g.fc+1)(u:g'.fc=g.fc->bz m c v .free=m .free/\g'.fl=g.fl/\∀x∈g.fl,bz m c v (.nd x 7)=m (.nd x 7))(hd:∀t,t≠s->g'.dd t=g.dd t):Env s m g (bz m c v) g':=by
 have d:∀x,x≠n->g'.st x=g.st x:=λx a=>by rw[j,br _ _ a]
 have k:∀x q,g.st x=q->q≠ .ow s->x≠n:=λx q a l e=>l (by rw[<- a,e,f]);refine⟨λx a=>⟨?_,b x 1,b x 2⟩,λx a _=>b x 0,λx a=>⟨?_,b x 0,b x 1⟩,λx a=>⟨?_,λ_=>b x 0,λi _ _=>by rw[b x i];exact λ_=>.inl Z⟩,λx t a h=>⟨?_,λi=>b x i⟩,λx t a h=>?_,w,y,u,hd⟩
 ·rw[d x (by rintro rfl;rw[f]at a;cases a)];exact a
 ·rw[d x (by rintro rfl;rw[f]at a;cases a)];exact a
 ·rw[d x (k x _ a zS)];exact a
 ·rw[d x (k x _ a (by intro e;injection e with e;exact h e))];exact a
 by_cases e:x=n
 ·rw[j,e,bn]at a;exact absurd a (o t h)
 rw[d x e]at a;exact a
theorem Env.oh(a:g.st n= .ow s)(v:Int):Env s m g (bz m .free v) (g.oh n):=
 JC a Z zS (λ_ _=>Z) (by simp[Gh.oh]) (by simp[Gh.oh]) (by simp[Gh.oh]) (λ_ _=>Z)
theorem skD(h:Gl m g):g.sk.headD 0=0/\g.sk=[]\/g.st (g.sk.headD 0)= .sk/\1<=g.sk.headD 0/\g.sk.headD 0<=40:=by
 cases b:g.sk with
 | nil=>exact .inl ⟨Z,Z⟩
 | cons x r=>
  have a:=(h.smem x).1 (by rw[b];simp);exact .inr ⟨a,h.rng x (by rw[a];simp)⟩
theorem pY(h:Gl m g):idxOf (m .top)=g.sk.headD 0:=by
 obtain⟨c,a⟩:=h.tpw;have:=skD h;rw[a];exact gw _ _ _ M M
theorem Gl.push(h:Gl m g)(q:g.st n= .ow s)(k:m (.nd n 0)=idxOf (m .top)):Gl (bz m .top (dC (m .top) n)) (g.push n):=by
 have v:=h.rng n (by rw[q];simp);rw[pY h]at k;have i:(g.push n).st=dO g.st n .sk:=Z;have o:∀x,(dO g.st n .sk x).isL=(g.st x).isL:=by
  intro x;by_cases e:x=n
  ·rw[e,bn,q];rfl
  rw[br _ _ e]
 have u:∀x,(g.st x).isS=O->(dO g.st n .sk x).isS=O:=by
  intro x f;by_cases e:x=n
  ·rw[e,bn];rfl
  rw[br _ _ e];exact f
 have l:∀x p,p≠ .sk->p≠ .ow s->((dO g.st n .sk x=p) ↔ g.st x=p):=by
  intro x p j C;by_cases e:x=n
  ·rw[e,bn,q];exact⟨λe=>absurd e.symm j,λe=>absurd e.symm C⟩
  rw[br _ _ e]
 refine
 { rng:=?_,fw:=h.fw,fch:=h.fch,fmem:=?_,fnd:=h.fnd,ftk:=h.ftk,fcb:=h.fcb,lhd:=h.lhd,sa:=h.sa,iu:=?_,iX:=h.iX,lwrd:=?_,lded:=?_,lmrk:=?_,lkey:=?_,l1:=h.l1,b0:=h.b0,b1:=?_,msz:=h.msz,tpw:=?_,sch:=?_,smem:=?_,snd:=?_,snx:=?_,chd:=h.chd,c2:=h.c2,qS:=h.qS,cch:=h.cch,cmem:=?_,cnd:=h.cnd,cfst:=h.cfst,cful:=h.cful,cval:=h.cval,dmem:=?_,dnd:=h.dnd,dlen:=h.dlen,cnt:=?_ }
 ·intro x f;rw[i]at f;by_cases e:x=n
  ·rw[e];exact v
  rw[br _ _ e]at f;exact h.rng x f
 ·intro x;rw[i,l x .fr zS zS];exact h.fmem x
 ·intro x;rw[i,l x .li zS zS];exact h.iu x
 ·intro x f;rw[i,o]at f;obtain⟨y,k,j,w,A⟩:=h.lwrd x f;exact⟨y,k,j,w,A.imp_right λ⟨a,b⟩=>⟨by rw[i,o];exact a,b⟩⟩
 ·intro x t f;rw[i,l x _ zS zS]at f;exact h.lded x t f
 ·intro x f;rw[i,o]at f;exact h.lmrk x f
 ·intro x f;rw[i,o]at f;exact h.lkey x f
 ·exact h.b1.imp_right λ⟨d,a,b⟩=>⟨d,by rw[i,o];exact a,b⟩
 ·obtain⟨c,B⟩:=Ah (m .top) (x:=n) M v.2;exact⟨c,by rw[bU];exact B⟩
 ·exact Chn.cons (h.sch.congr λx _=>Z) k
 ·intro x;rw[i];by_cases e:x=n
  ·rw[e,bn];simp[Gh.push]
  rw[br _ _ e,<- h.smem x];simp[Gh.push,e]
 ·exact cS.2 ⟨λz=>by have:=(h.smem n).1 z;rw[q]at this;simp at this,h.snd⟩
 ·intro x f;by_cases e:x=n
  ·subst e;rcases skD h with⟨j,_⟩|⟨j,_⟩
   ·exact .inl (k.trans j)
   refine .inr ?_;show ((g.push x).st (m (.nd x 0))).isS=O;rw[k];exact u _ (by rw[j];rfl)
  rw[i,br _ _ e]at f;exact(h.snx x f).imp_right λa=>u _ a
 ·intro x;rw[i,l x .sg zS zS];exact h.cmem x
 ·intro t x;rw[i,l x _ zS zS,l x _ zS zS];exact h.dmem t x
 have:=h.cnt;show oa m g.ls+g.dl+(ny m g.ls+g.dl)+((n :: g.sk).length+g.ds)+g.ds+fJ m g.sg<=g.n+1;simp;omega
theorem Env.push(a:g.st n= .ow s)(v:Int):Env s m g (bz m .top v) (g.push n):=
 JC a Z zS (λ_ _=>Z) (aq _) (oU _) (λ_=>⟨Z,Z,λ_ _=>Z⟩) (λ_ _=>Z)
theorem Gl.pop(h:Gl m g)(k:g.sk=x :: r):Gl (bz m .top (dC (m .top) (m (.nd x 0)))) (g.pop s):=by
 have o:=(h.smem x).1 (by rw[k];simp);have B:=h.rng x (by rw[o];simp);have z:=h.sch;rw[k]at z;have L:m (.nd x 0)=r.headD 0:=z.head;have w:=h.snd;rw[k]at w;have K:x∉r:=(cS.1 w).1;have C:0<=r.headD 0/\r.headD 0<=40:=by
  cases B:r with
  | nil=>simp
  | cons y t=>
   have l:=(h.smem y).1 (by rw[k,B];simp);have:=h.rng y (by rw[l];simp);simp;omega
 have f:(g.pop s).st=dO g.st x (.dsk s):=by simp[Gh.pop,k]
 have q:(g.pop s).sk=r:=by simp[Gh.pop,k]
 have A:(g.pop s).dd=fD g.dd s (g.dd s++[x]):=by simp[Gh.pop,k]
 have u:∀n,(dO g.st x (.dsk s) n).isL=(g.st n).isL:=by
  intro n;by_cases e:n=x
  ·rw[e,bn,o];rfl
  rw[br _ _ e]
 have E:∀n,(dO g.st x (.dsk s) n).isS=(g.st n).isS:=by
  intro n;by_cases e:n=x
  ·rw[e,bn,o];rfl
  rw[br _ _ e]
 have v:∀n p,p≠ .sk->p≠ .dsk s->((dO g.st x (.dsk s) n=p) ↔ g.st n=p):=by
  intro n p l I;by_cases e:n=x
  ·rw[e,bn,o];exact⟨λe=>absurd e.symm I,λe=>absurd e.symm l⟩
  rw[br _ _ e]
 refine
 { rng:=?_,fw:=h.fw,fch:=h.fch,fmem:=?_,fnd:=h.fnd,ftk:=h.ftk,fcb:=h.fcb,lhd:=h.lhd,sa:=h.sa,iu:=?_,iX:=h.iX,lwrd:=?_,lded:=?_,lmrk:=?_,lkey:=?_,l1:=h.l1,b0:=h.b0,b1:=?_,msz:=h.msz,tpw:=?_,sch:=?_,smem:=?_,snd:=?_,snx:=?_,chd:=h.chd,c2:=h.c2,qS:=h.qS,cch:=h.cch,cmem:=?_,cnd:=h.cnd,cfst:=h.cfst,cful:=h.cful,cval:=h.cval,dmem:=?_,dnd:=?_,dlen:=?_,cnt:=?_ }
 ·intro n c;rw[f]at c;by_cases e:n=x
  ·rw[e];exact B
  rw[br _ _ e]at c;exact h.rng n c
 ·intro n;rw[f,v n .fr zS zS];exact h.fmem n
 ·intro n;rw[f,v n .li zS zS];exact h.iu n
 ·intro n c;rw[f,u]at c;obtain⟨y,J,l,G,H⟩:=h.lwrd n c;exact⟨y,J,l,G,H.imp_right λ⟨a,b⟩=>⟨by rw[f,u];exact a,b⟩⟩
 ·intro n t c;rw[f,v n _ zS zS]at c;exact h.lded n t c
 ·intro n c;rw[f,u]at c;exact h.lmrk n c
 ·intro n c;rw[f,u]at c;exact h.lkey n c
 ·exact h.b1.imp_right λ⟨d,a,b⟩=>⟨d,by rw[f,u];exact a,b⟩
 ·rw[L,q,bU];exact Ah (m .top) C.1 C.2
 ·rw[q];exact z.tail
 ·intro n;rw[f,q];by_cases e:n=x
  ·rw[e,bn];exact⟨λi=>absurd i K,λi=>by simp at i⟩
  rw[br _ _ e,<- h.smem n,k];simp[e]
 ·rw[q];exact(cS.1 w).2
 ·intro n c;rw[f,E]at c;exact(h.snx n c).imp_right λa=>by rw[f,E];exact a
 ·intro n;rw[f,v n .sg zS zS];exact h.cmem n
 ·intro t n;rw[f,A];by_cases e:n=x
  ·subst e;rw[bn];by_cases j:t=s
   ·subst j;rw[bL];simp
   rw[cQ _ _ j];refine⟨λi=>?_,λi=>?_⟩
   ·have:=(h.dmem t n).1 i;rw[o]at this;simp at this
   rcases i with i|i
   ·simp at i
   injection i with i;exact absurd i.symm j
  rw[br _ _ e];by_cases j:t=s
  ·subst j;rw[bL,<- h.dmem t n];simp[e]
  rw[cQ _ _ j];exact h.dmem t n
 ·intro t;rw[A];by_cases j:t=s
  ·subst j;rw[bL];refine List.nodup_append.2 ⟨h.dnd t,zS,?_⟩;intro a D b F e;rw[bH]at F;rw[e,F]at D;have:=(h.dmem t x).1 D;rw[o]at this;simp at this
  rw[cQ _ _ j];exact h.dnd t
 ·intro t;rw[A];have l:=h.dlen t;show _<=g.dl+(g.ds+1);by_cases j:t=s
  ·subst j;rw[bL];simp;omega
  rw[cQ _ _ j];omega
 have:=h.cnt;rw[k]at this;rw[q];show oa m g.ls+g.dl+(ny m g.ls+g.dl)+(r.length+(g.ds+1))+(g.ds+1)+fJ m g.sg<=g.n+1;simp at this;omega
theorem Oq(o:p.isL=(g.st x).isL)(q:p.isS=(g.st x).isS)(n:g.st x≠ .sg)(l:∀t,g.st x≠ .ow t)(u:∀t,p≠ .ow t)(f:g'.st=dO g.st x p)(b:∀y i,(i≠0\/(g.st y).isL=X\/dH (m (.nd y 0))=O)->bz m c v (.nd y i)=m (.nd y i))(z:g'.fc=g.fc)(h:bz m c v .free=m .free/\g'.fl=g.fl)(hd:∀t,t≠s->g'.dd t=g.dd t):Env s m g (bz m c v) g':=by
 have d:∀y,y≠x->g'.st y=g.st y:=λy a=>by rw[f,br _ _ a]
 refine⟨λy a=>⟨?_,b y 1 (.inl zD),b y 2 (.inl zD)⟩,λy a k=>b y 0 (.inr (.inr k)),λy a=>⟨?_,b y 0 (.inr (.inl ?_)),b y 1 (.inl zD)⟩,λy a=>⟨?_,λ_=>b y 0 (.inr (.inl (by rw[a];rfl))),λi hi _=>by rw[b y i (.inl M)];exact λ_=>.inl Z⟩,λy t a w=>⟨?_,λi=>b y i (.inr (.inl (by rw[a];rfl)))⟩,λy t a w=>?_,M,M,λ_=>⟨h.1,h.2,λy a=>b y 7 (.inl zD)⟩,hd⟩
 ·by_cases e:y=x
  ·rw[f,e,bn,o,<- e];exact a
  rw[d y e];exact a
 ·by_cases e:y=x
  ·rw[f,e,bn,q,<- e];exact a
  rw[d y e];exact a
 ·cases j:g.st y<;>rw[j]at a<;>simp[Pl.isS]at a<;>rfl
 ·by_cases e:y=x
  ·rw[e]at a;exact absurd a n
  rw[d y e];exact a
 ·by_cases e:y=x
  ·rw[e]at a;exact absurd a (l t)
  rw[d y e];exact a
 by_cases e:y=x
 ·rw[f,e,bn]at a;exact absurd a (u t)
 rw[d y e]at a;exact a
theorem Env.pop(h:Gl m g)(b:g.sk=x :: r)(v:Int):Env s m g (bz m .top v) (g.pop s):=by
 have a:=(h.smem x).1 (by rw[b];simp);exact Oq (x:=x) (p:=.dsk s) (by rw[a];rfl) (by rw[a];rfl) (by rw[a];simp) (by rw[a];simp) zS (by simp[Gh.pop,b]) (λ_ _ _=>Z) Z ⟨Z,Z⟩ (λt c=>by simp[Gh.pop,cQ _ _ c])
end
end
section
variable {c n p x:Int} {f k:Int->Int} {l:List Int} {e:Nat}
def qA(p n:Int):List Int->List Int
 | []=>[]
 | a :: r=>if a=p then a :: n :: r else a :: qA p n r
theorem pX(n:Int):∀ {l:List Int},p∈l->(qA p n l).Perm (n :: l)
 | [],h=>by simp at h
 | a :: r,h=>by
  unfold qA;by_cases e:a=p
  ·rw[if_pos e];exact List.Perm.swap n a r
  rw[if_neg e];have b:p∈r:=by
   rcases aL.1 h with h|h
   ·exact absurd h.symm e
   exact h
  exact((pX n b).cons a).trans (List.Perm.swap n a r)
theorem CH(h:p∈l):x∈qA p n l ↔ x=n\/x∈l:=by
 rw[(pX n h).mem_iff,aL]
theorem sH:∀ {a:Int} {l:List Int},Chn f (a :: l)->p∈a :: l->f p=0\/f p∈l
 | a,[],h,c=>by
  simp at c;subst c;exact .inl h
 | a,b :: r,h,c=>by
  rcases aL.1 c with c|c
  ·subst c;exact .inr (by rw[h.1];simp)
  exact(sH h.2 c).imp_right (cM _)
theorem CI{d:Int->Int}:∀ {l:List Int},l.Nodup->Chn f l->p∈l->n∉l->d p=n->d n=f p->(∀x∈l,x≠p->d x=f x)->Chn d (qA p n l)
 | [],_,_,h,_,_,_,_=>by simp at h
 | a :: r,hd,hc,hp,hn,h1,h2,h3=>by
  unfold qA;have j:=cS.1 hd;by_cases e:a=p
  ·subst e;rw[if_pos Z];refine⟨h1,Chn.cons (hc.tail.congr λx c=>h3 x (cM _ c) (by rintro rfl;exact j.1 c)) (h2.trans hc.head)⟩
  rw[if_neg e];have i:p∈r:=by
   rcases aL.1 hp with h|h
   ·exact absurd h.symm e
   exact h
  have o:=CI j.2 hc.tail i (λk=>hn (cM _ k)) h1 h2 (λx c=>h3 x (cM _ c));refine Chn.cons o ((h3 a zS e).trans (hc.head.trans ?_));cases r with
  | nil=>simp at i
  | cons b t=>unfold qA;by_cases q:b=p<;>simp[q]
theorem CG:∀ {l:List Int},l.Pairwise (λa b=>k a<k b)->Chn f l->p∈l->(∀x∈l,x≠0)->k p<k n->(f p=0\/k n<k (f p))->(qA p n l).Pairwise λa b=>k a<k b
 | [],_,_,h,_,_,_=>by simp at h
 | a :: r,hs,hc,hp,h0,h1,d=>by
  unfold qA;have i:=nQ.1 hs;by_cases e:a=p
  ·subst e;rw[if_pos Z];have q:∀y∈r,k n<k y:=by
    cases r with
    | nil=>simp
    | cons b t=>
     have u:k n<k b:=by
      rcases d with d|d
      ·rw[hc.1]at d;exact absurd d (h0 b zS)
      rw[hc.1]at d;exact d
     intro y c;rcases aL.1 c with c|c
     ·rw[c];exact u
     have:=(nQ.1 i.2).1 y c;omega
   refine nQ.2 ⟨?_,nQ.2 ⟨q,i.2⟩⟩;intro y c;rcases aL.1 c with c|c
   ·rw[c];exact h1
   exact i.1 y c
  rw[if_neg e];have j:p∈r:=by
   rcases aL.1 hp with h|h
   ·exact absurd h.symm e
   exact h
  refine nQ.2 ⟨?_,CG i.2 hc.tail j (λx o=>h0 x (cM _ o)) h1 d⟩;intro y c;rcases (CH j).1 c with c|c
  ·rw[c];have:=i.1 p j;omega
  exact i.1 y c
theorem wm(h:l.Pairwise λa b=>k a<k b):l.Nodup:=
 h.imp λ{a b} c e=>by rw[e]at c;omega
theorem zX{j:Int->Int}(k:c≠0):∀ {l:List Int},l.Nodup->Chn f l->p∈l->f p=c->j p=f c->(∀x∈l,x≠p->j x=f x)->Chn j (l.erase c)/\(l.erase c).headD 0=l.headD 0
 | [],_,_,h,_,_,_=>by simp at h
 | a :: r,hd,hc,hp,h1,h2,h3=>by
  have i:=cS.1 hd;have o:c∈r:=by
   rcases sH hc hp with h|h
   ·rw[h1]at h;exact absurd h k
   rw[h1]at h;exact h
  have q:a≠c:=by rintro rfl;exact i.1 o
  rw[List.erase_cons_tail (by simpa using q)];refine⟨?_,Z⟩;by_cases e:a=p
  ·subst e;cases r with
   | nil=>simp at o
   | cons b t=>
    have v:b=c:=hc.1.symm.trans h1;subst v;rw[List.erase_cons_head];refine Chn.cons (hc.tail.tail.congr λx d=>h3 x (by simp[d]) (by rintro rfl;exact i.1 (by simp[d]))) ?_;rw[h2];exact hc.tail.head
  have u:p∈r:=by
   rcases aL.1 hp with h|h
   ·exact absurd h.symm e
   exact h
  have n:=zX k i.2 hc.tail u h1 h2 (λx d=>h3 x (cM _ d));exact Chn.cons n.1 ((h3 a zS e).trans (hc.head.trans n.2.symm))
theorem xz{P Q:Int->Bool}:∀ {l:List Int},l.Nodup->x∈l->P x=X->Q x=O->(∀y∈l,y≠x->Q y=P y)->l.countP Q=l.countP P+1
 | [],_,h,_,_,_=>by simp at h
 | a :: r,hd,hx,h1,h2,h3=>by
  have c:=cS.1 hd;rw[List.countP_cons,List.countP_cons];by_cases e:a=x
  ·subst e;have:r.countP Q=r.countP P:=List.countP_congr λy b=>by rw[h3 y (by simp[b]) (by rintro rfl;exact c.1 b)]
   rw[this,h1,h2];simp
  have d:x∈r:=by
   rcases aL.1 hx with h|h
   ·exact absurd h.symm e
   exact h
  rw[xz c.2 d h1 h2 (λy b=>h3 y (by simp[b])),h3 a zS e];omega
section
variable {m m':Sm} {g:Gh} {s:Nat}
def Gh.ins(g:Gh)(p n:Int)(e:Nat):Gh:={ g with ls:=qA p n g.ls,st:=dO g.st n .li,n:=g.n+e }
def Gh.mark(g:Gh):Gh:={ g with n:=g.n+1 }
def Gh.unl(g:Gh)(s:Nat)(c:Int):Gh:={ g with ls:=g.ls.erase c,st:=dO g.st c (.dli s),dd:=fD g.dd s (g.dd s++[c]),dl:=g.dl+1 }
theorem xe(h:Gl m g)(b:(g.st p).isL=O)(c:dH (m (.nd p 0))=X):g.st p= .li:=by
 cases a:g.st p with
 | li=>rfl
 | dli t=>have:=h.lded p t a;rw[c]at this;simp at this
 | _=>rw[a]at b;simp[Pl.isL]at b
theorem fX(h:Gl m g)(a:(g.st p).isL=O):1<=p/\p<=40:=h.rng p (by rintro e;rw[e]at a;simp[Pl.isL]at a)
theorem iS(h:Gl m g)(k:(g.st p).isL=O)(l:0<=c)(n:c<=40)(f:m (.nd p 0)=aV c):g.st p= .li/\p∈g.ls/\idxOf (m (.nd p 0))=c/\(c=0\/c∈g.ls):=by
 have j:=xe h k (by rw[f];exact cP c);have b:=(h.iu p).2 j;have a:idxOf (m (.nd p 0))=c:=by rw[f];exact gY l n
 refine⟨j,b,a,?_⟩;obtain⟨r,i⟩:=h.lhd;have d:=h.sa;rw[i]at d b;rcases sH d b with e|e
 ·exact .inl (a.symm.trans e)
 rw[a]at e;exact .inr (by rw[i];simp[e])
theorem Gl.ins(h:Gl m g){o:Int}(Y:(g.st p).isL=O)(P:m (.nd p 0)=aV c)(I:g.st n= .ow s)(hk:m (.nd n 1)=o)(T:bT m p<o)(E:c=0\/(g.st c).isL=O/\o<bT m c)(L:m (.nd n 0)=aV c)(ho0:0<=o)(ho1:o<131072)(ho2:o%2=0->o=65536)(qa:if o%2=1 then e=1 else e=0):
  Gl (bz m (.nd p 0) (aV n)) (g.ins p n e):=by
 have H:=h.rng n (by rw[I];simp);have N:0<=c/\c<=40:=by
  rcases E with E|E
  ·omega
  have:=fX h E.1;omega
 obtain⟨G,F,hpi,yb⟩:=iS h Y N.1 N.2 P;have X:n≠p:=by rintro rfl;rw[I]at G;simp at G
 have hnl:n∉g.ls:=λz=>by have:=(h.iu n).1 z;rw[I]at this;simp at this
 have u:(g.ins p n e).st=dO g.st n .li:=Z;have M:(g.ins p n e).ls=qA p n g.ls:=Z;have k:∀x i,(x≠p\/i≠0)->bz m (.nd p 0) (aV n) (.nd x i)=m (.nd x i):=λx i j=>eV m _ (by
  intro e;injection e with v w;rcases j with j|j
  ·exact j v
  exact j w)
 have J:bz m (.nd p 0) (aV n) (.nd p 0)=aV n:=bU m _ _;have l:∀x,bT (bz m (.nd p 0) (aV n)) x=bT m x:=λx=>k x 1 (.inr zD);have D:bT m n=o:=hk;have S:∀x,(g.st x).isL=O->(dO g.st n .li x).isL=O:=by
  intro x j;by_cases e:x=n
  ·rw[e,bn];rfl
  rw[br _ _ e];exact j
 have U:∀x,(dO g.st n .li x).isS=(g.st x).isS:=by
  intro x;by_cases e:x=n
  ·rw[e,bn,I];rfl
  rw[br _ _ e]
 have B:∀x q,q≠ .li->q≠ .ow s->((dO g.st n .li x=q) ↔ g.st x=q):=by
  intro x q K A;by_cases e:x=n
  ·rw[e,bn,I];exact⟨λe=>absurd e.symm K,λe=>absurd e.symm A⟩
  rw[br _ _ e]
 have V:∀x,(g.st x).isS=O->x≠p:=λx j e=>by rw[e,G]at j;simp[Pl.isS]at j
 have hnC:∀x,g.st x= .sg->x≠p:=λx j e=>by rw[e,G]at j;simp at j
 have W:∀x∈g.sg,x≠p:=λx j=>hnC x ((h.cmem x).1 j);refine
 { rng:=?_,fw:=h.fw,fch:=?_,fmem:=?_,fnd:=h.fnd,ftk:=h.ftk,fcb:=h.fcb,lhd:=?_,sa:=?_,iu:=?_,iX:=?_,lwrd:=?_,lded:=?_,lmrk:=?_,lkey:=?_,l1:=?_,b0:=h.b0,b1:=?_,msz:=h.msz,tpw:=h.tpw,sch:=?_,smem:=?_,snd:=h.snd,snx:=?_,chd:=h.chd,c2:=h.c2,qS:=h.qS,cch:=?_,cmem:=?_,cnd:=h.cnd,cfst:=?_,cful:=?_,cval:=?_,dmem:=?_,dnd:=h.dnd,dlen:=h.dlen,cnt:=?_ }
 ·intro x j;rw[u]at j;by_cases e:x=n
  ·rw[e];exact H
  rw[br _ _ e]at j;exact h.rng x j
 ·exact h.fch.congr λx _=>k x 7 (.inr zD)
 ·intro x;rw[u,B x .fr zS zS];exact h.fmem x
 ·obtain⟨r,H⟩:=h.lhd;rw[M,H];unfold qA;by_cases e:1=p
  ·exact⟨_,by rw[if_pos e]⟩
  exact⟨_,by rw[if_neg e]⟩
 ·rw[M];refine CI (wm h.iX) h.sa F hnl ?_ ?_ ?_
  ·show idxOf _=n;rw[J];exact gY zO H.2
  ·show idxOf _=idxOf _;rw[k n 0 (.inl X),L,P]
  intro x _ j;show idxOf _=idxOf _;rw[k x 0 (.inl j)]
 ·intro x;rw[M,CH F,u,h.iu x];by_cases e:x=n
  ·rw[e,bn];simp
  rw[br _ _ e];simp[e]
 ·rw[M];refine(CG (f:=λx=>idxOf (m (.nd x 0))) h.iX h.sa F ?_ (by rw[D];exact T) ?_).imp λ{a b} hab=>by rw[l,l];exact hab
  ·intro x j e;have:=h.rng x (by rw[(h.iu x).1 j];simp);omega
  show idxOf (m (.nd p 0))=0\/bT m n<bT m (idxOf (m (.nd p 0)));rw[hpi,D];exact E.imp_right λC=>C.2
 ·intro x j;rw[u]at j;by_cases v:x=p
  ·subst v;refine⟨n,zO,H.2,.inl J,.inr ⟨by rw[u,bn];rfl,?_⟩⟩;rw[l,l,D];exact T
  by_cases w:x=n
  ·subst w;refine⟨c,N.1,N.2,.inl ?_,E.imp_right λC=>⟨S c C.1,?_⟩⟩
   ·rw[k x 0 (.inl v)];exact L
   rw[l,l,D];exact C.2
  rw[br _ _ w]at j;obtain⟨y,h0,K,hw',qb⟩:=h.lwrd x j;refine⟨y,h0,K,by rw[k x 0 (.inl v)];exact hw',qb.imp_right λ⟨a,b⟩=>⟨S y a,by rw[l,l];exact b⟩⟩
 ·intro x t j;rw[u,B x _ zS zS]at j;rw[k x 0 (.inl (by rintro rfl;rw[G]at j;simp at j))];exact h.lded x t j
 ·intro x j z;rw[l];by_cases v:x=p
  ·subst v;rw[J,cP]at z;simp at z
  rw[k x 0 (.inl v)]at z;by_cases w:x=n
  ·subst w;rw[L,cP]at z;simp at z
  rw[u,br _ _ w]at j;exact h.lmrk x j z
 ·intro x j;rw[l];by_cases w:x=n
  ·subst w;rw[D];exact⟨ho0,ho1,λC=>.inr (ho2 C)⟩
  rw[u,br _ _ w]at j;exact h.lkey x j
 ·rw[l];exact h.l1
 ·refine h.b1.imp_right λ⟨d,a,b,c⟩=>⟨d,S d a,by rw[l];exact b,c⟩
 ·exact h.sch.congr λx j=>k x 0 (.inl (V x (vK ((h.smem x).1 j))))
 ·intro x;rw[u,B x .sk zS zS];exact h.smem x
 ·intro x j;rw[u,U]at j;rw[k x 0 (.inl (V x j))];exact(h.snx x j).imp_right λa=>by rw[u,U];exact a
 ·exact h.cch.congr λx j=>k x 0 (.inl (W x j))
 ·intro x;rw[u,B x .sg zS zS];exact h.cmem x
 ·intro x j A;rw[k x 1 (.inr zD)];exact h.cfst x j A
 ·intro x j A i R Q;rw[k x 0 (.inl (W x j))]at A;rw[k x i (.inr zO)];exact h.cful x j A i R Q
 ·intro x j i R Q;rw[k x i (.inr zO)];exact h.cval x j i R Q
 ·intro t x;rw[u,B x _ zS zS,B x _ zS zS];exact h.dmem t x
 have hcnt:=h.cnt;have K:oa (bz m (.nd p 0) (aV n)) (qA p n g.ls)=oa m g.ls+e:=by
  unfold oa;rw[(pX n F).countP_eq,List.countP_cons];have:(g.ls.countP λx=>bT (bz m (.nd p 0) (aV n)) x%2==1)=g.ls.countP λx=>bT m x%2==1:=List.countP_congr λx _=>by rw[l]
  rw[this,l,D];by_cases ho:o%2=1
  ·rw[if_pos ho]at qa;simp[ho,qa]
  rw[if_neg ho]at qa;simp[ho,qa]
 have A:ny (bz m (.nd p 0) (aV n)) (qA p n g.ls)=ny m g.ls:=by
  unfold ny;rw[(pX n F).countP_eq,List.countP_cons,k n 0 (.inl X),L,cP];simp only[Bool.false_eq_true,if_false,Nat.add_zero];refine List.countP_congr λx j=>?_;by_cases v:x=p
  ·subst v;rw[J,P,cP,cP]
  rw[k x 0 (.inl v)]
 have h3:fJ (bz m (.nd p 0) (aV n)) g.sg=fJ m g.sg:=kz λx _ i hi _=>k x i (.inr zO);show oa _ (qA p n g.ls)+g.dl+(ny _ (qA p n g.ls)+g.dl)+(g.sk.length+g.ds)+g.ds+fJ _ g.sg<=g.n+e;omega
theorem Env.ins(h:Gl m g)(f:g.st p= .li)(v:m (.nd p 0)=aV c)(j:g.st n= .ow s):
  Env s m g (bz m (.nd p 0) (aV n)) (g.ins p n e):=by
 have b:∀x i,(x≠p\/i≠0)->bz m (.nd p 0) (aV n) (.nd x i)=m (.nd x i):=λx i a=>eV m _ (by
  intro e;injection e with w y;rcases a with a|a
  ·exact a w
  exact a y)
 have d:(g.ins p n e).st=dO g.st n .li:=Z;have o:∀x q,g.st x=q->q≠ .ow s->x≠n:=λx q a u e=>u (by rw[<- a,e,j]);refine⟨λx a=>⟨?_,b x 1 (.inr zD),b x 2 (.inr zD)⟩,λx a k=>b x 0 (.inl ?_),λx a=>⟨?_,b x 0 (.inl ?_),b x 1 (.inr zD)⟩,λx a=>⟨?_,λ_=>b x 0 (.inl ?_),λi hi _=>?_⟩,λx t a l=>⟨?_,λi=>b x i (.inl ?_)⟩,λx t a l=>?_,aq _,oU _,λ_=>⟨Z,Z,λx _=>b x 7 (.inr zD)⟩,λ_ _=>Z⟩
 ·rw[d,br _ _ (by rintro rfl;rw[j]at a;cases a)];exact a
 ·rintro rfl;rw[v,cP]at k;simp at k
 ·rw[d,br _ _ (by rintro rfl;rw[j]at a;cases a)];exact a
 ·rintro rfl;rw[f]at a;cases a
 ·rw[d,br _ _ (o x _ a zS)];exact a
 ·rintro rfl;rw[f]at a;cases a
 ·rw[b x i (.inr M)];exact λ_=>.inl Z
 ·rw[d,br _ _ (o x _ a (by intro e;injection e with e;exact l e))];exact a
 ·rintro rfl;rw[f]at a;cases a
 rw[d]at a;by_cases e:x=n
 ·rw[e,bn]at a;cases a
 rw[br _ _ e]at a;exact a
end
end
section
variable {c i n p v x:Int} {f:Int->Int}
section
variable {m m':Sm} {g:Gh} {s:Nat}
theorem gq(m:Sm)(p v:Int)(a:x≠p\/i≠0):bz m (.nd p 0) v (.nd x i)=m (.nd x i):=eV m _ (by
  intro e;injection e with c b;rcases a with a|a
  ·exact a c
  exact a b)
theorem Gl.mark(h:Gl m g)(N:(g.st c).isL=O)(A:0<=x)(u:x<=40)(n:m (.nd c 0)=aV x)(K:bT m c%2=1):Gl (bz m (.nd c 0) (eQ x)) g.mark:=by
 obtain⟨v,M,I,_⟩:=iS h N A u n;have j:∀y i,(y≠c\/i≠0)->bz m (.nd c 0) (eQ x) (.nd y i)=m (.nd y i):=λy i f=>gq m c _ f;have B:bz m (.nd c 0) (eQ x) (.nd c 0)=eQ x:=bU m _ _;have k:∀y,bT (bz m (.nd c 0) (eQ x)) y=bT m y:=λy=>j y 1 (.inr zD);have hi:∀y,idxOf (bz m (.nd c 0) (eQ x) (.nd y 0))=idxOf (m (.nd y 0)):=by
  intro y;by_cases e:y=c
  ·subst e;rw[B,jx A u,I]
  rw[j y 0 (.inl e)]
 have E:∀y,(g.st y).isS=O->y≠c:=λy f e=>by rw[e,v]at f;simp[Pl.isS]at f
 have G:∀y∈g.sg,y≠c:=λy f e=>by have:=(h.cmem y).1 f;rw[e,v]at this;simp at this
 refine
 { rng:=h.rng,fw:=h.fw,fch:=?_,fmem:=h.fmem,fnd:=h.fnd,ftk:=h.ftk,fcb:=h.fcb,lhd:=h.lhd,sa:=?_,iu:=h.iu,iX:=?_,lwrd:=?_,lded:=?_,lmrk:=?_,lkey:=?_,l1:=?_,b0:=h.b0,b1:=?_,msz:=h.msz,tpw:=h.tpw,sch:=?_,smem:=h.smem,snd:=h.snd,snx:=?_,chd:=h.chd,c2:=h.c2,qS:=h.qS,cch:=?_,cmem:=h.cmem,cnd:=h.cnd,cfst:=?_,cful:=?_,cval:=?_,dmem:=h.dmem,dnd:=h.dnd,dlen:=h.dlen,cnt:=?_ }
 ·exact h.fch.congr λy _=>j y 7 (.inr zD)
 ·exact h.sa.congr λy _=>hi y
 ·exact h.iX.imp λ{a b} qa=>by rw[k,k];exact qa
 ·intro y f;obtain⟨z,D,q,l,J⟩:=h.lwrd y f;have F:z=0\/(g.st z).isL=O/\bT (bz m (.nd c 0) (eQ x)) y<bT (bz m (.nd c 0) (eQ x)) z:=J.imp_right λ⟨a,b⟩=>⟨a,by rw[k,k];exact b⟩;by_cases e:y=c
  ·subst e;have L:z=x:=by
    rcases l with l|l
    ·exact zd D q A u (l.symm.trans n)
    rw[n]at l;have:=cP x;rw[l,gu]at this;simp at this
   exact⟨z,D,q,.inr (by rw[B,L]),F⟩
  exact⟨z,D,q,by rw[j y 0 (.inl e)];exact l,F⟩
 ·intro y t f;have f:g.st y= .dli t:=f;rw[j y 0 (.inl (by rintro rfl;rw[v]at f;simp at f))];exact h.lded y t f
 ·intro y f H;rw[k];by_cases e:y=c
  ·rw[e];exact K
  rw[j y 0 (.inl e)]at H;exact h.lmrk y f H
 ·intro y f;rw[k];exact h.lkey y f
 ·rw[k];exact h.l1
 ·exact h.b1.imp_right λ⟨d,a,b,e⟩=>⟨d,a,by rw[k];exact b,e⟩
 ·exact h.sch.congr λy f=>j y 0 (.inl (E y (vK ((h.smem y).1 f))))
 ·intro y f;rw[j y 0 (.inl (E y f))];exact h.snx y f
 ·exact h.cch.congr λy f=>j y 0 (.inl (G y f))
 ·intro y f o;rw[j y 1 (.inr zD)];exact h.cfst y f o
 ·intro y f o i C w;rw[j y 0 (.inl (G y f))]at o;rw[j y i (.inr zO)];exact h.cful y f o i C w
 ·intro y f i C w;rw[j y i (.inr zO)];exact h.cval y f i C w
 have Q:=h.cnt;have P:oa (bz m (.nd c 0) (eQ x)) g.ls=oa m g.ls:=nZ λy _=>k y;have R:ny (bz m (.nd c 0) (eQ x)) g.ls=ny m g.ls+1:=by
  unfold ny;refine xz (wm h.iX) M ?_ ?_ ?_
  ·show dH (m (.nd c 0))=X;rw[n,cP]
  ·show dH (bz m (.nd c 0) (eQ x) (.nd c 0))=O;rw[B,gu]
  intro y _ f;show dH (bz m _ _ _)=dH _;rw[j y 0 (.inl f)]
 have S:fJ (bz m (.nd c 0) (eQ x)) g.sg=fJ m g.sg:=kz λy _ i hi _=>j y i (.inr zO);show oa _ g.ls+g.dl+(ny _ g.ls+g.dl)+(g.sk.length+g.ds)+g.ds+fJ _ g.sg<=g.n+1;omega
theorem Env.nd0(h:Gl m g){g':Gh}(d:g.st c= .li)(k:dH (m (.nd c 0))=X)(l:∀x,(g.st x).isL=O->(g'.st x).isL=O)(ho:∀x,(g.st x).isL=X->g'.st x=g.st x)(j:∀x t,g'.st x= .ow t->g.st x= .ow t)(u:g'.fc=g.fc)(n:g'.fl=g.fl)(hd:∀t,t≠s->g'.dd t=g.dd t):Env s m g (bz m (.nd c 0) v) g':=by
 have f:∀x q,g.st x=q->q.isL=X->(g.st x).isL=X:=λx q a b=>by rw[a];exact b
 refine⟨λx a=>⟨l x a,gq m c v (.inr zD),gq m c v (.inr zD)⟩,λx a e=>gq m c v (.inl ?_),λx a=>⟨?_,gq m c v (.inl ?_),gq m c v (.inr zD)⟩,λx a=>⟨?_,λ_=>gq m c v (.inl ?_),λi hi _=>?_⟩,λx t a o=>⟨?_,λi=>gq m c v (.inl ?_)⟩,λx t a o=>j x t a,M,M,λ_=>⟨Z,n,λx _=>gq m c v (.inr zD)⟩,hd⟩
 ·rintro rfl;rw[k]at e;simp at e
 ·have:(g.st x).isL=X:=by cases b:g.st x<;>rw[b]at a<;>simp[Pl.isS]at a<;>rfl
  rw[ho x this];exact a
 ·rintro rfl;rw[d]at a;cases a
 ·rw[ho x (f x _ a Z)];exact a
 ·rintro rfl;rw[d]at a;cases a
 ·rw[gq m c v (.inr M)];exact λ_=>.inl Z
 ·rw[ho x (f x _ a Z)];exact a
 rintro rfl;rw[d]at a;cases a
theorem Gl.unl(h:Gl m g)(hp:(g.st p).isL=O)(E:m (.nd p 0)=aV c)(qa:(g.st c).isL=O)(I:0<=x)(v:x<=40)(R:m (.nd c 0)=eQ x):
  Gl (bz m (.nd p 0) (aV x)) (g.unl s c):=by
 have U:=fX h qa;obtain⟨P,zJ,hpi,J⟩:=iS h hp zO U.2 E;have J:c∈g.ls:=J.resolve_left zO;have F:g.st c= .li:=(h.iu c).1 J;have w:dH (m (.nd c 0))=O:=by rw[R,gu]
 have qQ:c≠p:=by rintro rfl;rw[E,cP]at w;simp at w
 have S:bT m c%2=1:=h.lmrk c qa w;have DH:c≠1:=by rintro rfl;rw[h.l1]at S;simp at S
 have k:(g.unl s c).st=dO g.st c (.dli s):=Z;have K:(g.unl s c).ls=g.ls.erase c:=Z;have T:(g.unl s c).dd=fD g.dd s (g.dd s++[c]):=Z;have j:∀y i,(y≠p\/i≠0)->bz m (.nd p 0) (aV x) (.nd y i)=m (.nd y i):=λy i f=>gq m p _ f;have H:bz m (.nd p 0) (aV x) (.nd p 0)=aV x:=bU m _ _;have o:∀y,bT (bz m (.nd p 0) (aV x)) y=bT m y:=λy=>j y 1 (.inr zD);have B:∀y,(dO g.st c (.dli s) y).isL=(g.st y).isL:=by
  intro y;by_cases e:y=c
  ·rw[e,bn,F];rfl
  rw[br _ _ e]
 have qc:∀y,(dO g.st c (.dli s) y).isS=(g.st y).isS:=by
  intro y;by_cases e:y=c
  ·rw[e,bn,F];rfl
  rw[br _ _ e]
 have M:∀y q,q≠ .li->q≠ .dli s->((dO g.st c (.dli s) y=q) ↔ g.st y=q):=by
  intro y q v A;by_cases e:y=c
  ·rw[e,bn,F];exact⟨λe=>absurd e.symm A,λe=>absurd e.symm v⟩
  rw[br _ _ e]
 have X:=wm h.iX;have hnS:∀y,(g.st y).isS=O->y≠p:=λy f e=>by rw[e,P]at f;simp[Pl.isS]at f
 have cC:∀y∈g.sg,y≠p:=λy f e=>by have:=(h.cmem y).1 f;rw[e,P]at this;simp at this
 refine
 { rng:=?_,fw:=h.fw,fch:=?_,fmem:=?_,fnd:=h.fnd,ftk:=h.ftk,fcb:=h.fcb,lhd:=?_,sa:=?_,iu:=?_,iX:=?_,lwrd:=?_,lded:=?_,lmrk:=?_,lkey:=?_,l1:=?_,b0:=h.b0,b1:=?_,msz:=h.msz,tpw:=h.tpw,sch:=?_,smem:=?_,snd:=h.snd,snx:=?_,chd:=h.chd,c2:=h.c2,qS:=h.qS,cch:=?_,cmem:=?_,cnd:=h.cnd,cfst:=?_,cful:=?_,cval:=?_,dmem:=?_,dnd:=?_,dlen:=?_,cnt:=?_ }
 ·intro y f;rw[k]at f;by_cases e:y=c
  ·rw[e];exact U
  rw[br _ _ e]at f;exact h.rng y f
 ·exact h.fch.congr λy _=>j y 7 (.inr zD)
 ·intro y;rw[k,M y .fr zS zS];exact h.fmem y
 ·obtain⟨r,hr⟩:=h.lhd;rw[K,hr,List.erase_cons_tail (by simpa using λe=>DH e.symm)];exact⟨_,Z⟩
 ·rw[K];refine(zX zO X h.sa zJ hpi ?_ ?_).1
  ·show idxOf _=idxOf _;rw[H,R,gY I v,jx I v]
  intro y _ f;show idxOf _=idxOf _;rw[j y 0 (.inl f)]
 ·intro y;rw[K,X.mem_erase_iff,k,h.iu y];by_cases e:y=c
  ·rw[e,bn];simp
  rw[br _ _ e];simp[e]
 ·rw[K];exact(h.iX.sublist List.erase_sublist).imp λ{a b} hab=>by rw[o,o];exact hab
 ·intro y f;rw[k,B]at f;obtain⟨z,z0,W,D,C⟩:=h.lwrd y f;by_cases e:y=p;rotate_left
  ·exact⟨z,z0,W,by rw[j y 0 (.inl e)];exact D,C.imp_right λ⟨a,b⟩=>⟨by rw[k,B];exact a,by rw[o,o];exact b⟩⟩
  subst e;obtain⟨z',z0',z1',G,hzz'⟩:=h.lwrd c qa;have hzx:z'=x:=by
   rcases G with G|G
   ·rw[G,cP]at w;simp at w
   rw[<- jx z0' z1',<- G,R,jx I v]
  have Q:bT m y<bT m c:=by
   have hzc:z=c:=by
    rcases D with D|D
    ·exact zd z0 W zO U.2 (D.symm.trans E)
    have:=cP c;rw[<- E,D,gu]at this;simp at this
   rcases C with C|C
   ·omega
   rw[hzc]at C;exact C.2
  refine⟨x,I,v,.inl H,?_⟩;rw[hzx]at hzz';exact hzz'.imp_right λ⟨a,b⟩=>⟨by rw[k,B];exact a,by rw[o,o];omega⟩
 ·intro y t f;rw[k]at f;by_cases e:y=c
  ·subst e;rw[j y 0 (.inl qQ)];exact w
  rw[br _ _ e]at f;rw[j y 0 (.inl (by rintro rfl;rw[P]at f;simp at f))];exact h.lded y t f
 ·intro y f L;rw[k,B]at f;rw[o];by_cases e:y=p
  ·subst e;rw[H,cP]at L;simp at L
  rw[j y 0 (.inl e)]at L;exact h.lmrk y f L
 ·intro y f;rw[k,B]at f;rw[o];exact h.lkey y f
 ·rw[o];exact h.l1
 ·exact h.b1.imp_right λ⟨d,a,b,e⟩=>⟨d,by rw[k,B];exact a,by rw[o];exact b,e⟩
 ·exact h.sch.congr λy f=>j y 0 (.inl (hnS y (vK ((h.smem y).1 f))))
 ·intro y;rw[k,M y .sk zS zS];exact h.smem y
 ·intro y f;rw[k,qc]at f;rw[j y 0 (.inl (hnS y f))];exact(h.snx y f).imp_right λa=>by rw[k,qc];exact a
 ·exact h.cch.congr λy f=>j y 0 (.inl (cC y f))
 ·intro y;rw[k,M y .sg zS zS];exact h.cmem y
 ·intro y f A;rw[j y 1 (.inr zD)];exact h.cfst y f A
 ·intro y f A i qb N;rw[j y 0 (.inl (cC y f))]at A;rw[j y i (.inr zO)];exact h.cful y f A i qb N
 ·intro y f i qb N;rw[j y i (.inr zO)];exact h.cval y f i qb N
 ·intro t n;rw[k,T];by_cases e:n=c
  ·subst e;rw[bn];by_cases l:t=s
   ·subst l;rw[bL];simp
   rw[cQ _ _ l];refine⟨λu=>?_,λu=>?_⟩
   ·have:=(h.dmem t n).1 u;rw[F]at this;simp at this
   rcases u with u|u
   ·injection u with u;exact absurd u.symm l
   simp at u
  rw[br _ _ e];by_cases l:t=s
  ·subst l;rw[bL,<- h.dmem t n];simp[e]
  rw[cQ _ _ l];exact h.dmem t n
 ·intro t;rw[T];by_cases l:t=s
  ·subst l;rw[bL];refine List.nodup_append.2 ⟨h.dnd t,zS,?_⟩;intro a Y b hb' e;rw[bH]at hb';rw[e,hb']at Y;have:=(h.dmem t c).1 Y;rw[F]at this;simp at this
  rw[cQ _ _ l];exact h.dnd t
 ·intro t;rw[T];have v:=h.dlen t;show _<=(g.dl+1)+g.ds;by_cases l:t=s
  ·subst l;rw[bL];simp;omega
  rw[cQ _ _ l];omega
 have hcnt:=h.cnt;have Q:=List.perm_cons_erase J;have e1:oa m g.ls=oa (bz m (.nd p 0) (aV x)) (g.ls.erase c)+1:=by
  unfold oa;rw[Q.countP_eq,List.countP_cons];have:((g.ls.erase c).countP λy=>bT (bz m (.nd p 0) (aV x)) y%2==1)=(g.ls.erase c).countP λy=>bT m y%2==1:=List.countP_congr λy _=>by rw[o]
  rw[this];simp[S]
 have e2:ny m g.ls=ny (bz m (.nd p 0) (aV x)) (g.ls.erase c)+1:=by
  unfold ny;rw[Q.countP_eq,List.countP_cons,w];have:((g.ls.erase c).countP λy=>dH (bz m (.nd p 0) (aV x) (.nd y 0)))=(g.ls.erase c).countP λy=>dH (m (.nd y 0)):=List.countP_congr λy _=>by
   by_cases e:y=p
   ·subst e;rw[H,E,cP,cP]
   rw[j y 0 (.inl e)]
  rw[this];simp
 have e3:fJ (bz m (.nd p 0) (aV x)) g.sg=fJ m g.sg:=kz λy _ i hi _=>j y i (.inr zO);show oa _ (g.ls.erase c)+(g.dl+1)+(ny _ (g.ls.erase c)+(g.dl+1))+(g.sk.length+g.ds)+g.ds+fJ _ g.sg<=g.n;omega
theorem Env.mark(h:Gl m g)(e:(g.st c).isL=O)(d:0<=x)(b:x<=40)(a:m (.nd c 0)=aV x):Env s m g (bz m (.nd c 0) (eQ x)) g.mark:=
 Env.nd0 h (iS h e d b a).1 (by rw[a];exact cP x) (λ_ h=>h) (λ_ _=>Z) (λ_ _ h=>h) Z Z (λ_ _=>Z)
theorem Env.unl(h:Gl m g)(f:(g.st p).isL=O)(d:m (.nd p 0)=aV c)(j:(g.st c).isL=O):Env s m g (bz m (.nd p 0) (aV x)) (g.unl s c):=by
 have l:=fX h j;obtain⟨k,u,q,i⟩:=iS h f M l.2 d;have o:g.st c= .li:=(h.iu c).1 (i.resolve_left M);have b:(g.unl s c).st=dO g.st c (.dli s):=Z;refine Env.nd0 h k (by rw[d];exact cP c) (λy a=>?_) (λy a=>?_) (λy t a=>?_) Z Z (λt n=>cQ _ _ n)
 ·rw[b];by_cases e:y=c
  ·rw[e,bn];rfl
  rw[br _ _ e];exact a
 ·rw[b,br _ _ (by rintro rfl;rw[o]at a;simp[Pl.isL]at a)]
 rw[b]at a;by_cases e:y=c
 ·rw[e,bn]at a;simp at a
 rw[br _ _ e]at a;exact a
theorem Gl.bucket(h:Gl m g){d:Int}(hd:(g.st d).isL=O)(a:bT m d=65536):Gl (bz m (.bucket 1) (aV d)) g:=
 { h with
  fw:=h.fw,fch:=h.fch,sa:=h.sa,iX:=h.iX,lwrd:=h.lwrd,lded:=h.lded,lmrk:=h.lmrk,lkey:=h.lkey,l1:=h.l1
  b0:=by rw[eV _ _ zS];exact h.b0
  b1:=.inr ⟨d,hd,a,bU _ _ _⟩
  msz:=h.msz,tpw:=h.tpw,sch:=h.sch,snx:=h.snx,chd:=h.chd,qS:=h.qS,cch:=h.cch,cfst:=h.cfst,cful:=h.cful,cval:=h.cval,cnt:=h.cnt }
theorem Gl.size(h:Gl m g):Gl (bz m .msize 2) g:=
 { h with
  fw:=h.fw,fch:=h.fch,sa:=h.sa,iX:=h.iX,lwrd:=h.lwrd,lded:=h.lded,lmrk:=h.lmrk,lkey:=h.lkey,l1:=h.l1,b0:=h.b0,b1:=h.b1
  msz:=.inr (bU _ _ _)
  tpw:=h.tpw,sch:=h.sch,snx:=h.snx,chd:=h.chd,qS:=h.qS,cch:=h.cch,cfst:=h.cfst,cful:=h.cful,cval:=h.cval,cnt:=h.cnt }
theorem tq(h:Gl m g)(a:x∈g.sg):1<=x/\x<=40:=h.rng x (by rw[(h.cmem x).1 a];simp)
theorem Gl.tail(h:Gl m g){w:Int}(a:x∈g.sg):Gl (bz m .tail (dC w x)) g:=
 { h with
  fw:=h.fw,fch:=h.fch,sa:=h.sa,iX:=h.iX,lwrd:=h.lwrd,lded:=h.lded,lmrk:=h.lmrk,lkey:=h.lkey,l1:=h.l1,b0:=h.b0,b1:=h.b1,msz:=h.msz
  tpw:=h.tpw,sch:=h.sch,snx:=h.snx,chd:=h.chd
  qS:=by
   have:=tq h a;obtain⟨c,b⟩:=Ah w (x:=x) M this.2;exact⟨x,c,a,by rw[bU];exact b⟩
  cch:=h.cch,cfst:=h.cfst,cful:=h.cful,cval:=h.cval,cnt:=h.cnt }
theorem Env.plain{c:Loc}(b:∀x i,c≠ .nd x i)(a:c≠ .free):Env s m g (bz m c v) g:=by
 have k:∀x i,bz m c v (.nd x i)=m (.nd x i):=λx i=>eV m v (λe=>b x i e.symm);refine⟨λn h=>⟨h,k n 1,k n 2⟩,λn _ _=>k n 0,λn h=>⟨h,k n 0,k n 1⟩,λn h=>⟨h,λ_=>k n 0,λi _ _=>by rw[k n i];exact λ_=>.inl Z⟩,λn t h _=>⟨h,λi=>k n i⟩,λ_ _ h _=>h,aq _,oU _,λ_=>⟨eV m v (λe=>a e.symm),Z,λn _=>k n 7⟩,λ_ _=>Z⟩
def Gh.eff(g:Gh):Gh:={ g with n:=g.n+1 }
def Gh.app(g:Gh)(n:Int):Gh:={ g with sg:=g.sg++[n],st:=dO g.st n .sg,n:=g.n+1 }
theorem dY(m:Sm)(p j v:Int)(a:x≠p\/i≠j):bz m (.nd p j) v (.nd x i)=m (.nd x i):=eV m _ (by
  intro e;injection e with c b;rcases a with a|a
  ·exact a c
  exact a b)
theorem Ml(e:1<=i)(h:i<=5)(f:v≠0)(d:m (.nd n i)≠1/\v=1/\m (.nd n i)≠0\/m (.nd n i)=0/\v≠1):mV (bz m (.nd n i) v) n=mV m n+1:=by
 have hi:i=1\/i=2\/i=3\/i=4\/i=5:=M;rcases hi with rfl|rfl|rfl|rfl|rfl<;>rcases d with⟨a,b,c⟩|⟨a,b⟩<;>
  (unfold mV nzP rcP;simp[bz, *];omega)
theorem Kg{l:List Int}(hd:l.Nodup)(c:n∈l)(u:1<=i)(k:i<=5)(f:v≠0)(h:m (.nd n i)≠1/\v=1/\m (.nd n i)≠0\/m (.nd n i)=0/\v≠1):fJ (bz m (.nd n i) v) l=fJ m l+1:=by
 induction l with
 | nil=>simp at c
 | cons a r t=>
  have d:=cS.1 hd;unfold fJ at *;rw[s8,s8,List.sum_cons,List.sum_cons];by_cases e:a=n
  ·subst e;have:r.map (mV (bz m (.nd a i) v))=r.map (mV m):=List.map_congr_left λy o=>rb λj _ _=>dY m a i v (.inl (by rintro rfl;exact d.1 o));rw[this,Ml u k f h];omega
  have q:n∈r:=by
   rcases aL.1 c with b|b
   ·exact absurd b.symm e
   exact b
  rw[t d.2 q,rb λj _ _=>dY m n i v (.inl e)];omega
theorem Gl.place(h:Gl m g)(A:g.st n= .sg)(D:1<=i)(I:i<=5)(S:1<=v/\v<=4294967297)(C:m (.nd n i)≠1/\v=1/\m (.nd n i)≠0\/m (.nd n i)=0/\v≠1):Gl (bz m (.nd n i) v) g.eff:=by
 have q:=(h.cmem n).2 A;have u:∀y j,(g.st y).isL=O->bz m (.nd n i) v (.nd y j)=m (.nd y j):=λy j c=>dY m n i v (.inl (by rintro rfl;rw[A]at c;simp[Pl.isL]at c));have M:∀y j,(g.st y).isS=O->bz m (.nd n i) v (.nd y j)=m (.nd y j):=λy j c=>dY m n i v (.inl (by rintro rfl;rw[A]at c;simp[Pl.isS]at c));have f:∀y,bz m (.nd n i) v (.nd y 0)=m (.nd y 0):=λy=>dY m n i v (.inr zO);have E:∀y,bz m (.nd n i) v (.nd y 7)=m (.nd y 7):=λy=>dY m n i v (.inr zO);have k:∀y,(g.st y).isL=O->bT (bz m (.nd n i) v) y=bT m y:=λy c=>u y 1 c;have o:∀y∈g.ls,(g.st y).isL=O:=λy c=>AN ((h.iu y).1 c);have J:(g.st 1).isL=O:=by obtain⟨r,K⟩:=h.lhd;exact o 1 (by rw[K];simp)
 refine
 { rng:=h.rng,fw:=h.fw,fch:=?_,fmem:=h.fmem,fnd:=h.fnd,ftk:=h.ftk,fcb:=h.fcb,lhd:=h.lhd,sa:=?_,iu:=h.iu,iX:=?_,lwrd:=?_,lded:=?_,lmrk:=?_,lkey:=?_,l1:=?_,b0:=h.b0,b1:=?_,msz:=h.msz,tpw:=h.tpw,sch:=?_,smem:=h.smem,snd:=h.snd,snx:=?_,chd:=h.chd,c2:=h.c2,qS:=h.qS,cch:=?_,cmem:=h.cmem,cnd:=h.cnd,cfst:=?_,cful:=?_,cval:=?_,dmem:=h.dmem,dnd:=h.dnd,dlen:=h.dlen,cnt:=?_ }
 ·exact h.fch.congr λy _=>E y
 ·exact h.sa.congr λy _=>by show idxOf _=idxOf _;rw[f]
 ·exact Ch (λy c=>k y (o y c)) h.iX
 ·intro y c;obtain⟨z,H,B,G,F⟩:=h.lwrd y c;exact⟨z,H,B,by rw[f];exact G,F.imp_right λ⟨a,b⟩=>⟨a,by rw[k y c,k z a];exact b⟩⟩
 ·intro y t c;rw[f];exact h.lded y t c
 ·intro y c q;rw[f]at q;rw[k y c];exact h.lmrk y c q
 ·intro y c;rw[k y c];exact h.lkey y c
 ·rw[k 1 J];exact h.l1
 ·exact h.b1.imp_right λ⟨d,a,b,e⟩=>⟨d,a,by rw[k d a];exact b,e⟩
 ·exact h.sch.congr λy _=>f y
 ·intro y c;rw[f];exact h.snx y c
 ·exact h.cch.congr λy _=>f y
 ·intro y c l;by_cases e:y=n/\(1:Int)=i
  ·rw[e.1,e.2,bU];omega
  rw[dY m n i v zO];exact h.cfst y c l
 ·intro y c l j w x;rw[f]at l;by_cases e:y=n/\j=i
  ·rw[e.1,e.2,bU];omega
  rw[dY m n i v zO];exact h.cful y c l j w x
 ·intro y c j w x;by_cases e:y=n/\j=i
  ·rw[e.1,e.2,bU];omega
  rw[dY m n i v zO];exact h.cval y c j w x
 have N:=h.cnt;have L:=nZ (m:=m) (m':=bz m (.nd n i) v) λy c=>u y 1 (o y c);have P:=rp (m:=m) (m':=bz m (.nd n i) v) λy c=>u y 0 (o y c);have Q:=Kg (m:=m) h.cnd q D I zO C;show oa _ g.ls+g.dl+(ny _ g.ls+g.dl)+(g.sk.length+g.ds)+g.ds+fJ _ g.sg<=g.n+1;omega
theorem Env.place(c:g.st n= .sg)(f:1<=i)(d:i<=5)(b:m (.nd n i)≠0->v=1):Env s m g (bz m (.nd n i) v) g.eff:=by
 have nq:∀y j,g.st y≠ .sg->bz m (.nd n i) v (.nd y j)=m (.nd y j):=λy j a=>dY m n i v (.inl (by rintro rfl;exact a c));have L:∀y,(g.st y).isL=O->g.st y≠ .sg:=λy a e=>by rw[e]at a;simp[Pl.isL]at a
 have S:∀y,(g.st y).isS=O->g.st y≠ .sg:=λy a e=>by rw[e]at a;simp[Pl.isS]at a
 refine⟨λy a=>⟨a,nq y 1 (L y a),nq y 2 (L y a)⟩,λy a _=>nq y 0 (L y a),λy a=>⟨a,nq y 0 (S y a),nq y 1 (S y a)⟩,λy a=>⟨a,λ_=>dY m n i v (.inr M),λj k l=>?_⟩,λy t a _=>⟨a,λj=>nq y j (by rw[a];simp)⟩,λ_ _ h _=>h,aq _,oU _,λ_=>⟨Z,Z,λy _=>dY m n i v (.inr M)⟩,λ_ _=>Z⟩;by_cases e:y=n/\j=i
 ·rw[e.1,e.2,bU];exact λh=>.inr (b h)
 rw[dY m n i v M];exact λ_=>.inl Z
theorem xI:∀ {l:List Int} {x:Int},Chn f l->l.Nodup->(∀y∈l,y≠0)->x∈l->f x=0->∃r,l=r++[x]
 | [],x,_,_,_,h,_=>by simp at h
 | [a],x,_,_,_,h,_=>by simp at h;subst h;exact⟨[],Z⟩
 | a :: b :: r,x,hc,hd,h0,c,hz=>by
  rcases aL.1 c with c|c
  ·subst c;rw[hc.1]at hz;exact absurd hz (h0 b zS)
  obtain⟨t,e⟩:=xI (l:=b :: r) hc.2 (cS.1 hd).2 (λy d=>h0 y (cM _ d)) c hz;exact⟨a :: t,by rw[e];rfl⟩
theorem Dj{b:Int->Int}:∀ {r:List Int},Chn f (r++[x])->(r++[x]).Nodup->b x=n->b n=0->(∀y∈r++[x],y≠x->b y=f y)->Chn b (r++[x]++[n])
 | [],_,_,h1,h2,_=>⟨h1,h2⟩
 | a :: r,hc,hd,h1,h2,h3=>by
  have c:=cS.1 hd;have e:=Dj (r:=r) hc.tail c.2 h1 h2 (λy d=>h3 y (cM _ d));refine Chn.cons e ((h3 a zS (by rintro rfl;exact c.1 zS)).trans (hc.head.trans ?_));cases r<;>rfl
theorem Gl.app(h:Gl m g)(E:g.st x= .sg)(hz:m (.nd x 0)=0)(hf:∀i,1<=i->i<=5->m (.nd x i)≠0)(D:g.st n= .ow s)(S:m (.nd n 0)=0)(L:m (.nd n 1)=v)(hv:2<=v/\v<=4294967297)(G:∀i,2<=i->i<=5->m (.nd n i)=0):
  Gl (bz m (.nd x 0) n) (g.app n):=by
 have hr:=h.rng n (by rw[D];simp);have hxm:=(h.cmem x).2 E;have Y:n∉g.sg:=λqb=>by have:=(h.cmem n).1 qb;rw[D]at this;simp at this
 have N:n≠x:=by rintro rfl;rw[D]at E;simp at E
 have k:(g.app n).st=dO g.st n .sg:=Z;have A:(g.app n).sg=g.sg++[n]:=Z;have o:∀y j,(y≠x\/j≠0)->bz m (.nd x 0) n (.nd y j)=m (.nd y j):=λy j f=>dY m x 0 n f;have B:∀y j,(g.st y).isL=O->bz m (.nd x 0) n (.nd y j)=m (.nd y j):=λy j f=>o y j (.inl (by rintro rfl;rw[E]at f;simp[Pl.isL]at f));have R:∀y j,(g.st y).isS=O->bz m (.nd x 0) n (.nd y j)=m (.nd y j):=λy j f=>o y j (.inl (by rintro rfl;rw[E]at f;simp[Pl.isS]at f));have w:∀y,bT (bz m (.nd x 0) n) y=bT m y:=λy=>o y 1 (.inr zD);have F:∀y,(dO g.st n .sg y).isL=(g.st y).isL:=by
  intro y;by_cases e:y=n
  ·rw[e,bn,D];rfl
  rw[br _ _ e]
 have Q:∀y,(dO g.st n .sg y).isS=(g.st y).isS:=by
  intro y;by_cases e:y=n
  ·rw[e,bn,D];rfl
  rw[br _ _ e]
 have C:∀y q,q≠ .sg->q≠ .ow s->((dO g.st n .sg y=q) ↔ g.st y=q):=by
  intro y q J u;by_cases e:y=n
  ·rw[e,bn,D];exact⟨λe=>absurd e.symm J,λe=>absurd e.symm u⟩
  rw[br _ _ e]
 have K:∀y∈g.ls,(g.st y).isL=O:=λy f=>AN ((h.iu y).1 f);obtain⟨W,hr2⟩:=h.c2;refine
 { rng:=?_,fw:=h.fw,fch:=?_,fmem:=?_,fnd:=h.fnd,ftk:=h.ftk,fcb:=h.fcb,lhd:=h.lhd,sa:=?_,iu:=?_,iX:=?_,lwrd:=?_,lded:=?_,lmrk:=?_,lkey:=?_,l1:=?_,b0:=h.b0,b1:=?_,msz:=h.msz,tpw:=h.tpw,sch:=?_,smem:=?_,snd:=h.snd,snx:=?_,chd:=h.chd,c2:=?_,qS:=?_,cch:=?_,cmem:=?_,cnd:=?_,cfst:=?_,cful:=?_,cval:=?_,dmem:=?_,dnd:=h.dnd,dlen:=h.dlen,cnt:=?_ }
 ·intro y f;rw[k]at f;by_cases e:y=n
  ·rw[e];exact hr
  rw[br _ _ e]at f;exact h.rng y f
 ·exact h.fch.congr λy _=>o y 7 (.inr zD)
 ·intro y;rw[k,C y .fr zS zS];exact h.fmem y
 ·exact h.sa.congr λy f=>by show idxOf _=idxOf _;rw[B y 0 (K y f)]
 ·intro y;rw[k,C y .li zS zS];exact h.iu y
 ·exact h.iX.imp λ{a b} hab=>by rw[w,w];exact hab
 ·intro y f;rw[k,F]at f;obtain⟨z,z0,qc,hz',hzz⟩:=h.lwrd y f;exact⟨z,z0,qc,by rw[B y 0 f];exact hz',hzz.imp_right λ⟨a,b⟩=>⟨by rw[k,F];exact a,by rw[w,w];exact b⟩⟩
 ·intro y t f;rw[k,C y _ zS zS]at f;rw[B y 0 (by rw[f];rfl)];exact h.lded y t f
 ·intro y f T;rw[k,F]at f;rw[B y 0 f]at T;rw[w];exact h.lmrk y f T
 ·intro y f;rw[k,F]at f;rw[w];exact h.lkey y f
 ·rw[w];exact h.l1
 ·exact h.b1.imp_right λ⟨d,a,b,e⟩=>⟨d,by rw[k,F];exact a,by rw[w];exact b,e⟩
 ·exact h.sch.congr λy f=>R y 0 (vK ((h.smem y).1 f))
 ·intro y;rw[k,C y .sk zS zS];exact h.smem y
 ·intro y f;rw[k,Q]at f;rw[R y 0 f];exact(h.snx y f).imp_right λa=>by rw[k,Q];exact a
 ·exact⟨W++[n],by rw[A,hr2];rfl⟩
 ·obtain⟨y,c,J,u⟩:=h.qS;exact⟨y,c,by rw[A];simp[J],u⟩
 ·rw[A];obtain⟨t,ht⟩:=xI h.cch h.cnd (λy f e=>by have:=tq h f;omega) hxm hz;have P:=h.cch;have M:=h.cnd;rw[ht]at P M ⊢;exact Dj P M (bU _ _ _) ((o n 0 (.inl N)).trans S) (λy _ f=>o y 0 (.inl f))
 ·intro y;rw[A,k];by_cases e:y=n
  ·rw[e,bn];simp
  rw[br _ _ e,<- h.cmem y];simp[e]
 ·rw[A];refine List.nodup_append.2 ⟨h.cnd,zS,?_⟩;intro a qa b U e;rw[bH]at U;rw[e,U]at qa;exact Y qa
 ·intro y f u;rw[o y 1 (.inr zD)];rw[A]at f;rcases cy.1 f with f|f
  ·exact h.cfst y f u
  rw[bH.1 f,L];omega
 ·intro y f u j I H;rw[o y j (.inr zO)];rw[A]at f;rcases cy.1 f with f|f
  ·by_cases e:y=x
   ·rw[e];exact hf j I H
   rw[o y 0 (.inl e)]at u;exact h.cful y f u j I H
  rw[bH.1 f,o n 0 (.inl N)]at u;exact absurd S u
 ·intro y f j I H;rw[o y j (.inr zO)];rw[A]at f;rcases cy.1 f with f|f
  ·exact h.cval y f j I H
  rw[bH.1 f];by_cases e:j=1
  ·rw[e,L];omega
  rw[G j zO H];omega
 ·intro t y;rw[k,C y _ zS zS,C y _ zS zS];exact h.dmem t y
 have hcnt:=h.cnt;have e1:=nZ (m:=m) (m':=bz m (.nd x 0) n) (l:=g.ls) λy f=>B y 1 (K y f);have e2:=rp (m:=m) (m':=bz m (.nd x 0) n) (l:=g.ls) λy f=>B y 0 (K y f);have e3:=kz (m:=m) (m':=bz m (.nd x 0) n) (l:=g.sg++[n]) λy f i hi _=>o y i (.inr zO);have e4:fJ m (g.sg++[n])=fJ m g.sg+1:=by
  unfold fJ;rw[List.map_append,List.sum_append];have:mV m n=1:=by
   unfold mV nzP rcP;rw[L,G 2 zO zO,G 3 zO zO,G 4 zO zO,G 5 zO zO];have X:v≠0:=zO;have v1:v≠1:=zO;simp[X,v1]
  simp[this]
 show oa _ g.ls+g.dl+(ny _ g.ls+g.dl)+(g.sk.length+g.ds)+g.ds+fJ _ (g.sg++[n])<=g.n+1;omega
theorem Env.app(d:g.st x= .sg)(u:m (.nd x 0)=0)(f:g.st n= .ow s):Env s m g (bz m (.nd x 0) n) (g.app n):=by
 have b:∀y j,(y≠x\/j≠0)->bz m (.nd x 0) n (.nd y j)=m (.nd y j):=λy j a=>dY m x 0 n a;have c:(g.app n).st=dO g.st n .sg:=Z;have k:∀y q,g.st y=q->q≠ .ow s->y≠n:=λy q a l e=>l (by rw[<- a,e,f]);refine⟨λy a=>⟨?_,b y 1 (.inr zD),b y 2 (.inr zD)⟩,λy a _=>b y 0 (.inl ?_),λy a=>⟨?_,b y 0 (.inl ?_),b y 1 (.inr zD)⟩,λy a=>⟨?_,λo=>b y 0 (.inl ?_),λi hi _=>?_⟩,λy t a h=>⟨?_,λi=>b y i (.inl ?_)⟩,λy t a h=>?_,aq _,oU _,λ_=>⟨Z,Z,λy _=>b y 7 (.inr zD)⟩,λ_ _=>Z⟩
 ·rw[c,br _ _ (by rintro rfl;rw[f]at a;cases a)];exact a
 ·rintro rfl;rw[d]at a;cases a
 ·rw[c,br _ _ (by rintro rfl;rw[f]at a;cases a)];exact a
 ·rintro rfl;rw[d]at a;cases a
 ·rw[c,br _ _ (k y _ a zS)];exact a
 ·rintro rfl;exact o u
 ·rw[b y i (.inr M)];exact λ_=>.inl Z
 ·rw[c,br _ _ (k y _ a (by intro e;injection e with e;exact h e))];exact a
 ·rintro rfl;rw[d]at a;cases a
 rw[c]at a;by_cases e:y=n
 ·rw[e,bn]at a;cases a
 rw[br _ _ e]at a;exact a
end
end
section
variable {c:Loc} {a b o0:Int} {x:Sub} {z:Pz} {p0:List Int} {p:Pl}
def Gd(g:Gh):Loc->Prop
 | .nd x i=>i=0/\(g.st x).isL=O
 | .top | .tail | .head=>True
 | _=>False
def Rd(m:Sm)(g:Gh):Loc->Int->Prop
 | .nd x _,v=>∃y,0<=y/\y<=40/\(v=aV y\/v=eQ y/\m (.nd x 0)=v)/\(y=0\/(g.st y).isL=O/\bT m x<bT m y)
 | .top,v=>idxOf v=0\/(g.st (idxOf v)).isS=O
 | .tail,v=>g.st (idxOf v)= .sg
 | .head,v=>g.st (idxOf v)= .sg
 | _,_=>True
def I3(m:Sm)(g:Gh)(a:Int):Prop:=1<=idxOf a/\idxOf a<=40/\kH a<=g.fc/\(kH a=g.fc->m .free=a)
def jB(s:Nat)(m:Sm)(g:Gh):Sub->Prop
 | .g1 i c=>i<3/\Gd g c
 | .g2 i c v=>i<3/\Gd g c/\Rd m g c v
 | .g3 i c _=>i<3/\Gd g c
 | .t1=>True
 | .t2 a=>I3 m g a
 | .t3 a b=>I3 m g a/\(kH a=g.fc->b=m (.nd (idxOf a) 7))
 | .t4 n _=>g.st n= .ow s
 | .t5 n _ _=>g.st n= .ow s
 | .v1 n=>g.st n= .ow s
 | .v2 n _=>g.st n= .ow s
 | .v3 n a=>g.st n= .ow s/\m (.nd n 7)=idxOf a
 | .cl i=>i<3
 | .r1 n=>n∈g.dd s
 | .r2 n _=>n∈g.dd s
inductive Cls where
 | G (c:Loc) | T | V | C | R
def Sub.cls:Sub->Cls
 | .g1 _ c | .g2 _ c _ | .g3 _ c _=>.G c
 | .t1 | .t2 _ | .t3 _ _ | .t4 _ _ | .t5 _ _ _=>.T
 | .v1 _ | .v2 _ _ | .v3 _ _=>.V
 | .cl _=>.C
 | .r1 _ | .r2 _ _=>.R
def Sub.own:Sub->Int
 | .t4 n _ | .t5 n _ _ | .v1 n | .v2 n _ | .v3 n _=>n
 | _=>0
def Sub.cu:Sub->List Int
 | .r1 n | .r2 n _=>[n]
 | _=>[]
def Sub.tk:Sub->Nat
 | .t4 _ _ | .t5 _ _ _=>1
 | _=>0
def Ret.own:Ret->Int
 | .tk n _ _=>n
 | _=>0
def Ret.tkn:Ret->Nat
 | .tk _ _ _=>1
 | _=>0
def jg(s:Nat)(m:Sm)(g:Gh):Cls->Ret->Prop
 | .G c,.gd v _=>Gd g c/\Rd m g c v
 | .T,.tk n _ ok=>ok=O/\g.st n= .ow s
 | .V,.un | .C,.un | .R,.un=>True
 | _,_=>False
def ey(g:Gh)(s:Nat)(a b:Int):Prop:=∀y,g.st y= .ow s ↔ y≠0/\(y=a\/y=b)
def IX(s:Nat)(m:Sm)(g:Gh)(k:Cls)(o0:Int)(p0:List Int):SX->Prop
 | .go x z=>x.cls=k/\jB s m g x/\z.eras.length=3/\ey g s x.own o0/\g.dd s=z.gone.map (·.1)++(x.cu++p0)
 | .ret r z=>jg s m g k r/\z.eras.length=3/\ey g s r.own o0/\g.dd s=z.gone.map (·.1)++p0
 | .stuck=>False
def Sub.gst(s:Nat)(g:Gh):Sub->Int × Bool->Gh
 | .t3 _ _,r=>if r.2 then g.take s else g
 | .v3 n _,r=>if r.2 then g.oh n else g
 | _,_=>g
def SX.tk:SX->Nat
 | .go x _=>x.tk
 | .ret r _=>r.tkn
 | .stuck=>0
section
variable {m m':Sm} {g g':Gh} {s t:Nat}
theorem Gd.env(e:Env s m g m' g')(h:Gd g c):Gd g' c:=by
 cases c with
 | nd x i=>exact⟨h.1,(e.isL x h.2).1⟩
 | _=>exact h
theorem gV(e:Env s m g m' g'){x:Int}(h:(g.st x).isL=O):bT m' x=bT m x:=(e.isL x h).2.1
theorem Rd.env(e:Env s m g m' g'){v:Int}(l:Gd g c)(h:Rd m g c v):Rd m' g' c v:=by
 cases c with
 | nd x i=>
  obtain⟨y,j,n,f,k⟩:=h;have d:=l.2;refine⟨y,j,n,f.imp_right λ⟨a,b⟩=>⟨a,?_⟩,k.imp_right λ⟨a,b⟩=>⟨(e.isL y a).1,?_⟩⟩
  ·rw[e.mrk x d (by rw[b,a];exact gu y)];exact b
  rw[gV e d,gV e a];exact b
 | top=>exact Or.imp_right (λa=>(e.isS _ a).1) h
 | tail=>exact(e.isC _ h).1
 | head=>exact(e.isC _ h).1
 | _=>exact h
theorem I3.env(e:Env s m g m' g'){fr:Int}(h:I3 m g fr):I3 m' g' fr:=by
 obtain⟨c,a,f,b⟩:=h;have:=e.fcl;refine⟨c,a,M,λi=>?_⟩;have d:g'.fc=g.fc:=M;rw[(e.fce d).1];exact b M
theorem Of(h:Gl m g)(d:I3 m g a)(e:kH a=g.fc):∃r,g.fl=idxOf a :: r:=by
 have f:=d.2.2.2 e;have hd:=pZ h;have b:idxOf a=g.fl.headD 0:=by rw[<- f,h.fw];exact gw _ _ _ hd.1 M
 cases c:g.fl with
 | nil=>rw[c]at b;simp at b;have:=d.1;omega
 | cons x r=>rw[c]at b;exact⟨r,by rw[b];rfl⟩
theorem jB.env(h:Gl m g)(e:Env s m g m' g')(d:t≠s)(a:jB t m g x):jB t m' g' x:=by
 cases x with
 | g1 i c=>exact⟨a.1,a.2.env e⟩
 | g2 i c v=>exact⟨a.1,a.2.1.env e,a.2.2.env e a.2.1⟩
 | g3 i c v=>exact⟨a.1,a.2.env e⟩
 | t1=>trivial
 | t2 f=>exact I3.env e a
 | t3 f u=>
  refine⟨a.1.env e,λq=>?_⟩;have:=e.fcl;have o:=a.1.2.2.1;have l:g'.fc=g.fc:=M;have j:kH f=g.fc:=M;obtain⟨r,k⟩:=Of h a.1 j;rw[(e.fce l).2.2 (idxOf f) (by rw[k];simp)];exact a.2 j
 | t4 n p=>exact(e.own n t a d).1
 | t5 n b p=>exact(e.own n t a d).1
 | v1 n=>exact(e.own n t a d).1
 | v2 n f=>exact(e.own n t a d).1
 | v3 n f=>exact⟨(e.own n t a.1 d).1,by rw[(e.own n t a.1 d).2];exact a.2⟩
 | cl i=>exact a
 | r1 n=>show n∈g'.dd t;rw[e.ddo t d];exact a
 | r2 n v=>show n∈g'.dd t;rw[e.ddo t d];exact a
theorem ey.env(e:Env s m g m' g')(d:t≠s)(h:ey g t a b):ey g' t a b:=
 λy=>⟨λc=>(h y).1 (e.got y t c d),λc=>(e.own y t ((h y).2 c) d).1⟩
theorem MH(h:Gl m g)(b:Gd g c):Rd m g c (m c):=by
 cases c with
 | nd x i=>
  obtain⟨rfl,d⟩:=b;obtain⟨y,f,l,e,k⟩:=h.lwrd x d;exact⟨y,f,l,e.imp_right λa=>⟨a,Z⟩,k⟩
 | top=>
  show idxOf (m .top)=0\/(g.st (idxOf (m .top))).isS=O;rw[pY h];rcases skD h with⟨a,_⟩|⟨a,_⟩
  ·exact .inl a
  exact .inr (by rw[a];rfl)
 | tail=>
  obtain⟨x,c,d,b⟩:=h.qS;have:=tq h d;show g.st (idxOf (m .tail))= .sg;rw[b,gw x X c M M];exact(h.cmem x).1 d
 | head=>
  obtain⟨c,b⟩:=h.chd;obtain⟨r,j⟩:=h.c2;show g.st (idxOf (m .head))= .sg;rw[b,gw 2 X c M M];exact(h.cmem 2).1 (by rw[j];simp)
 | _=>exact absurd b (by simp[Gd])
theorem qp{k:Cls}(e:k= .C)(b:z.eras.length=3)(ho:ey g s 0 o0)(hd:g.dd s=z.gone.map (·.1)++p0)(i:Nat):IX s m g k o0 p0 (df z i):=by
 subst e;have c:∀f i j,qN z.eras f i=J j->f+i<=3->j<3:=by
  intro f;induction f with
  | zero=>intro i j a;cases a
  | succ f d=>
   intro i j a hi;unfold qN at a;split at a
   ·injection a with a;omega
   exact d (i+1) j a M
 unfold df;cases a:qN z.eras (3-i) i with
 | none=>exact⟨trivial,b,ho,hd⟩
 | some j=>
  have:j<3:=by
   by_cases hi:i<=3
   ·exact c _ _ _ a M
   rw[show 3-i=0 by omega]at a;cases a
  exact⟨Z,this,b,ho,by simpa[Sub.cu] using hd⟩
theorem Jb{l:List Int}(h:l.length=3)(i:Nat)(v:Int):(l.set i v).length=3:=by simp[h]
def mz(g:Gh):Loc->Prop
 | .nd n i=>1<=n/\n<=40/\0<=i/\i<8/\(i≠7->g.st n≠ .fr)
 | .resv _ i=>0<=i/\i<3
 | .bucket b=>b=0\/b=1
 | _=>True
theorem Iq(h:p.isL=O):p≠ .fr:=by rintro rfl;cases h
theorem Nv(h:p.isS=O):p≠ .fr:=by rintro rfl;cases h
theorem gd_loc(h:Gl m g)(a:Gd g c):mz g c:=by
 cases c with
 | nd x i=>
  have:=fX h a.2;exact⟨this.1,this.2,by rw[a.1];decide,by rw[a.1];decide,λ_=>Iq a.2⟩
 | top=>trivial
 | tail=>trivial
 | head=>trivial
 | _=>exact absurd a (by simp[Gd])
theorem mN(h:Gl m g){n i:Int}(a:g.st n= .ow s)(c:0<=i)(b:i<8):mz g (.nd n i):=by
 have:=h.rng n (by rw[a];simp);exact⟨this.1,this.2,c,b,λ_=>by rw[a];simp⟩
theorem Sub.nA(h:Gl m g)(a:jB s m g x):mz g (x.acc s).c:=by
 cases x with
 | g1 i c=>exact gd_loc h a.2
 | g2 i c v=>trivial
 | g3 i c v=>have:=a.1;exact⟨M,M⟩
 | t2 d=>exact⟨a.1,a.2.1,zD,zD,λe=>absurd Z e⟩
 | t5 n b p=>exact mN h a zD zD
 | v2 n d=>exact mN h a zD zD
 | cl i=>have:i<3:=a;exact⟨M,M⟩
 | _=>trivial
theorem KE(h:a=b):a<=b:=M
theorem Sub.step(h:Gl m g){th:Int}(hx:jB s m g x)(hz:z.eras.length=3)(ho:ey g s x.own o0)(hd:g.dd s=z.gone.map (·.1)++(x.cu++p0))(hc:g.fc+1<268435456)(ht:g.tk<=37)(hV:x.cls= .V->o0=0)(rr:((g.dd s).length:Int)<th):
  Gl ((x.acc s).mem m) (x.gst s g ((x.acc s).res m))/\Env s m g ((x.acc s).mem m) (x.gst s g ((x.acc s).res m))/\
  IX s ((x.acc s).mem m) (x.gst s g ((x.acc s).res m)) x.cls o0 p0 (x.stp th z ((x.acc s).res m))/\(x.gst s g ((x.acc s).res m)).tk+x.tk<=g.tk+(x.stp th z ((x.acc s).res m)).tk/\(x.gst s g ((x.acc s).res m)).n=g.n:=by
 cases x with
 | g1 i c=>
  rw[a8 Z];refine⟨h,Env.refl s m g,⟨Z,⟨hx.1,hx.2,?_⟩,hz,ho,hd⟩,aq _,Z⟩;rw[dv];exact MH h hx.2
 | g2 i c v=>
  rw[a8 Z];refine⟨h,Env.refl s m g,?_,?_,Z⟩
  ·show IX _ _ _ _ _ _ (if _ then _ else _);split
   ·exact⟨⟨hx.2.1,hx.2.2⟩,hz,ho,hd⟩
   exact⟨Z,⟨hx.1,hx.2.1⟩,hz,ho,hd⟩
  exact dT _ _
 | g3 i c e=>
  rw[bF Z];exact⟨h.bq (s:=s) (c:=.resv s i) trivial e,Env.bq h (c:=.resv s i) trivial e,⟨Z,hx,Jb hz i e,ho,hd⟩,aq _,Z⟩
 | t1=>
  rw[a8 Z];have CT:=pZ h;have qQ:g.fl.headD 0≠0:=by
   have:=h.ftk;cases hf:g.fl with
   | nil=>rw[hf]at this;simp at this;omega
   | cons y r=>have:=(h.fmem y).1 (by rw[hf];simp);simp;omega
  have hi:idxOf (m .free)=g.fl.headD 0:=by rw[h.fw];exact gw _ _ _ CT.1 M
  have hcn:kH (m .free)=g.fc:=by rw[h.fw];exact xG _ _ _ M M
  have e1:Sub.stp th z .t1 ((Sub.t1.acc s).res m)= .go (.t2 (m .free)) z.got:=by
   show (if idxOf ((Sub.t1.acc s).res m).1=0 then _ else _)=_;rw[dv];exact if_neg (by show idxOf (m .free)≠0;rw[hi];exact qQ)
  rw[e1];exact⟨h,Env.refl s m g,⟨Z,⟨M,M,KE hcn,λ_=>Z⟩,hz,ho,hd⟩,aq _,Z⟩
 | t2 fr=>
  rw[a8 Z];exact⟨h,Env.refl s m g,⟨Z,⟨hx,λ_=>dv _ _⟩,hz,ho,hd⟩,aq _,Z⟩
 | t3 fr lk=>
  cases hr:((Sub.t3 fr lk).acc s |>.res m).2 with
  | false=>
   rw[bx Z hr];have e1:Sub.gst s g (.t3 fr lk) (((Sub.t3 fr lk).acc s).res m)=g:=by simp[Sub.gst,hr]
   have e2:Sub.stp th z (.t3 fr lk) (((Sub.t3 fr lk).acc s).res m)= .go .t1 z.got:=by simp[Sub.stp,hr]
   rw[e1,e2];exact⟨h,Env.refl s m g,⟨Z,trivial,hz,ho,hd⟩,aq _,Z⟩
  | true=>
   obtain⟨hm,hw⟩:=bP (a:=(Sub.t3 fr lk).acc s) Z hr;have hm:m .free=fr:=hm;rw[hw];have e1:Sub.gst s g (.t3 fr lk) (((Sub.t3 fr lk).acc s).res m)=g.take s:=by simp[Sub.gst,hr]
   have e2:Sub.stp th z (.t3 fr lk) (((Sub.t3 fr lk).acc s).res m)= .go (.t4 (idxOf fr) z.made) z.got:=by simp[Sub.stp,hr]
   rw[e1,e2];have hcn:kH fr=g.fc:=by rw[<- hm,h.fw];exact xG _ _ _ M M
   obtain⟨r,hfl⟩:=Of h hx.1 hcn;have qR:=hx.2 hcn;have g1:=h.take (s:=s) hfl hc;rw[hm,<- qR]at g1;have est:(g.take s).st=dO g.st (idxOf fr) (.ow s):=by simp[Gh.take,hfl]
   have hfr:=((h.fmem (idxOf fr)).1 (by rw[hfl];simp)).2.2;refine⟨g1,Env.take h hfl _,⟨Z,?_,hz,?_,hd⟩,?_,Z⟩
   ·show (g.take s).st (idxOf fr)= .ow s;rw[est,bn]
   ·intro y;have h1:=hx.1.1;have hoy:=ho y;show (g.take s).st y= .ow s ↔ y≠0/\(y=idxOf fr\/y=o0);rw[est];by_cases e:y=idxOf fr
    ·rw[e,bn];simp;omega
    rw[br _ _ e,hoy];show _/\(y=0\/y=o0) ↔ _;simp[e];omega
   show (g.take s).tk+0<=g.tk+1;simp[Gh.take]
 | t4 n p=>
  rw[a8 Z];exact⟨h,Env.refl s m g,⟨Z,hx,hz,ho,hd⟩,aq _,Z⟩
 | t5 n b p=>
  rw[bF Z];exact⟨h.bq (s:=s) (c:=.nd n 6) hx b,Env.bq h (c:=.nd n 6) hx b,⟨⟨Z,hx⟩,hz,ho,hd⟩,aq _,Z⟩
 | v1 n=>
  rw[a8 Z];exact⟨h,Env.refl s m g,⟨Z,hx,hz,ho,hd⟩,aq _,Z⟩
 | v2 n fr=>
  rw[bF Z];exact⟨h.bq (s:=s) (c:=.nd n 7) hx _,Env.bq h (c:=.nd n 7) hx _,⟨Z,⟨hx,bU _ _ _⟩,hz,ho,hd⟩,aq _,Z⟩
 | v3 n fr=>
  cases hr:((Sub.v3 n fr).acc s |>.res m).2 with
  | false=>
   rw[bx Z hr];have e1:Sub.gst s g (.v3 n fr) (((Sub.v3 n fr).acc s).res m)=g:=by simp[Sub.gst,hr]
   have e2:Sub.stp th z (.v3 n fr) (((Sub.v3 n fr).acc s).res m)= .go (.v1 n) z.got:=by simp[Sub.stp,hr]
   rw[e1,e2];exact⟨h,Env.refl s m g,⟨Z,hx.1,hz,ho,hd⟩,aq _,Z⟩
  | true=>
   obtain⟨hm,hw⟩:=bP (a:=(Sub.v3 n fr).acc s) Z hr;have hm:m .free=fr:=hm;rw[hw];have e1:Sub.gst s g (.v3 n fr) (((Sub.v3 n fr).acc s).res m)=g.oh n:=by simp[Sub.gst,hr]
   have e2:Sub.stp th z (.v3 n fr) (((Sub.v3 n fr).acc s).res m)= .ret .un z.got:=by simp[Sub.stp,hr]
   rw[e1,e2];have g1:=h.oh (s:=s) (n:=n) hx.1 hc (by rw[hm];exact hx.2);rw[hm]at g1;refine⟨g1,Env.oh hx.1 _,⟨trivial,hz,?_,hd⟩,aq _,Z⟩;intro y;have hoy:=ho y;have h1:=h.rng n (by rw[hx.1];simp);show dO g.st n .fr y= .ow s ↔ y≠0/\(y=0\/y=o0);by_cases e:y=n
   ·rw[e,bn];have:=hV Z;simp;omega
   rw[br _ _ e,hoy];show _/\(y=n\/y=o0) ↔ _;simp[e];omega
 | cl i=>
  rw[bF Z];refine⟨h.bq (s:=s) (c:=.resv s i) trivial 0,Env.bq h (c:=.resv s i) trivial 0,?_,?_,Z⟩
  ·exact qp (z:={ z.got with eras:=z.eras.set i 0 }) Z (Jb hz i 0) ho hd _
  exact dT _ _
 | r1 n=>
  rw[a8 Z];exact⟨h,Env.refl s m g,⟨Z,hx,hz,ho,hd⟩,aq _,Z⟩
 | r2 n e=>
  rw[iR Z];have hl:(z.gone.length:Int)+1<th:=by
   rw[hd]at rr;simp[Sub.cu]at rr;omega
  have e2:Sub.stp th z (.r2 n e) (((Sub.r2 n e).acc s).res m)= .ret .un { z.got with gone:=z.gone++[(n,e)] }:=by
   show (if _ then _ else _)=_;rw[if_pos hl]
  rw[e2];refine⟨h.bq (s:=s) (c:=.era) trivial _,Env.bq h (c:=.era) trivial _,⟨trivial,hz,ho,?_⟩,aq _,Z⟩;show g.dd s=(z.gone++[(n,e)]).map (·.1)++p0;rw[hd];simp[Sub.cu]
end
end
section
variable {k:FK} {cur d n:Int} {o:dx} {x:Sub} {f:Fp}
def FK.own:FK->Int
 | .put n=>n
 | _=>0
def LK.own:LK->Int
 | .fh k | .fn k _ | .fr k _=>k.own
 | _=>0
def LK.cu:LK->List Int
 | .dc n _=>[n]
 | _=>[]
def FK.eff:FK->Nat
 | .fin _=>1
 | _=>0
def isN(b:Bool):Nat:=if b then 1 else 0
def LK.eff:LK->Nat
 | .fh k | .fn k _ | .fr k _=>k.eff
 | .out o | .clr o | .dc _ o=>isN o.is
 | .pt _ _=>0
def FK.tk:FK->Nat
 | .put n=>if n≠0 then 1 else 0
 | _=>0
def LK.tk:LK->Nat
 | .fh k | .fn k _ | .fr k _=>k.tk
 | .out _ | .clr _ | .dc _ _=>1
 | .pt _ _=>0
def LPh.own:LPh->Int × Int
 | .sub x k=>(x.own,k.own)
 | .fs k _ _ _ | .fo k _ _ _ | .fc k _ _=>(k.own,0)
 | .p1 n _ _ | .p2 n _ _ | .p0 n _ _ | .pc n _ _=>(n,0)
 | _=>(0,0)
def LPh.cu:LPh->List Int
 | .sub x k=>x.cu++k.cu
 | _=>[]
def LPh.eff:LPh->Nat
 | .sub _ k=>k.eff
 | .fs k _ _ _ | .fo k _ _ _ | .fc k _ _=>k.eff
 | .du _ _ _ _=>1
 | _=>0
def LPh.tk:LPh->Nat
 | .sub x k=>x.tk+k.tk
 | .fs k _ _ _ | .fo k _ _ _ | .fc k _ _=>k.tk
 | .p1 _ _ _ | .p2 _ _ _ | .p0 _ _ _ | .pc _ _ _=>1
 | _=>0
def LX.eff:LX->Nat
 | .go x _=>x.eff
 | .out o _=>isN o.is
 | .stuck=>0
def LX.tk:LX->Nat
 | .go x _=>x.tk
 | .out _ _=>1
 | .stuck=>0
structure mR (m:Sm) (g:Gh) (op:LOp):Prop where
 h:(g.st op.h).isL=O
 ho:bT m op.h<op.o
 hm:bT m op.h%2=0
 o0:0<=op.o
 o1:op.o<131072
 o2:op.o%2=0->op.o=65536
 hb:(g.st op.h)= .li
def kU(m:Sm)(op:LOp):FK->Prop
 | .get=>op.kind=1
 | .put n=>op.kind=2/\(n≠0->m (.nd n 1)=op.o/\m (.nd n 2)=op.v)
 | .del=>op.kind=3/\op.o%2=1
 | .fin _=>op.kind=3/\op.o%2=1
def uI(m:Sm)(g:Gh)(op:LOp)(a b:Int):Prop:=(g.st a).isL=O/\bT m a<op.o/\(b=0\/(g.st b).isL=O/\bT m a<bT m b)
def yH(m:Sm)(g:Gh)(op:LOp)(f:Fp):Prop:=f.a<3/\f.b<3/\f.c<3/\uI m g op f.prev f.cur
def qW(m:Sm)(g:Gh)(op:LOp)(b a:Int):Prop:=(g.st b).isL=O/\bT m b<op.o/\(a=0\/(g.st a).isL=O/\op.o<bT m a)
def oJ(m:Sm)(g:Gh)(op:LOp)(o:dx):Prop:=op.kind=2->(g.st o.node).isL=O/\bT m o.node=op.o
def DA(m:Sm)(g:Gh)(op:LOp)(x:Sub):LK->Prop
 | .fh k=>x.cls= .G (.nd op.h 0)/\kU m op k
 | .fn k f=>x.cls= .G (.nd f.cur 0)/\kU m op k/\yH m g op f/\f.cur≠0
 | .fr k f=>x.cls= .R/\kU m op k/\yH m g op f
 | .out o=>(x.cls= .C\/x.cls= .R)/\oJ m g op o
 | .clr o=>x.cls= .V/\oJ m g op o
 | .pt a b=>x.cls= .T/\op.kind=2/\qW m g op a b
 | .dc n o=>x.cls= .C/\oJ m g op o
def Mk(m:Sm)(n y:Int):Prop:=0<=y/\y<=40/\m (.nd n 0)=eQ y
def LOk(s:Nat)(m:Sm)(g:Gh)(op:LOp):LPh->Prop
 | .sub x k=>jB s m g x/\DA m g op x k
 | .fs k f next _=>kU m op k/\yH m g op f/\f.cur≠0/\Rd m g (.nd f.cur 0) next
 | .fo k f next _=>kU m op k/\yH m g op f/\f.cur≠0/\Rd m g (.nd f.cur 0) next
 | .fc k f c=>kU m op k/\yH m g op f/\f.cur≠0/\Mk m f.cur c
 | .gv n _=>op.kind=1/\(g.st n).isL=O
 | .p1 n b a=>op.kind=2/\g.st n= .ow s/\qW m g op b a
 | .p2 n b a=>op.kind=2/\g.st n= .ow s/\qW m g op b a/\m (.nd n 1)=op.o
 | .p0 n b a=>op.kind=2/\g.st n= .ow s/\qW m g op b a/\m (.nd n 1)=op.o/\m (.nd n 2)=op.v
 | .pc n b a=>op.kind=2/\g.st n= .ow s/\qW m g op b a/\m (.nd n 1)=op.o/\m (.nd n 2)=op.v/\m (.nd n 0)=aV a
 | .dm b a next=>op.kind=3/\op.o%2=1/\uI m g op b a/\a≠0/\bT m a=op.o/\dH next=X/\Rd m g (.nd a 0) next
 | .du b a next _=>op.kind=3/\op.o%2=1/\uI m g op b a/\a≠0/\Mk m a (idxOf next)
structure ui (s:Nat) (m:Sm) (g:Gh) (op:LOp) (z:Pz) (x:LPh):Prop where
 opk:mR m g op
 ok:LOk s m g op x
 er:z.eras.length=3
 own:ey g s x.own.1 x.own.2
 dd:g.dd s=z.gone.map (·.1)++x.cu
def uh(s:Nat)(m:Sm)(g:Gh)(op:LOp):LX->Prop
 | .go x z=>ui s m g op z x
 | .out o z=>oJ m g op o/\z.eras.length=3/\ey g s 0 0/\g.dd s=z.gone.map (·.1)
 | .stuck=>False
def qz(o:Int):Nat:=if o%2=1 then 1 else 0
def LPh.gst(s:Nat)(g:Gh)(op:LOp):LPh->Int × Bool->Gh
 | .sub x _,r=>x.gst s g r
 | .fc _ f _,r=>if r.2 then g.unl s f.cur else g
 | .pc n prev _,r=>if r.2 then g.ins prev n (qz op.o)else g
 | .dm _ _ _,r=>if r.2 then g.mark else g
 | .du _ cur _ _,r=>if r.2 then g.unl s cur else g
 | _,_=>g
section
variable {m m':Sm} {g g':Gh} {s t:Nat} {op:LOp}
theorem mR.env(h:Gl m g)(c:Gl m' g')(e:Env s m g m' g')(k:mR m g op):mR m' g' op:=by
 have b:=gV e k.h;have a:=(e.isL op.h k.h).1;refine⟨a,by rw[b];exact k.ho,by rw[b];exact k.hm,k.o0,k.o1,k.o2,?_⟩;refine xe c a ?_;cases d:dH (m' (.nd op.h 0))with
 | false=>rfl
 | true=>have:=c.lmrk op.h a d;rw[b,k.hm]at this;simp at this
theorem uI.env(e:Env s m g m' g')(k:uI m g op d cur):uI m' g' op d cur:=by
 obtain⟨c,h,f⟩:=k;rw[uI,gV e c];exact⟨(e.isL _ c).1,h,f.imp_right λ⟨a,b⟩=>⟨(e.isL _ a).1,by rw[gV e a];exact b⟩⟩
theorem qW.env(e:Env s m g m' g')(k:qW m g op d cur):qW m' g' op d cur:=by
 obtain⟨c,h,f⟩:=k;rw[qW,gV e c];exact⟨(e.isL _ c).1,h,f.imp_right λ⟨a,b⟩=>⟨(e.isL _ a).1,by rw[gV e a];exact b⟩⟩
theorem yH.env(e:Env s m g m' g')(k:yH m g op f):yH m' g' op f:=⟨k.1,k.2.1,k.2.2.1,k.2.2.2.env e⟩
theorem oJ.env(e:Env s m g m' g')(k:oJ m g op o):oJ m' g' op o:=λc=>by
 obtain⟨a,b⟩:=k c;exact⟨(e.isL _ a).1,by rw[gV e a];exact b⟩
theorem Mk.env(e:Env s m g m' g'){y:Int}(a:(g.st n).isL=O)(k:Mk m n y):Mk m' n y:=
 ⟨k.1,k.2.1,by rw[e.mrk n a (by rw[k.2.2];exact gu y)];exact k.2.2⟩
theorem kU.env(e:Env s m g m' g')(b:t≠s)(ho:∀n,n≠0->k.own=n->g.st n= .ow t)(h:kU m op k):kU m' op k:=by
 cases k with
 | put n=>
  refine⟨h.1,λa=>?_⟩;have:=(e.own n t (ho n a Z) b).2;rw[this,this];exact h.2 a
 | _=>exact h
theorem kU.same(a:∀i,m' (.nd k.own i)=m (.nd k.own i))(h:kU m op k):kU m' op k:=by
 cases k with
 | put n=>exact⟨h.1,λb=>by have:=a;simp only[FK.own]at this;rw[this,this];exact h.2 b⟩
 | _=>exact h
theorem DA.env(e:Env s m g m' g'){c:Sub}(a:c.cls=x.cls){k:LK}(b:∀f,kU m op f->k.own=f.own->kU m' op f)(h:DA m g op x k):DA m' g' op c k:=by
 cases k with
 | fh k=>exact⟨a.trans h.1,b _ h.2 Z⟩
 | fn k f=>exact⟨a.trans h.1,b _ h.2.1 Z,h.2.2.1.env e,h.2.2.2⟩
 | fr k f=>exact⟨a.trans h.1,b _ h.2.1 Z,h.2.2.env e⟩
 | out o=>exact⟨by rw[a];exact h.1,h.2.env e⟩
 | clr o=>exact⟨a.trans h.1,h.2.env e⟩
 | pt i d=>exact⟨a.trans h.1,h.2.1,h.2.2.env e⟩
 | dc n o=>exact⟨a.trans h.1,h.2.env e⟩
theorem ui.env{z:Pz}{x:LPh}(h:Gl m g)(C:Gl m' g')(e:Env s m g m' g')(o:t≠s)(K:ui t m g op z x):ui t m' g' op z x:=by
 refine⟨K.opk.env h C e,?_,K.er,K.own.env e o,(e.ddo t o).trans K.dd⟩;have b:=K.ok;have j:=K.own;have u:∀(f:FK) (a:Int),ey g t f.own a\/ey g t a f.own->kU m op f->kU m' op f:=by
  intro f a ho y;refine y.env e o λn v w=>?_;rcases ho with ho|ho
  ·exact(ho n).2 ⟨v,.inl w.symm⟩
  exact(ho n).2 ⟨v,.inr w.symm⟩
 have c:∀n,g.st n= .ow t->g'.st n= .ow t/\∀i,m' (.nd n i)=m (.nd n i):=λn v=>e.own n t v o;cases x with
 | sub x k=>
  refine⟨jB.env h e o b.1,DA.env (x:=x) e Z (λf y w=>?_) b.2⟩;have j:ey g t x.own k.own:=j;rw[w]at j;exact u f _ (.inr j) y
 | fs k f A B=>exact⟨u k _ (.inl j) b.1,b.2.1.env e,b.2.2.1,Rd.env e ⟨Z,by rcases b.2.1.2.2.2.2.2 with h | h;exact absurd h b.2.2.1;exact h.1⟩ b.2.2.2⟩
 | fo k f A B=>exact⟨u k _ (.inl j) b.1,b.2.1.env e,b.2.2.1,Rd.env e ⟨Z,by rcases b.2.1.2.2.2.2.2 with h | h;exact absurd h b.2.2.1;exact h.1⟩ b.2.2.2⟩
 | fc k f A=>exact⟨u k _ (.inl j) b.1,b.2.1.env e,b.2.2.1,b.2.2.2.env e (by rcases b.2.1.2.2.2.2.2 with h | h;exact absurd h b.2.2.1;exact h.1)⟩
 | gv n p=>exact⟨b.1,(e.isL n b.2).1⟩
 | p1 n l d=>exact⟨b.1,(c n b.2.1).1,b.2.2.env e⟩
 | p2 n l d=>exact⟨b.1,(c n b.2.1).1,b.2.2.1.env e,by rw[(c n b.2.1).2];exact b.2.2.2⟩
 | p0 n l d=>exact⟨b.1,(c n b.2.1).1,b.2.2.1.env e,by rw[(c n b.2.1).2];exact b.2.2.2.1,by rw[(c n b.2.1).2];exact b.2.2.2.2⟩
 | pc n l d=>exact⟨b.1,(c n b.2.1).1,b.2.2.1.env e,by rw[(c n b.2.1).2];exact b.2.2.2.1,by rw[(c n b.2.1).2];exact b.2.2.2.2.1,by rw[(c n b.2.1).2];exact b.2.2.2.2.2⟩
 | dm l d next=>
  have q:(g.st d).isL=O:=by rcases b.2.2.1.2.2 with h|h;exact absurd h b.2.2.2.1;exact h.1
  exact⟨b.1,b.2.1,b.2.2.1.env e,b.2.2.2.1,by rw[gV e q];exact b.2.2.2.2.1,b.2.2.2.2.2.1,Rd.env e ⟨Z,q⟩ b.2.2.2.2.2.2⟩
 | du l d next p=>
  have q:(g.st d).isL=O:=by rcases b.2.2.1.2.2 with h|h;exact absurd h b.2.2.2.1;exact h.1
  exact⟨b.1,b.2.1,b.2.2.1.env e,b.2.2.2.1,b.2.2.2.2.env e q⟩
variable {z:Pz}
theorem ou(l:mR m g op)(ho:oJ m g op o)(f:z.eras.length=3)(j:ey g s 0 0)(hd:g.dd s=z.gone.map (·.1)):uh s m g op (fF o z):=by
 have h:=qp (m:=m) (k:=.C) (o0:=0) (p0:=[]) Z f j (by simpa using hd) 0;unfold fF;cases a:df z 0 with
 | go x n=>
  rw[a]at h;obtain⟨e,q,c,b,d⟩:=h;exact⟨l,⟨q,.inl e,ho⟩,c,b,d⟩
 | ret r n=>
  rw[a]at h;obtain⟨e,c,b,d⟩:=h;have i:r= .un:=by
   unfold df at a;split at a<;>simp at a;exact a.1.symm
  rw[i]at b;exact⟨ho,c,b,by simpa using d⟩
 | stuck=>rw[a]at h;exact h
theorem iy(o:dx)(z:Pz):(fF o z).eff=isN o.is/\(fF o z).tk=1:=by
 unfold fF;cases a:df z 0 with
 | go x b=>
  have:x.tk=0:=by unfold df at a;split at a<;>simp at a;rw[<- a.1];rfl
  exact⟨Z,by show x.tk+1=1;omega⟩
 | ret r b=>exact⟨Z,Z⟩
 | stuck=>unfold df at a;split at a<;>simp at a
theorem II(e:mR m g op)(ho:oJ m g op o)(i:z.eras.length=3)(l:ey g s 0 0)(hd:g.dd s=z.gone.map (·.1)++[n]):uh s m g op (fa n o z):=by
 have h:=qp (m:=m) (k:=.C) (o0:=0) (p0:=[n]) Z i l hd 0;unfold fa;cases a:df z 0 with
 | go x q=>
  rw[a]at h;obtain⟨f,u,d,c,b⟩:=h;exact⟨e,⟨u,f,ho⟩,d,c,b⟩
 | ret r q=>
  rw[a]at h;obtain⟨f,d,c,b⟩:=h;have j:r= .un:=by
   unfold df at a;split at a<;>simp at a;exact a.1.symm
  rw[j]at c;exact⟨e,⟨show n∈g.dd s by rw[b];simp,.inr Z,ho⟩,d,c,b⟩
 | stuck=>rw[a]at h;exact h
theorem Dg(n:Int)(o:dx)(z:Pz):(fa n o z).eff=isN o.is/\(fa n o z).tk=1:=by
 unfold fa;cases a:df z 0 with
 | go x b=>
  have:x.tk=0:=by unfold df at a;split at a<;>simp at a;rw[<- a.1];rfl
  exact⟨Z,by show x.tk+1=1;omega⟩
 | ret r b=>exact⟨Z,Z⟩
 | stuck=>unfold df at a;split at a<;>simp at a
theorem kG(a:mR m g op)(d:kU m op k)(c:z.eras.length=3)(b:ey g s 0 k.own)(hd:g.dd s=z.gone.map (·.1)):uh s m g op (iI op k z):=
 ⟨a,⟨⟨zD,Z,a.h⟩,Z,d⟩,c,b,by simpa[LPh.cu,Sub.cu,LK.cu] using hd⟩
theorem ey.swap{a b:Int}(h:ey g s a b):ey g s b a:=λy=>by rw[h y];omega
theorem xE(h:Gl m g)(f:mR m g op)(b:kU m op k){j:Bool}{w i next:Int}{pt:Nat}(c:z.eras.length=3)(a:ey g s k.own 0)(hd:g.dd s=z.gone.map (·.1))(v:j=O->uI m g op w i/\i≠0/\bT m i=op.o/\dH next=X/\Rd m g (.nd i 0) next)(x:j=X->qW m g op w i):uh s m g op (iJ op k j w i next pt z):=by
 cases k with
 | get=>
  cases j with
  | true=>
   obtain⟨l,o,-⟩:=v Z;have u:(g.st i).isL=O:=by rcases l.2.2 with h|h;exact absurd h o;exact h.1
   exact⟨f,⟨b,u⟩,c,a,by simpa[LPh.cu] using hd⟩
  | false=>exact ou f (λe=>absurd (b.symm.trans e) zD) c a hd
 | put n=>
  cases j with
  | true=>
   obtain⟨l,o,q,-⟩:=v Z;have u:(g.st i).isL=O:=by rcases l.2.2 with h|h;exact absurd h o;exact h.1
   show uh s m g op (if n≠0 then _ else _);split
   ·rename_i d;refine⟨f,⟨(a n).2 ⟨d,.inl Z⟩,Z,λ_=>⟨u,q⟩⟩,c,a,by simpa[LPh.cu,Sub.cu,LK.cu] using hd⟩
   rename_i d;have:n=0:=by simpa using d
   subst this;exact ou f (λ_=>⟨u,q⟩) c a hd
  | false=>
   show uh s m g op (if n=0 then _ else _);split
   ·rename_i d;subst d;exact⟨f,⟨trivial,Z,b.1,x Z⟩,c,a,by simpa[LPh.cu,Sub.cu,LK.cu] using hd⟩
   rename_i d;exact⟨f,⟨b.1,(a n).2 ⟨d,.inl Z⟩,x Z,(b.2 d).1,(b.2 d).2⟩,c,a,by simpa[LPh.cu] using hd⟩
 | del=>
  cases j with
  | true=>
   obtain⟨l,o,q,A,y⟩:=v Z;exact⟨f,⟨b.1,b.2,l,o,q,A,y⟩,c,a,by simpa[LPh.cu] using hd⟩
  | false=>exact ou f (λe=>absurd (b.1.symm.trans e) zD) c a hd
 | fin p=>exact ou f (λe=>absurd (b.1.symm.trans e) zD) c a hd
theorem tY(op:LOp)(k:FK)(a:Bool)(d c next:Int)(pt:Nat)(z:Pz):k.eff<=(iJ op k a d c next pt z).eff/\k.tk<=(iJ op k a d c next pt z).tk:=by
 cases k with
 | get=>
  cases a
  ·show _<=(fF _ _).eff/\_<=(fF _ _).tk;rw[(iy _ _).1,(iy _ _).2];exact⟨aN _,aN _⟩
  exact⟨aq _,aq _⟩
 | put n=>
  cases a
  ·show _<=LX.eff (if n=0 then _ else _)/\_<=LX.tk (if n=0 then _ else _);split
   ·rename_i b;subst b;exact⟨aN _,aN _⟩
   rename_i b;refine⟨aN _,?_⟩;show (if n≠0 then 1 else 0)<=1;split<;>omega
  show _<=LX.eff (if n≠0 then _ else _)/\_<=LX.tk (if n≠0 then _ else _);split
  ·rename_i b;refine⟨aN _,?_⟩;show (if n≠0 then 1 else 0)<=1;split<;>omega
  rename_i b;rw[(iy _ _).1,(iy _ _).2];refine⟨aN _,?_⟩;show (if n≠0 then 1 else 0)<=1;split<;>omega
 | del=>
  cases a
  ·show _<=(fF _ _).eff/\_<=(fF _ _).tk;rw[(iy _ _).1,(iy _ _).2];exact⟨aN _,aN _⟩
  exact⟨aq _,aq _⟩
 | fin p=>
  show _<=(fF _ _).eff/\_<=(fF _ _).tk;rw[(iy _ _).1,(iy _ _).2];exact⟨aq _,aN _⟩
theorem xa(h:Gl m g)(i:mR m g op)(j:kU m op k)(a:yH m g op f)(c:z.eras.length=3)(d:ey g s 0 k.own)(hd:g.dd s=z.gone.map (·.1)):uh s m g op (eR op k f z):=by
 unfold eR;split
 ·rename_i b;refine xE h i j c d.swap hd (λe=>by cases e) λ_=>⟨a.2.2.2.1,a.2.2.2.2.1,.inl Z⟩
 rename_i b;have l:(g.st f.cur).isL=O:=by rcases a.2.2.2.2.2 with h|h;exact absurd h b;exact h.1
 exact⟨i,⟨⟨a.2.1,Z,l⟩,Z,j,a,b⟩,c,d,by simpa[LPh.cu,Sub.cu,LK.cu] using hd⟩
theorem tO(op:LOp)(k:FK)(f:Fp)(z:Pz):k.eff<=(eR op k f z).eff/\k.tk<=(eR op k f z).tk:=by
 unfold eR;split
 ·exact tY _ _ _ _ _ _ _ _
 exact⟨aq _,eK _ _⟩
theorem wi{v:Int}(h:Rd m g (.nd n 0) v):0<=idxOf v/\idxOf v<=40/\(v=aV (idxOf v)/\dH v=X\/v=eQ (idxOf v)/\dH v=O/\m (.nd n 0)=v)/\(idxOf v=0\/(g.st (idxOf v)).isL=O/\bT m n<bT m (idxOf v)):=by
 obtain⟨y,b,c,a,d⟩:=h;rcases a with a|⟨a,e⟩
 ·have:idxOf v=y:=by rw[a];exact gY b c
  rw[this];exact⟨b,c,.inl ⟨a,by rw[a];exact cP y⟩,d⟩
 have:idxOf v=y:=by rw[a];exact jx b c
 rw[this];exact⟨b,c,.inr ⟨a,by rw[a];exact gu y,e⟩,d⟩
theorem resL_ok(h:Gl m g)(c:mR m g op){k:LK}{r:Ret}(a:DA m g op x k)(b:jg s m g x.cls r)(d:z.eras.length=3)(i:ey g s r.own k.own)(hd:g.dd s=z.gone.map (·.1)++k.cu):
  uh s m g op (ic op r z k)/\k.eff<=(ic op r z k).eff/\r.tkn+k.tk<=(ic op r z k).tk:=by
 cases k with
 | fh k=>
  rw[a.1]at b;cases r with
  | gd v p=>
   obtain⟨A,y,C,q⟩:=wi b.2;refine⟨xa h c a.2 ⟨Nat.zero_lt_succ 2,Nat.lt_of_succ_lt (Nat.lt_succ_self 2),Nat.lt_succ_self 2,c.h,c.ho,q⟩ d i (by simpa[LK.cu] using hd),?_⟩;have:=tO op k ⟨0,1,2,op.h,idxOf v,p⟩ z;exact⟨this.1,by show 0+k.tk<=(eR op k ⟨0,1,2,op.h,idxOf v,p⟩ z).tk;omega⟩
  | _=>exact absurd b (by simp[jg])
 | fn k f=>
  rw[a.1]at b;cases r with
  | gd v p=>
   refine⟨⟨c,⟨a.2.1,a.2.2.1,a.2.2.2,b.2⟩,d,i.swap,by simpa[LPh.cu,LK.cu] using hd⟩,aq _,?_⟩;show 0+k.tk<=k.tk;omega
  | _=>exact absurd b (by simp[jg])
 | fr k f=>
  rw[a.1]at b;cases r with
  | un=>
   have:=tO op k f z;exact⟨xa h c a.2.1 a.2.2 d i (by simpa[LK.cu] using hd),this.1,by show 0+k.tk<=(eR op k f z).tk;omega⟩
  | _=>exact absurd b (by simp[jg])
 | out o=>
  have j:r= .un:=by
   rcases a.1 with e|e<;>(rw[e]at b;cases r<;>simp[jg]at b;rfl)
  subst j;exact⟨⟨a.2,d,i,by simpa[LK.cu] using hd⟩,aq _,aq _⟩
 | clr o=>
  have j:r= .un:=by
   rw[a.1]at b;cases r<;>simp[jg]at b;rfl
  subst j;have u:=iy o z;exact⟨ou c a.2 d i (by simpa[LK.cu] using hd),by show isN o.is<=(fF o z).eff;omega,by show 0+1<=(fF o z).tk;omega⟩
 | pt B w=>
  rw[a.1]at b;cases r with
  | tk n p ok=>
   obtain⟨rfl,l⟩:=b;exact⟨⟨c,⟨a.2.1,l,a.2.2⟩,d,i,by simpa[LPh.cu,LK.cu] using hd⟩,aq _,aq _⟩
  | _=>exact absurd b (by simp[jg])
 | dc n o=>
  have j:r= .un:=by
   rw[a.1]at b;cases r<;>simp[jg]at b;rfl
  subst j;exact⟨⟨c,⟨show n∈g.dd s by rw[hd];simp[LK.cu],.inr Z,a.2⟩,d,i,by simpa[LPh.cu,Sub.cu,LK.cu] using hd⟩,aq _,aq _⟩
theorem LPh.nA(h:Gl m g){x:LPh}(o:ui s m g op z x):mz g (x.acc s op).c:=by
 have a:=o.ok;have L:∀n i,(g.st n).isL=O->0<=i->i<8->mz g (.nd n i):=λn i e l j=>by
  have:=fX h e;exact⟨this.1,this.2,l,j,λ_=>Iq e⟩
 cases x with
 | sub x k=>exact Sub.nA h a.1
 | fs k f d q=>exact L _ _ a.2.1.2.2.2.1 zD zD
 | fo k f d q=>exact L _ _ (by rcases a.2.1.2.2.2.2.2 with h | h;exact absurd h a.2.2.1;exact h.1) zD zD
 | fc k f d=>exact L _ _ a.2.1.2.2.2.1 zD zD
 | gv n p=>exact L _ _ a.2 zD zD
 | p1 n c b=>exact mN h a.2.1 zD zD
 | p2 n c b=>exact mN h a.2.1 zD zD
 | p0 n c b=>exact mN h a.2.1 zD zD
 | pc n c b=>exact L _ _ a.2.2.1.1 zD zD
 | dm c b next=>exact L _ _ (by rcases a.2.2.1.2.2 with h | h;exact absurd h a.2.2.2.1;exact h.1) zD zD
 | du c b next p=>exact L _ _ a.2.2.1.1 zD zD
theorem kU.same'(b:k.own≠0->∀i,m' (.nd k.own i)=m (.nd k.own i))(h:kU m op k):kU m' op k:=by
 cases k with
 | put n=>exact⟨h.1,λa=>by have:=b a;simp only[FK.own]at this;rw[this,this];exact h.2 a⟩
 | _=>exact h
theorem L6(a:(∃c,x.cls= .G c)\/x.cls= .R)(n i:Int):(x.acc s).mem m (.nd n i)=m (.nd n i):=by
 cases x with
 | g1 j c=>rw[a8 Z]
 | g2 j c v=>rw[a8 Z]
 | g3 j c v=>rw[bF Z];rfl
 | r1 n=>rw[a8 Z]
 | r2 n e=>rw[iR Z];rfl
 | _=>rcases a with⟨c,a⟩ | a<;>cases a
theorem MV{p:Int}(b:g.st n= .ow s)(a:(g.st p).isL=O):n≠p:=by rintro rfl;rw[b]at a;cases a
theorem LPh.step(h:Gl m g){x:LPh}{th:Int}(W:ui s m g op z x)(hc:g.fc+1<268435456)(ht:g.tk<=37)(rr:((g.dd s).length:Int)<th):
  Gl ((x.acc s op).mem m) (x.gst s g op ((x.acc s op).res m))/\Env s m g ((x.acc s op).mem m) (x.gst s g op ((x.acc s op).res m))/\
  uh s ((x.acc s op).mem m) (x.gst s g op ((x.acc s op).res m)) op (x.stp th op z ((x.acc s op).res m))/\(x.gst s g op ((x.acc s op).res m)).tk+x.tk<=g.tk+(x.stp th op z ((x.acc s op).res m)).tk/\
  (x.gst s g op ((x.acc s op).res m)).n+x.eff<=g.n+(x.stp th op z ((x.acc s op).res m)).eff/\(op.o%2=0->(x.gst s g op ((x.acc s op).res m)).n=g.n):=by
 have u:=W.opk;have l:=W.ok;have A:=W.er;have v:=W.own;have hd:=W.dd;cases x with
 | sub x k=>
  have T:k.own≠0->(∃c,x.cls= .G c)\/x.cls= .R:=by
   intro R;have h2:=l.2;cases k with
   | fh k=>exact .inl ⟨_,h2.1⟩
   | fn k f=>exact .inl ⟨_,h2.1⟩
   | fr k f=>exact .inr h2.1
   | _=>exact absurd Z R
  have hV:x.cls= .V->k.own=0:=by
   intro R;refine db λI=>?_;rcases T I with⟨c,e⟩|e<;>(rw[R]at e;cases e)
  have hd2:g.dd s=z.gone.map (·.1)++(x.cu++k.cu):=hd;obtain⟨s1,s2,N,qa,s5⟩:=Sub.step h (z:=z) (o0:=k.own) (p0:=k.cu) (th:=th) l.1 A v hd2 hc ht hV rr;have hop':mR ((x.acc s).mem m) (x.gst s g ((x.acc s).res m)) op:=u.env h s1 s2;have hfk:∀f,kU m op f->k.own=f.own->kU ((x.acc s).mem m) op f:=by
   intro f C he;refine C.same' λI i=>?_;exact L6 (T (by rw[he];exact I)) _ _
  have hk':∀M:Sub,M.cls=x.cls->DA ((x.acc s).mem m) (x.gst s g ((x.acc s).res m)) op M k:=λM NA=>DA.env s2 NA hfk l.2;refine⟨s1,s2,?_⟩;show uh s _ (x.gst s g ((x.acc s).res m)) op ((x.stp th z ((x.acc s).res m)).lS k λt s=>ic op t s k)/\(x.gst s g ((x.acc s).res m)).tk+(x.tk+k.tk)<=g.tk+LX.tk ((x.stp th z ((x.acc s).res m)).lS k λt s=>ic op t s k)/\(x.gst s g ((x.acc s).res m)).n+k.eff<=g.n+LX.eff ((x.stp th z ((x.acc s).res m)).lS k λt s=>ic op t s k)/\(op.o%2=0->(x.gst s g ((x.acc s).res m)).n=g.n);cases lh:x.stp th z ((x.acc s).res m)with
  | go M z'=>
   rw[lh]at N qa;obtain⟨a1,a2,a3,a4,a5⟩:=N;have qa:(x.gst s g ((x.acc s).res m)).tk+x.tk<=g.tk+M.tk:=qa;refine⟨⟨hop',⟨a2,hk' M a1⟩,a3,a4,a5⟩,?_,?_,λ_=>s5⟩
   ·show _<=g.tk+(M.tk+k.tk);omega
   show _<=g.n+k.eff;omega
  | ret r z'=>
   rw[lh]at N qa;obtain⟨a1,a3,a4,a5⟩:=N;have qa:(x.gst s g ((x.acc s).res m)).tk+x.tk<=g.tk+r.tkn:=qa;obtain⟨b1,b2,b3⟩:=resL_ok s1 hop' (hk' x Z) a1 a3 a4 a5;refine⟨b1,?_,?_,λ_=>s5⟩
   ·show _<=g.tk+(ic op r z' k).tk;omega
   show _<=g.n+(ic op r z' k).eff;omega
  | stuck=>rw[lh]at N;exact absurd N (by simp[IX])
 | fs k f next told=>
  have hd2:g.dd s=z.gone.map (·.1):=by simpa[LPh.cu] using hd
  rw[a8 Z];refine⟨h,Env.refl s m g,?_⟩;show uh s m g op (if _ then _ else _)/\g.tk+k.tk<=g.tk+LX.tk (if _ then _ else _)/\g.n+k.eff<=g.n+LX.eff (if _ then _ else _)/\(op.o%2=0->g.n=g.n);split
  ·exact⟨kG u l.1 A v.swap hd2,by show _<=g.tk+(0+k.tk);omega,aq _,λ_=>Z⟩
  exact⟨⟨u,l,A,v,hd⟩,aq _,aq _,λ_=>Z⟩
 | fo k f next told=>
  have hd2:g.dd s=z.gone.map (·.1):=by simpa[LPh.cu] using hd
  obtain⟨K,C,F,j⟩:=l;have D:(g.st f.cur).isL=O/\bT m f.prev<bT m f.cur:=by rcases C.2.2.2.2.2 with h|h;exact absurd h F;exact h
  obtain⟨P,qb,iw,ik⟩:=wi j;rw[a8 Z];refine⟨h,Env.refl s m g,?_⟩;have R:(((LPh.fo k f next told).acc s op).res m).1=bT m f.cur:=dv _ _;show uh s m g op (if _ then _ else _)/\g.tk+k.tk<=g.tk+LX.tk (if _ then _ else _)/\g.n+k.eff<=g.n+LX.eff (if _ then _ else _)/\(op.o%2=0->g.n=g.n);rw[R];split
  ·rename_i o;rcases iw with⟨_,e⟩|⟨e,_,B⟩
   ·rw[e]at o;cases o
   exact⟨⟨u,⟨K,C,F,P,qb,by rw[B];exact e⟩,A,v,hd⟩,aq _,aq _,λ_=>Z⟩
  rename_i o;have o:dH next=X:=by simpa using o
  split
  ·rename_i fH;have:=tO op k ⟨f.b,f.c,f.a,f.cur,idxOf next,told⟩ z.got;refine⟨xa h u K ⟨C.2.1,C.2.2.1,C.1,D.1,fH,ik⟩ A v.swap hd2,zO,zO,λ_=>Z⟩
  rename_i BG;split
  ·rename_i heq;have:=tY op k O f.prev f.cur next told z.got
   exact⟨xE h u K A v hd2 (λ_=>⟨C.2.2.2,F,heq,o,j⟩) (λe=>by cases e),zO,zO,λ_=>Z⟩
  rename_i I;have:=tY op k X f.prev f.cur 0 (z.made-1) z.got;exact⟨xE h u K A v hd2 (λe=>by cases e) (λ_=>⟨C.2.2.2.1,C.2.2.2.2.1,.inr ⟨D.1,zO⟩⟩),zO,zO,λ_=>Z⟩
 | fc k f nx=>
  have hd2:g.dd s=z.gone.map (·.1):=by simpa[LPh.cu] using hd
  obtain⟨K,C,F,G⟩:=l;have D:(g.st f.cur).isL=O/\bT m f.prev<bT m f.cur:=by rcases C.2.2.2.2.2 with h|h;exact absurd h F;exact h
  cases j:(((LPh.fc k f nx).acc s op).res m).2 with
  | false=>
   rw[bx Z j];have E:LPh.gst s g op (.fc k f nx) (((LPh.fc k f nx).acc s op).res m)=g:=by simp[LPh.gst,j]
   have B:LPh.stp th op z (.fc k f nx) (((LPh.fc k f nx).acc s op).res m)=iI op k z.got:=by simp[LPh.stp,j]
   rw[E,B];exact⟨h,Env.refl s m g,kG u K A v.swap hd2,by show _<=g.tk+(0+k.tk);exact Nat.add_le_add_left (eK _ _) _,aq _,λ_=>Z⟩
  | true=>
   obtain⟨o,J⟩:=bP (a:=(LPh.fc k f nx).acc s op) Z j;have o:m (.nd f.prev 0)=aV f.cur:=o;rw[J];have E:LPh.gst s g op (.fc k f nx) (((LPh.fc k f nx).acc s op).res m)=g.unl s f.cur:=by simp[LPh.gst,j]
   have B:LPh.stp th op z (.fc k f nx) (((LPh.fc k f nx).acc s op).res m)= .go (.sub (.r1 f.cur) (.fr k ⟨f.b,f.a,f.c,f.prev,nx,z.made⟩)) z.got:=by simp[LPh.stp,j]
   rw[E,B];have Q:=C.2.2.2.1;have w:=h.unl (s:=s) Q o D.1 G.1 G.2.1 G.2.2;have q:Env s m g (bz m (.nd f.prev 0) (aV nx)) (g.unl s f.cur):=Env.unl h Q o D.1;have oV:nx=0\/(g.st nx).isL=O/\bT m f.cur<bT m nx:=by
    obtain⟨y,y0,y1,S,yy⟩:=h.lwrd f.cur D.1;have:y=nx:=by
     rcases S with S|S
     ·have:=gu nx;rw[<- G.2.2,S,cP]at this;cases this
     rw[<- jx y0 y1,<- S,G.2.2,jx G.1 G.2.1]
    rw[this]at yy;exact yy
   have T:g.st f.cur= .li:=by
    obtain⟨_,_,_,yb⟩:=iS h Q (by have:=fX h D.1;omega) (fX h D.1).2 o;exact(h.iu _).1 (yb.resolve_left F)
   refine⟨w,q,⟨u.env h w q,⟨?_,Z,K.same' λI i=>?_,?_⟩,A,?_,?_⟩,?_,aq _,λ_=>Z⟩
   ·show f.cur∈(g.unl s f.cur).dd s;simp[Gh.unl,bL]
   ·exact gq m f.prev _ (.inl (MV ((v k.own).2 ⟨I,.inl Z⟩) Q))
   ·exact yH.env q ⟨C.2.1,C.1,C.2.2.1,Q,C.2.2.2.2.1,oV.imp_right λ⟨a,b⟩=>⟨a,by show bT m f.prev<bT m nx;omega⟩⟩
   ·intro y;show dO g.st f.cur (.dli s) y= .ow s ↔ y≠0/\(y=0\/y=k.own);have H:=v y;by_cases e:y=f.cur
    ·rw[e,bn];rw[e,T]at H;simp at H ⊢;exact λa=>⟨F,λhh=>H F |>.1 hh⟩
    rw[br _ _ e,H];show _/\(y=k.own\/y=0) ↔ _;omega
   ·show (g.unl s f.cur).dd s=z.gone.map (·.1)++([f.cur]++[]);simp[Gh.unl,bL,hd2]
   show g.tk+k.tk<=g.tk+(0+k.tk);omega
 | gv n p=>
  have hd2:g.dd s=z.gone.map (·.1):=by simpa[LPh.cu] using hd
  rw[a8 Z];refine⟨h,Env.refl s m g,?_⟩;have:=iy ⟨(((LPh.gv n p).acc s op).res m).1,O,p,n⟩ z.got;exact⟨ou u (λe=>absurd (l.1.symm.trans e) zD) A v hd2,by show g.tk+0<=g.tk+(fF _ _).tk;omega,by show g.n+0<=g.n+(fF _ _).eff;omega,λ_=>Z⟩
 | p1 n d cur=>
  rw[bF Z];have w:=h.bq (s:=s) (c:=.nd n 1) l.2.1 op.o;have q:Env s m g (bz m (.nd n 1) op.o) g:=Env.bq h (c:=.nd n 1) l.2.1 op.o;exact⟨w,q,⟨u.env h w q,⟨l.1,l.2.1,l.2.2.env q,bU _ _ _⟩,A,v,hd⟩,aq _,aq _,λ_=>Z⟩
 | p2 n d cur=>
  rw[bF Z];have w:=h.bq (s:=s) (c:=.nd n 2) l.2.1 op.v;have q:Env s m g (bz m (.nd n 2) op.v) g:=Env.bq h (c:=.nd n 2) l.2.1 op.v;exact⟨w,q,⟨u.env h w q,⟨l.1,l.2.1,l.2.2.1.env q,by show bz m (.nd n 2) op.v (.nd n 1)=_;rw[dY m n 2 _ (.inr zD)];exact l.2.2.2,bU _ _ _⟩,A,v,hd⟩,aq _,aq _,λ_=>Z⟩
 | p0 n d cur=>
  rw[bF Z];have w:=h.bq (s:=s) (c:=.nd n 0) l.2.1 (aV cur);have q:Env s m g (bz m (.nd n 0) (aV cur)) g:=Env.bq h (c:=.nd n 0) l.2.1 (aV cur);exact⟨w,q,⟨u.env h w q,⟨l.1,l.2.1,l.2.2.1.env q,by show bz m (.nd n 0) _ (.nd n 1)=_;rw[dY m n 0 _ (.inr zD)];exact l.2.2.2.1,by show bz m (.nd n 0) _ (.nd n 2)=_;rw[dY m n 0 _ (.inr zD)];exact l.2.2.2.2,bU _ _ _⟩,A,v,hd⟩,aq _,aq _,λ_=>Z⟩
 | pc n d cur=>
  have hd2:g.dd s=z.gone.map (·.1):=by simpa[LPh.cu] using hd
  obtain⟨yu,Y,hi,Ix,va,Iy⟩:=l;have I:n≠0:=by have:=h.rng n (by rw[Y];simp);omega
  cases j:(((LPh.pc n d cur).acc s op).res m).2 with
  | false=>
   rw[bx Z j];have E:LPh.gst s g op (.pc n d cur) (((LPh.pc n d cur).acc s op).res m)=g:=by simp[LPh.gst,j]
   have B:LPh.stp th op z (.pc n d cur) (((LPh.pc n d cur).acc s op).res m)=iI op (.put n) z.got:=by simp[LPh.stp,j]
   rw[E,B];refine⟨h,Env.refl s m g,kG u ⟨yu,λ_=>⟨Ix,va⟩⟩ A v.swap hd2,?_,aq _,λ_=>Z⟩;show g.tk+1<=g.tk+(0+if n≠0 then 1 else 0);rw[if_pos I];omega
  | true=>
   obtain⟨o,J⟩:=bP (a:=(LPh.pc n d cur).acc s op) Z j;have o:m (.nd d 0)=aV cur:=o;rw[J];have E:LPh.gst s g op (.pc n d cur) (((LPh.pc n d cur).acc s op).res m)=g.ins d n (qz op.o):=by simp[LPh.gst,j]
   have B:LPh.stp th op z (.pc n d cur) (((LPh.pc n d cur).acc s op).res m)=fF ⟨0,O,z.made,n⟩ z.got:=by simp[LPh.stp,j]
   rw[E,B];have he:if op.o%2=1 then qz op.o=1 else qz op.o=0:=by unfold qz;split<;>rfl
   have w:=h.ins (s:=s) (e:=qz op.o) hi.1 o Y Ix hi.2.1 hi.2.2 Iy u.o0 u.o1 u.o2 he;have hcr:0<=cur/\cur<=40:=by
    rcases hi.2.2 with qd|qd
    ·omega
    have:=fX h qd.1;omega
   have qB:=(iS h hi.1 hcr.1 hcr.2 o).1;have q:Env s m g (bz m (.nd d 0) (aV n)) (g.ins d n (qz op.o)):=Env.ins h qB o Y;have hnp:=MV Y hi.1;have:=iy ⟨0,O,z.made,n⟩ z.got;refine⟨w,q,ou (u.env h w q) (λ_=>⟨?_,?_⟩) A ?_ hd2,?_,?_,?_⟩
   ·show (dO g.st n .li n).isL=O;rw[bn];rfl
   ·show bz m (.nd d 0) _ (.nd n 1)=op.o;rw[dY m d 0 _ (.inr zD)];exact Ix
   ·intro y;have H:=v y;show dO g.st n .li y= .ow s ↔ _;by_cases e:y=n
    ·rw[e,bn];simp
    rw[br _ _ e,H];show _/\(y=n\/y=0) ↔ _;omega
   ·show g.tk+1<=_;omega
   ·have qd:=this.1;show g.n+qz op.o+0<=g.n+(fF _ _).eff;rw[qd];have:qz op.o<=1:=by unfold qz;split<;>omega
    show g.n+qz op.o+0<=g.n+1;omega
   intro ho;show g.n+qz op.o=g.n;unfold qz;rw[if_neg zO];omega
 | dm d cur next=>
  have hd2:g.dd s=z.gone.map (·.1):=by simpa[LPh.cu] using hd
  obtain⟨qc,U,L,F,hkc,NS,hrd⟩:=l;have D:(g.st cur).isL=O/\bT m d<bT m cur:=by rcases L.2.2 with h|h;exact absurd h F;exact h
  obtain⟨P,qb,iw,ik⟩:=wi hrd;have qB:next=aV (idxOf next):=by
   rcases iw with e|e
   ·exact e.1
   rw[NS]at e;cases e.2.1
  cases j:(((LPh.dm d cur next).acc s op).res m).2 with
  | false=>
   rw[bx Z j];have E:LPh.gst s g op (.dm d cur next) (((LPh.dm d cur next).acc s op).res m)=g:=by simp[LPh.gst,j]
   have B:LPh.stp th op z (.dm d cur next) (((LPh.dm d cur next).acc s op).res m)=iI op .del z.got:=by simp[LPh.stp,j]
   rw[E,B];exact⟨h,Env.refl s m g,kG u ⟨qc,U⟩ A v hd2,aq _,aq _,λ_=>Z⟩
  | true=>
   obtain⟨o,J⟩:=bP (a:=(LPh.dm d cur next).acc s op) Z j;have o:m (.nd cur 0)=next:=o
   rw[J];have E:LPh.gst s g op (.dm d cur next) (((LPh.dm d cur next).acc s op).res m)=g.mark:=by simp[LPh.gst,j]
   have B:LPh.stp th op z (.dm d cur next) (((LPh.dm d cur next).acc s op).res m)= .go (.du d cur next z.made) z.got:=by simp[LPh.stp,j]
   rw[E,B];have hm2:m (.nd cur 0)=aV (idxOf next):=o.trans qB;have w:=h.mark D.1 P qb hm2 (by rw[hkc];exact U);have q:Env s m g (bz m (.nd cur 0) (eQ (idxOf next))) g.mark:=Env.mark h D.1 P qb hm2;refine⟨w,q,⟨u.env h w q,⟨qc,U,L.env q,F,P,qb,bU _ _ _⟩,A,v,hd⟩,aq _,aq _,λe=>by omega⟩
 | du d cur next p=>
  have hd2:g.dd s=z.gone.map (·.1):=by simpa[LPh.cu] using hd
  obtain⟨qc,U,L,F,G⟩:=l;have D:(g.st cur).isL=O/\bT m d<bT m cur:=by rcases L.2.2 with h|h;exact absurd h F;exact h
  cases j:(((LPh.du d cur next p).acc s op).res m).2 with
  | false=>
   rw[bx Z j];have E:LPh.gst s g op (.du d cur next p) (((LPh.du d cur next p).acc s op).res m)=g:=by simp[LPh.gst,j]
   have B:LPh.stp th op z (.du d cur next p) (((LPh.du d cur next p).acc s op).res m)=iI op (.fin p) z.got:=by simp[LPh.stp,j]
   rw[E,B];exact⟨h,Env.refl s m g,kG u ⟨qc,U⟩ A v hd2,aq _,aq _,λ_=>Z⟩
  | true=>
   obtain⟨o,J⟩:=bP (a:=(LPh.du d cur next p).acc s op) Z j;have o:m (.nd d 0)=aV cur:=o;rw[J];have E:LPh.gst s g op (.du d cur next p) (((LPh.du d cur next p).acc s op).res m)=g.unl s cur:=by simp[LPh.gst,j]
   have B:LPh.stp th op z (.du d cur next p) (((LPh.du d cur next p).acc s op).res m)=fa cur ⟨0,O,p,0⟩ z.got:=by simp[LPh.stp,j]
   rw[E,B];have w:=h.unl (s:=s) L.1 o D.1 G.1 G.2.1 G.2.2;have q:Env s m g (bz m (.nd d 0) (aV (idxOf next))) (g.unl s cur):=Env.unl h L.1 o D.1;have T:g.st cur= .li:=by
    obtain⟨_,_,_,yb⟩:=iS h L.1 (by have:=fX h D.1;omega) (fX h D.1).2 o;exact(h.iu _).1 (yb.resolve_left F)
   have:=Dg cur ⟨0,O,p,0⟩ z.got;refine⟨w,q,II (u.env h w q) (λe=>absurd (qc.symm.trans e) zD) A ?_ ?_,?_,?_,λ_=>Z⟩
   ·intro y;have H:=v y;show dO g.st cur (.dli s) y= .ow s ↔ _;by_cases e:y=cur
    ·rw[e,bn];simp
    rw[br _ _ e,H];exact Iff.rfl
   ·show (g.unl s cur).dd s=z.gone.map (·.1)++[cur];simp[Gh.unl,bL,hd2]
   ·show g.tk+0<=_;omega
   show g.n+1<=g.n+(fa _ _ _).eff;rw[this.1];exact aq _
end
end
section
variable {x:MPh} {made:Nat} {n sz:Int}
theorem Jf:∀(i x:Nat),rv i x<2 ^ i
 | 0,x=>by simp[rv]
 | i+1,x=>by
  have:=Jf i (x / 2);unfold rv;have a:x%2=0\/x%2=1:=M;have b:(2:Nat) ^ (i+1)=2 ^ i+2 ^ i:=by rw[Nat.pow_succ];omega
  rcases a with h|h<;>rw[h]<;>omega
theorem revI_bd(x:Int):0<=nt x/\nt x<=65535:=by
 have:=Jf 16 (x%65536).toNat;unfold nt;omega
theorem MD{x:Int}(h:x%2=1):32768<=nt x:=by
 unfold nt rv;have:(x%65536).toNat%2=1:=M;have a:(2:Nat) ^ 15=32768:=zD;rw[this,a];omega
theorem dummy1:pw 1=65536:=zD
theorem nv(a:Int):1<=eY a/\eY a<131072/\eY a%2=1/\(a%2=1->65536<eY a):=by
 have:=revI_bd a;unfold eY;refine⟨M,M,M,λh=>?_⟩;have:=MD h;omega
def MPh.own:MPh->Int × Int
 | .ml _ _ _ _ x _=>x.own
 | _=>(0,0)
def MPh.cu:MPh->List Int
 | .ml _ _ _ _ x _=>x.cu
 | _=>[]
def MPh.eff:MPh->Nat
 | .ml a _ _ _ x _=>if a then 0 else x.eff
 | .m5 _ _ | .m6 _ _ | .m7 _=>1
 | _=>0
def MPh.tk:MPh->Nat
 | .ml a _ _ _ x _=>if a then x.tk else 1+x.tk
 | .m4 _ _=>1
 | .m5 _ _ | .m6 _ _ | .m7 _=>2
 | _=>0
def MX.eff:MX->Nat
 | .go x _ _=>x.eff
 | .out _=>1
 | .stuck=>0
def MX.tk:MX->Nat
 | .go x _ _=>x.tk
 | .out _=>2
 | .stuck=>0
def MOk(s:Nat)(m:Sm)(g:Gh)(op:MOp)(gn:cq):MPh->Prop
 | .m1=>True
 | .m2 a b=>(a=1\/a=2)/\b=op.a%a
 | .m3 a=>a=2/\op.a%2=1
 | .ml d a _ c x z=>ui s m g c z x/\(a=1\/a=2)/\z.gone=gn/\(d=O->c=⟨2,1,65536,0⟩/\a=2/\op.a%2=1)/\(d=X->c.kind=op.kind/\c.o=eY op.a/\c.v=op.b)
 | .m4 a n=>a=2/\op.a%2=1/\(g.st n).isL=O/\bT m n=65536
 | .m5 a _=>a=1\/a=2
 | .m6 a _=>a=1
 | .m7 _=>True
structure xS (s:Nat) (m:Sm) (g:Gh) (op:MOp) (gn:cq) (x:MPh):Prop where
 k:1<=op.kind/\op.kind<=3
 a:0<=op.a/\op.a<65536
 ok:MOk s m g op gn x
 own:ey g s x.own.1 x.own.2
 dd:g.dd s=gn.map (·.1)++x.cu
def yG(s:Nat)(m:Sm)(g:Gh)(op:MOp):MX->Prop
 | .go x _ gn=>xS s m g op gn x
 | .out o=>ey g s 0 0/\g.dd s=o.gone.map (·.1)
 | .stuck=>False
def MPh.gst(s:Nat)(g:Gh):MPh->Int × Bool->Gh
 | .ml _ _ _ lo x _,r=>x.gst s g lo r
 | _,_=>g
section
variable {m m':Sm} {g g':Gh} {s t:Nat} {op:MOp} {gn:cq}
theorem xS.env(h:Gl m g)(d:Gl m' g')(e:Env s m g m' g')(b:t≠s)(K:xS t m g op gn x):xS t m' g' op gn x:=by
 refine⟨K.k,K.a,?_,K.own.env e b,(e.ddo t b).trans K.dd⟩;have a:=K.ok;cases x with
 | ml f c j i x z=>exact⟨a.1.env h d e b,a.2⟩
 | m4 c n=>exact⟨a.1,a.2.1,(e.isL n a.2.2.1).1,by rw[gV e a.2.2.1];exact a.2.2.2⟩
 | _=>exact a
theorem CD(h:Gl m g)(a:(g.st n).isL=O)(c:bT m n%2=0):g.st n= .li:=by
 refine xe h a ?_;cases b:dH (m (.nd n 0))with
 | false=>rfl
 | true=>have:=h.lmrk n a b;omega
theorem AH(h:Gl m g):(g.st 1).isL=O:=by
 obtain⟨r,a⟩:=h.lhd;exact AN ((h.iu 1).1 (by rw[a];simp))
theorem yP{lo:LOp}(c:mR m g lo)(a:lo.kind=1\/lo.kind=2\/lo.kind=3/\lo.o%2=1)(b:ey g s 0 0)(hd:g.dd s=gn.map (·.1)):
  ∃x,cW lo gn= .go x ⟨[0,0,0],gn,0⟩/\ui s m g lo ⟨[0,0,0],gn,0⟩ x/\x.eff=0/\x.tk=0:=by
 rcases a with a|a|⟨a,ho⟩
 ·refine⟨_,by unfold cW iI;rw[a];rfl,kG (k:=.get) c a Z b hd,Z,Z⟩
 ·refine⟨_,by unfold cW iI;rw[a];rfl,kG (k:=.put 0) c ⟨a,λh=>absurd Z h⟩ Z b hd,Z,Z⟩
 refine⟨_,by unfold cW iI;rw[a];rfl,kG (k:=.del) c ⟨a,ho⟩ Z b hd,Z,Z⟩
theorem wW(h:Gl m g)(u:1<=op.kind/\op.kind<=3)(o:0<=op.a/\op.a<65536)(k:sz=1\/sz=2)(b:(g.st n).isL=O)(a:bT m n<eY op.a/\bT m n%2=0)(f:ey g s 0 0)(hd:g.dd s=gn.map (·.1)):
  yG s m g op (iH op sz n made gn)/\(iH op sz n made gn).eff=0/\1<=(iH op sz n made gn).tk:=by
 have l:=nv op.a;have i:mR m g ⟨op.kind,n,eY op.a,op.b⟩:=⟨b,a.1,a.2,by show 0<=eY op.a;omega,l.2.1,λe=>by have:eY op.a%2=0:=e;omega,CD h b a.2⟩;obtain⟨x,d,c,q,v⟩:=yP (gn:=gn) i (by show op.kind=1\/op.kind=2\/op.kind=3/\eY op.a%2=1;omega) f hd;have j:=h.rng n (Iq b);unfold iH;rw[if_pos j];show yG s m g op (LX.inM _ _ _ _ _ (cW ⟨op.kind,n,eY op.a,op.b⟩ gn))/\(LX.inM _ _ _ _ _ (cW ⟨op.kind,n,eY op.a,op.b⟩ gn)).eff=0/\1<=(LX.inM _ _ _ _ _ (cW ⟨op.kind,n,eY op.a,op.b⟩ gn)).tk;rw[d];refine⟨⟨u,o,⟨c,k,Z,(λe=>by cases e),λ_=>⟨Z,Z,Z⟩⟩,c.own,c.dd⟩,?_,?_⟩
 ·exact q
 show 1<=1+x.tk;omega
theorem Np{o:dx}(c:1<=op.kind/\op.kind<=3)(b:0<=op.a/\op.a<65536)(d:sz=1\/sz=2)(a:ey g s 0 0)(hd:g.dd s=gn.map (·.1)):
  yG s m g op (gB op sz o made gn)/\(gB op sz o made gn).eff=1/\(gB op sz o made gn).tk=2:=by
 unfold gB;split
 ·exact⟨⟨a,hd⟩,Z,Z⟩
 split
 ·exact⟨⟨c,b,d,a,by simpa[MPh.cu] using hd⟩,Z,Z⟩
 split
 ·exact⟨⟨c,b,trivial,a,by simpa[MPh.cu] using hd⟩,Z,Z⟩
 exact⟨⟨a,hd⟩,Z,Z⟩
theorem MPh.nA(h:Gl m g)(d:xS s m g op gn x):mz g (x.acc s).c:=by
 have a:=d.ok;cases x with
 | m2 c b=>
  show b=0\/b=1;rcases a.1 with e|e<;>(have:=a.2;rw[e]at this;omega)
 | m3 c=>exact .inl Z
 | ml f c j i x z=>exact LPh.nA h a.1
 | m4 c n=>exact .inr Z
 | _=>trivial
theorem MPh.step(h:Gl m g){th:Int}(E:xS s m g op gn x)(X:g.fc+1<268435456)(ht:g.tk<=37)(rr:((g.dd s).length:Int)<th):
  Gl ((x.acc s).mem m) (x.gst s g ((x.acc s).res m))/\Env s m g ((x.acc s).mem m) (x.gst s g ((x.acc s).res m))/\
  yG s ((x.acc s).mem m) (x.gst s g ((x.acc s).res m)) op (x.stp th 2 op made gn ((x.acc s).res m))/\(x.gst s g ((x.acc s).res m)).tk+x.tk<=g.tk+(x.stp th 2 op made gn ((x.acc s).res m)).tk/\
  (x.gst s g ((x.acc s).res m)).n+x.eff<=g.n+(x.stp th 2 op made gn ((x.acc s).res m)).eff:=by
 have v:=E.k;have u:=E.a;have w:=E.ok;have q:=E.own;have hd:=E.dd;have W:=nv op.a;cases x with
 | m1=>
  rw[a8 Z];refine⟨h,Env.refl s m g,?_⟩;have G:MPh.stp th 2 op made gn .m1 ((MPh.m1.acc s).res m)= .go (.m2 (m .msize) (op.a%m .msize)) (made+1) gn:=by
   show (if _ then _ else _)=_;rw[dv];exact if_pos (show m .msize=1\/m .msize=2/\(2:Int)=2 from h.msz.imp_right λe=>⟨e,Z⟩)
  rw[G];exact⟨⟨v,u,⟨h.msz,Z⟩,q,hd⟩,aq _,aq _⟩
 | m2 sz b=>
  rw[a8 Z];refine⟨h,Env.refl s m g,?_⟩;have hd2:g.dd s=gn.map (·.1):=by simpa[MPh.cu] using hd
  have qa:(((MPh.m2 sz b).acc s).res m).1=m (.bucket b):=dv _ _;show yG s m g op (if _ then _ else _)/\g.tk+0<=g.tk+MX.tk (if _ then _ else _)/\g.n+0<=g.n+MX.eff (if _ then _ else _);rw[qa];have hb01:b=0\/b=1/\sz=2/\op.a%2=1:=by
   rcases w.1 with e|e<;>(have:=w.2;rw[e]at this;omega)
  rcases hb01 with rfl|⟨rfl,N,F⟩
  ·have hi:idxOf (m (.bucket 0))=1:=by rw[h.b0];exact gY zD zD
   rw[hi,if_pos zD];have y:=wW (op:=op) (made:=made+1) (sz:=sz) h v u w.1 (AH h) (by rw[h.l1];omega) q hd2;exact⟨y.1,zO,zO⟩
  rcases h.b1 with e|⟨d,S,d2,qc⟩
  ·have hi:idxOf (m (.bucket 1))=0:=by rw[e];decide
   rw[hi,if_neg zD,if_pos Z];exact⟨⟨v,u,⟨N,F⟩,q,hd⟩,aq _,aq _⟩
  have hdr:=fX h S;have hi:idxOf (m (.bucket 1))=d:=by rw[qc];exact gY zO hdr.2
  rw[hi,if_pos zO];have y:=wW (op:=op) (made:=made+1) (sz:=sz) h v u w.1 S (by rw[d2];have:=W.2.2.2 F;omega) q hd2;exact⟨y.1,zO,zO⟩
 | m3 sz=>
  rw[a8 Z];refine⟨h,Env.refl s m g,?_⟩;have hd2:g.dd s=gn.map (·.1):=by simpa[MPh.cu] using hd
  have qa:(((MPh.m3 sz).acc s).res m).1=m (.bucket 0):=dv _ _;have hi:idxOf (m (.bucket 0))=1:=by rw[h.b0];exact gY zD zD
  show yG s m g op (if _ then _ else _)/\g.tk+0<=g.tk+MX.tk (if _ then _ else _)/\g.n+0<=g.n+MX.eff (if _ then _ else _);rw[qa,hi,if_neg zD,dummy1];have NO:mR m g ⟨2,1,65536,0⟩:=⟨AH h,by show bT m 1<65536;rw[h.l1];decide,by show bT m 1%2=0;rw[h.l1];decide,(by decide:(0:Int)<=65536),(by decide:(65536:Int)<131072),λ_=>Z,CD h (AH h) (by rw[h.l1];decide)⟩;obtain⟨x,E,y,h2,h3⟩:=yP (gn:=gn) NO (.inr (.inl Z)) q hd2;show yG s m g op (LX.inM _ _ _ _ _ (cW ⟨2,1,65536,0⟩ gn))/\g.tk+0<=g.tk+MX.tk (LX.inM _ _ _ _ _ (cW ⟨2,1,65536,0⟩ gn))/\g.n+0<=g.n+MX.eff (LX.inM _ _ _ _ _ (cW ⟨2,1,65536,0⟩ gn));rw[E];refine⟨⟨v,u,⟨y,.inr w.1,Z,λ_=>⟨Z,w⟩,(λe=>by cases e)⟩,y.own,y.dd⟩,?_,?_⟩
  ·exact dT _ _
  exact dT _ _
 | ml l sz j f x z=>
  obtain⟨hL,Q,hg,M,Y⟩:=w;obtain⟨s1,s2,A,D,C,P⟩:=LPh.step (th:=th) h hL X ht rr;refine⟨s1,s2,?_⟩;show yG s _ (x.gst s g f ((x.acc s f).res m)) op (LX.inM l sz j f (λo k=>if l then .go (.m4 sz o.node) (j+k.made) k.gone else gB op sz { o with bc:=j+o.bc } (j+k.made) k.gone) (x.stp th f z ((x.acc s f).res m)))/\
   (x.gst s g f ((x.acc s f).res m)).tk+(if l then x.tk else 1+x.tk)<=g.tk+MX.tk (LX.inM l sz j f (λo k=>if l then .go (.m4 sz o.node) (j+k.made) k.gone else gB op sz { o with bc:=j+o.bc } (j+k.made) k.gone) (x.stp th f z ((x.acc s f).res m)))/\
   (x.gst s g f ((x.acc s f).res m)).n+(if l then 0 else x.eff)<=g.n+MX.eff (LX.inM l sz j f (λo k=>if l then .go (.m4 sz o.node) (j+k.made) k.gone else gB op sz { o with bc:=j+o.bc } (j+k.made) k.gone) (x.stp th f z ((x.acc s f).res m)))
  cases L:x.stp th f z ((x.acc s f).res m)with
  | go I T=>
   rw[L]at A D C;refine⟨⟨v,u,⟨A,Q,Z,M,Y⟩,A.own,A.dd⟩,?_,?_⟩
   ·show _<=g.tk+(if l then I.tk else 1+I.tk);have D:(x.gst s g f ((x.acc s f).res m)).tk+x.tk<=g.tk+I.tk:=D;split<;>omega
   show _<=g.n+(if l then 0 else I.eff);have C:(x.gst s g f ((x.acc s f).res m)).n+x.eff<=g.n+I.eff:=C;cases l with
   | true=>
    obtain⟨rfl,-,-⟩:=M Z;have:=P (show (65536:Int)%2=0 by decide);simp;omega
   | false=>simpa using C
  | out o T=>
   rw[L]at A D C;obtain⟨a1,a2,R,U⟩:=A;have D:(x.gst s g f ((x.acc s f).res m)).tk+x.tk<=g.tk+1:=D;have C:(x.gst s g f ((x.acc s f).res m)).n+x.eff<=g.n+isN o.is:=C;have hi:isN o.is<=1:=by unfold isN;split<;>omega
   cases l with
   | true=>
    obtain⟨rfl,N,F⟩:=M Z;have P:=P (show (65536:Int)%2=0 by decide);have ho:=a1 Z;refine⟨⟨v,u,⟨N,F,ho.1,ho.2⟩,R,by simpa[MPh.cu] using U⟩,?_,?_⟩
    ·show _<=g.tk+1;simpa using D
    show _<=g.n+0;simp;omega
   | false=>
    have:=Np (m:=(x.acc s f).mem m) (op:=op) (o:={ o with bc:=j+o.bc }) (made:=j+T.made) v u Q R U;refine⟨this.1,?_,?_⟩
    ·show _<=g.tk+(gB op sz _ _ _).tk;rw[this.2.2];simp;omega
    show _<=g.n+(gB op sz _ _ _).eff;rw[this.2.1];simp;omega
  | stuck=>rw[L]at A;exact absurd A (by simp[uh])
 | m4 sz n=>
  obtain⟨rfl,F,J,qb⟩:=w;have hd2:g.dd s=gn.map (·.1):=by simpa[MPh.cu] using hd
  have G:MPh.gst s g (.m4 2 n) (((MPh.m4 2 n).acc s).res m)=g:=Z;have B:Gl (((MPh.m4 2 n).acc s).mem m) g/\Env s m g (((MPh.m4 2 n).acc s).mem m) g:=by
   cases H:(((MPh.m4 2 n).acc s).res m).2 with
   | false=>rw[bx Z H];exact⟨h,Env.refl s m g⟩
   | true=>
    obtain⟨hm,K⟩:=bP (a:=(MPh.m4 2 n).acc s) Z H;rw[K];exact⟨h.bucket J qb,Env.plain (by intro x i e;cases e) (by intro e;cases e)⟩
  rw[G];refine⟨B.1,B.2,?_⟩;have hn':=(B.2.isL n J).1;have hk':=gV B.2 J;have y:=wW (m:=((MPh.m4 2 n).acc s).mem m) (op:=op) (made:=made+1) (sz:=2) B.1 v u (.inr Z) J (by rw[hk',qb];have:=W.2.2.2 F;omega) q hd2;exact⟨y.1,by show g.tk+1<=g.tk+(iH op 2 n (made+1) gn).tk;omega,by show g.n+0<=g.n+(iH op 2 n (made+1) gn).eff;omega⟩
 | m5 sz o=>
  have hd2:g.dd s=gn.map (·.1):=by simpa[MPh.cu] using hd
  rw[iR Z];refine⟨h.bq (s:=s) (c:=.mcount) trivial _,Env.bq h (c:=.mcount) trivial _,?_⟩;show yG s _ g op (if _ then _ else _)/\g.tk+2<=g.tk+MX.tk (if _ then _ else _)/\g.n+1<=g.n+MX.eff (if _ then _ else _);split
  ·rename_i X;refine⟨⟨v,u,?_,q,hd⟩,aq _,aq _⟩;show sz=1;have:sz=1\/sz=2:=w;omega
  exact⟨⟨q,hd2⟩,aq _,aq _⟩
 | m6 sz o=>
  have hd2:g.dd s=gn.map (·.1):=by simpa[MPh.cu] using hd
  have rI:sz=1:=w;subst rI;have G:MPh.gst s g (.m6 1 o) (((MPh.m6 1 o).acc s).res m)=g:=Z;have B:Gl (((MPh.m6 1 o).acc s).mem m) g/\Env s m g (((MPh.m6 1 o).acc s).mem m) g:=by
   cases H:(((MPh.m6 1 o).acc s).res m).2 with
   | false=>rw[bx Z H];exact⟨h,Env.refl s m g⟩
   | true=>
    obtain⟨hm,K⟩:=bP (a:=(MPh.m6 1 o).acc s) Z H;rw[K];exact⟨h.size,Env.plain (by intro x i e;cases e) (by intro e;cases e)⟩
  rw[G];exact⟨B.1,B.2,⟨q,hd2⟩,aq _,aq _⟩
 | m7 o=>
  have hd2:g.dd s=gn.map (·.1):=by simpa[MPh.cu] using hd
  rw[iR Z];exact⟨h.bq (s:=s) (c:=.mcount) trivial _,Env.bq h (c:=.mcount) trivial _,⟨q,hd2⟩,aq _,aq _⟩
end
end
section
variable {x:EPh}
def EK.cu:EK->List Int
 | .orr n _=>[n]
 | _=>[]
def EK.eff:EK->Nat
 | .oc o | .orr _ o | .od o=>isN o.is
 | _=>0
def EK.tk:EK->Nat
 | .ug _=>1
 | _=>0
def EPh.own:EPh->Int × Int
 | .sub x _=>(x.own,0)
 | .u1 n | .u2 n | .u3 n _ | .u4 n _ | .u5 n | .u6 n _ | .u7 _ n _ _ | .u8 n _ _ | .u9 n _ _=>(n,0)
 | _=>(0,0)
def EPh.cu:EPh->List Int
 | .sub x k=>x.cu++k.cu
 | .o4 n _=>[n]
 | _=>[]
def EPh.eff:EPh->Nat
 | .sub _ k=>k.eff
 | .o4 _ _=>1
 | _=>0
def EPh.tk:EPh->Nat
 | .sub x k=>x.tk+k.tk
 | .u1 _ | .u2 _ | .u3 _ _ | .u4 _ _ | .u5 _ | .u6 _ _ | .u7 _ _ _ _ | .u8 _ _ _ | .u9 _ _ _=>1
 | _=>0
def EX.eff:EX->Nat
 | .go x _=>x.eff
 | .out _=>1
 | .stuck=>0
def EX.tk:EX->Nat
 | .go x _=>x.tk
 | .out _=>2
 | .stuck=>0
def EKOk(x:Sub):EK->Prop
 | .ut=>x.cls= .T
 | .ug _=>x.cls= .V
 | .og=>x.cls= .G .top
 | .oc _=>x.cls= .C
 | .orr _ _=>x.cls= .C
 | .od _=>x.cls= .R
def EOk(s:Nat)(m:Sm)(g:Gh)(a:Int):EPh->Prop
 | .sub x k=>jB s m g x/\EKOk x k
 | .u1 n=>g.st n= .ow s
 | .u2 n | .u3 n _ | .u5 n | .u6 n _ | .u7 _ n _ _ | .u8 n _ _ | .u9 n _ _=>g.st n= .ow s/\m (.nd n 1)=a
 | .u4 n b=>g.st n= .ow s/\m (.nd n 1)=a/\m (.nd n 0)=idxOf b
 | .o2 b=>idxOf b≠0/\(g.st (idxOf b)).isS=O
 | .o3 b below=>idxOf b≠0/\(g.st (idxOf b)).isS=O/\below=m (.nd (idxOf b) 0)
 | .o4 n _=>(g.st n).isS=O
 | .o5 | .o6 _=>True
structure xW (s:Nat) (m:Sm) (g:Gh) (a:Int) (z:Pz) (x:EPh):Prop where
 ok:EOk s m g a x
 er:z.eras.length=3
 own:ey g s x.own.1 x.own.2
 dd:g.dd s=z.gone.map (·.1)++x.cu
def uk(s:Nat)(m:Sm)(g:Gh)(a:Int):EX->Prop
 | .go x z=>xW s m g a z x
 | .out o=>ey g s 0 0/\g.dd s=o.gone.map (·.1)
 | .stuck=>False
def EPh.gst(s:Nat)(g:Gh):EPh->Int × Bool->Gh
 | .sub x _,r=>x.gst s g r
 | .u4 n _,r=>if r.2 then g.push n else g
 | .o3 _ _,r=>if r.2 then g.pop s else g
 | _,_=>g
section
variable {m m':Sm} {g g':Gh} {s t:Nat} {a:Int} {z:Pz}
theorem xW.env(h:Gl m g)(e:Env s m g m' g')(d:t≠s)(K:xW t m g a z x):xW t m' g' a z x:=by
 refine⟨?_,K.er,K.own.env e d,(e.ddo t d).trans K.dd⟩;have b:=K.ok;have c:∀n,g.st n= .ow t->g'.st n= .ow t/\∀i,m' (.nd n i)=m (.nd n i):=λn l=>e.own n t l d;cases x with
 | sub x k=>exact⟨jB.env h e d b.1,b.2⟩
 | u1 n=>exact(c n b).1
 | u2 n=>exact⟨(c n b.1).1,by rw[(c n b.1).2];exact b.2⟩
 | u3 n w=>exact⟨(c n b.1).1,by rw[(c n b.1).2];exact b.2⟩
 | u4 n w=>exact⟨(c n b.1).1,by rw[(c n b.1).2];exact b.2.1,by rw[(c n b.1).2];exact b.2.2⟩
 | u5 n=>exact⟨(c n b.1).1,by rw[(c n b.1).2];exact b.2⟩
 | u6 n w=>exact⟨(c n b.1).1,by rw[(c n b.1).2];exact b.2⟩
 | u7 j n w p=>exact⟨(c n b.1).1,by rw[(c n b.1).2];exact b.2⟩
 | u8 n w p=>exact⟨(c n b.1).1,by rw[(c n b.1).2];exact b.2⟩
 | u9 n w p=>exact⟨(c n b.1).1,by rw[(c n b.1).2];exact b.2⟩
 | o2 f=>exact⟨b.1,(e.isS _ b.2).1⟩
 | o3 f below=>exact⟨b.1,(e.isS _ b.2.1).1,by rw[(e.isS _ b.2.1).2.1];exact b.2.2⟩
 | o4 n p=>exact(e.isS _ b).1
 | o5=>trivial
 | o6 w=>trivial
theorem JH{val i:Int}{is:Bool}(j:z.eras.length=3)(n:ey g s 0 0)(hd:g.dd s=z.gone.map (·.1)):uk s m g a (oT val is i z):=by
 have h:=qp (m:=m) (k:=.C) (o0:=0) (p0:=[]) Z j n (by simpa using hd) 0;unfold oT;cases b:df z 0 with
 | go x o=>
  rw[b]at h;obtain⟨f,q,e,c,d⟩:=h;exact⟨⟨q,f⟩,e,c,d⟩
 | ret r o=>
  rw[b]at h;obtain⟨f,e,c,d⟩:=h;have l:r= .un:=by
   unfold df at b;split at b<;>simp at b;exact b.1.symm
  rw[l]at c;exact⟨c,by simpa using d⟩
 | stuck=>rw[b]at h;exact h
theorem Oy{n:Int}{o:Out}{f:Pz->EX}(v:∀z,f z= .go (.sub (.r1 n) (.od o)) z)(l:z.eras.length=3)(q:ey g s 0 0)(hd:g.dd s=z.gone.map (·.1)++[n]):
  uk s m g a ((df z 0).jc (.orr n o) λ_ s=>f s)/\((df z 0).jc (.orr n o) λ_ s=>f s).eff=isN o.is:=by
 have h:=qp (m:=m) (k:=.C) (o0:=0) (p0:=[n]) Z l q hd 0;cases b:df z 0 with
 | go x i=>
  rw[b]at h;obtain⟨j,w,e,d,c⟩:=h;exact⟨⟨⟨w,j⟩,e,d,c⟩,Z⟩
 | ret r i=>
  rw[b]at h;obtain⟨j,e,d,c⟩:=h;have u:r= .un:=by
   unfold df at b;split at b<;>simp at b;exact b.1.symm
  rw[u]at d;show uk s m g a (f i)/\(f i).eff=_;rw[v];exact⟨⟨⟨show n∈g.dd s by rw[c];simp,Z⟩,e,d,c⟩,Z⟩
 | stuck=>rw[b]at h;exact absurd h (by simp[IX])
theorem EPh.nA(h:Gl m g)(j:xW s m g a z x):mz g (x.acc s a).c:=by
 have b:=j.ok;have S:∀n i,(g.st n).isS=O->0<=i->i<8->mz g (.nd n i):=λn i c e d=>by
  have:=h.rng n (Nv c);exact⟨this.1,this.2,e,d,λ_=>Nv c⟩
 cases x with
 | sub x k=>exact Sub.nA h b.1
 | u1 n=>exact mN h b zD zD
 | u3 n f=>exact mN h b.1 zD zD
 | o2 f=>exact S _ _ b.2 zD zD
 | o4 n p=>exact S _ _ b zD zD
 | _=>trivial
theorem pN(h:Gl m g){x:LAc}(b:x.k=3\/x.k=2)(f:x.c= .slot):Gl (x.mem m) g/\Env s m g (x.mem m) g/\(∀n i,x.mem m (.nd n i)=m (.nd n i)):=by
 have k:x.mem m=m\/x.mem m=bz m .slot x.v:=by
  rcases b with b|b
  ·cases d:(x.res m).2 with
   | false=>exact .inl (bx b d)
   | true=>obtain⟨_,j⟩:=bP b d;exact .inr (by rw[j,f])
  exact .inr (by rw[bF b,f])
 rcases k with e|e<;>rw[e]
 ·exact⟨h,Env.refl s m g,λ_ _=>Z⟩
 exact⟨h.bq (s:=s) (c:=.slot) trivial _,Env.bq h (c:=.slot) trivial _,λ_ _=>Z⟩
theorem EPh.step(h:Gl m g){th:Int}(Q:xW s m g a z x)(R:g.fc+1<268435456)(ht:g.tk<=37)(rr:((g.dd s).length:Int)<th):
  Gl ((x.acc s a).mem m) (x.gst s g ((x.acc s a).res m))/\Env s m g ((x.acc s a).mem m) (x.gst s g ((x.acc s a).res m))/\
  uk s ((x.acc s a).mem m) (x.gst s g ((x.acc s a).res m)) a (x.stp th a z ((x.acc s a).res m))/\(x.gst s g ((x.acc s a).res m)).tk+x.tk<=g.tk+(x.stp th a z ((x.acc s a).res m)).tk/\
  (x.gst s g ((x.acc s a).res m)).n+x.eff<=g.n+(x.stp th a z ((x.acc s a).res m)).eff:=by
 have d:=Q.ok;have l:=Q.er;have i:=Q.own;have hd:=Q.dd;cases x with
 | sub x k=>
  have hd2:g.dd s=z.gone.map (·.1)++(x.cu++k.cu):=hd;obtain⟨s1,s2,J,q,Y⟩:=Sub.step h (z:=z) (o0:=0) (p0:=k.cu) (th:=th) d.1 l i hd2 R ht (λ_=>Z) rr;refine⟨s1,s2,?_⟩;show uk s _ (x.gst s g ((x.acc s).res m)) a ((x.stp th z ((x.acc s).res m)).jc k λt s=>nu t s k)/\(x.gst s g ((x.acc s).res m)).tk+(x.tk+k.tk)<=g.tk+EX.tk ((x.stp th z ((x.acc s).res m)).jc k λt s=>nu t s k)/\(x.gst s g ((x.acc s).res m)).n+k.eff<=g.n+EX.eff ((x.stp th z ((x.acc s).res m)).jc k λt s=>nu t s k);rw[Y];cases L:x.stp th z ((x.acc s).res m)with
  | go T qb=>
   rw[L]at J q;obtain⟨u,qc,K,C,B⟩:=J;have q:(x.gst s g ((x.acc s).res m)).tk+x.tk<=g.tk+T.tk:=q;have hk':EKOk T k:=by
    have:=d.2;cases k<;>exact u.trans this
   exact⟨⟨⟨qc,hk'⟩,K,C,B⟩,by show _<=g.tk+(T.tk+k.tk);omega,aq _⟩
  | ret r qb=>
   rw[L]at J q;obtain⟨u,K,C,B⟩:=J;have q:(x.gst s g ((x.acc s).res m)).tk+x.tk<=g.tk+r.tkn:=q;have I:=d.2;have hi:∀b:Bool,isN b<=1:=λb=>by unfold isN;split<;>omega
   cases k with
   | ut=>
    rw[I]at u;cases r with
    | tk n p ok=>
     obtain⟨rfl,hn⟩:=u;exact⟨⟨hn,K,C,by simpa[EPh.cu,EK.cu] using B⟩,by show _<=g.tk+1;exact q,aq _⟩
    | _=>exact absurd u (by simp[jg])
   | ug p=>
    have G:r= .un:=by rw[I]at u;cases r<;>simp[jg]at u;rfl
    subst G;refine⟨⟨C,by simpa[EK.cu] using B⟩,?_,oU _⟩;have q:(x.gst s g ((x.acc s).res m)).tk+x.tk<=g.tk+0:=q;show _+(x.tk+1)<=g.tk+2;omega
   | og=>
    rw[I]at u;cases r with
    | gd dq p=>
     have q:(x.gst s g ((x.acc s).res m)).tk+x.tk<=g.tk+0:=q;have B:(x.gst s g ((x.acc s).res m)).dd s=qb.gone.map (·.1):=by simpa[EK.cu] using B
     show uk _ _ _ _ (if _ then _ else _)/\_<=g.tk+EX.tk (if _ then _ else _)/\g.n+0<=g.n+EX.eff (if _ then _ else _);split
     ·exact⟨JH K C B,by show _+(x.tk+0)<=_;omega,dT _ _⟩
     rename_i W;exact⟨⟨⟨W,u.2.resolve_left W⟩,K,C,by simpa[EPh.cu] using B⟩,by show _+(x.tk+0)<=g.tk+0;omega,aq _⟩
    | _=>exact absurd u (by simp[jg])
   | oc o=>
    have G:r= .un:=by rw[I]at u;cases r<;>simp[jg]at u;rfl
    subst G;have q:(x.gst s g ((x.acc s).res m)).tk+x.tk<=g.tk+0:=q;exact⟨⟨C,by simpa[EK.cu] using B⟩,by show _+(x.tk+0)<=g.tk+2;omega,Nat.add_le_add_left (hi _) _⟩
   | orr n o=>
    have G:r= .un:=by rw[I]at u;cases r<;>simp[jg]at u;rfl
    subst G;have q:(x.gst s g ((x.acc s).res m)).tk+x.tk<=g.tk+0:=q;exact⟨⟨⟨show n∈(x.gst s g ((x.acc s).res m)).dd s by rw[B];simp[EK.cu],Z⟩,K,C,by simpa[EPh.cu,EK.cu,Sub.cu] using B⟩,by show _+(x.tk+0)<=g.tk+(0+0);omega,aq _⟩
   | od o=>
    have G:r= .un:=by rw[I]at u;cases r<;>simp[jg]at u;rfl
    subst G;have q:(x.gst s g ((x.acc s).res m)).tk+x.tk<=g.tk+0:=q;exact⟨⟨C,by simpa[EK.cu] using B⟩,by show _+(x.tk+0)<=g.tk+2;omega,Nat.add_le_add_left (hi _) _⟩
  | stuck=>rw[L]at J;exact absurd J (by simp[IX])
 | u1 n=>
  rw[bF Z];exact⟨h.bq (s:=s) (c:=.nd n 1) d _,Env.bq h (c:=.nd n 1) d _,⟨⟨d,bU _ _ _⟩,l,i,hd⟩,aq _,aq _⟩
 | u2 n=>
  rw[a8 Z];exact⟨h,Env.refl s m g,⟨d,l,i,hd⟩,aq _,aq _⟩
 | u3 n dq=>
  rw[bF Z];exact⟨h.bq (s:=s) (c:=.nd n 0) d.1 _,Env.bq h (c:=.nd n 0) d.1 _,⟨⟨d.1,by show bz m (.nd n 0) _ (.nd n 1)=a;rw[dY m n 0 _ (.inr zD)];exact d.2,bU _ _ _⟩,l,i,hd⟩,aq _,aq _⟩
 | u4 n dq=>
  have hd2:g.dd s=z.gone.map (·.1):=by simpa[EPh.cu] using hd
  cases A:(((EPh.u4 n dq).acc s a).res m).2 with
  | false=>
   rw[bx Z A];have E:EPh.gst s g (.u4 n dq) (((EPh.u4 n dq).acc s a).res m)=g:=by simp[EPh.gst,A]
   have H:EPh.stp th a z (.u4 n dq) (((EPh.u4 n dq).acc s a).res m)= .go (.u5 n) z.got:=by simp[EPh.stp,A]
   rw[E,H];exact⟨h,Env.refl s m g,⟨⟨d.1,d.2.1⟩,l,i,hd⟩,aq _,aq _⟩
  | true=>
   obtain⟨D,S⟩:=bP (a:=(EPh.u4 n dq).acc s a) Z A;have D:m .top=dq:=D;rw[S];have E:EPh.gst s g (.u4 n dq) (((EPh.u4 n dq).acc s a).res m)=g.push n:=by simp[EPh.gst,A]
   have H:EPh.stp th a z (.u4 n dq) (((EPh.u4 n dq).acc s a).res m)=Ie 0 O z.made z.got:=by simp[EPh.stp,A]
   rw[E,H];have v:=h.push (s:=s) d.1 (by rw[D];exact d.2.2);rw[D]at v;refine⟨v,Env.push d.1 _,⟨?_,hd2⟩,by show g.tk+1<=g.tk+2;omega,aq _⟩;intro y;have P:=i y;show dO g.st n .sk y= .ow s ↔ _;by_cases e:y=n
   ·rw[e,bn];simp
   rw[br _ _ e,P];show _/\(y=n\/y=0) ↔ _;omega
 | u5 n=>
  rw[a8 Z];refine⟨h,Env.refl s m g,?_⟩;show uk _ _ _ _ (if _ then _ else _)/\g.tk+1<=g.tk+EX.tk (if _ then _ else _)/\g.n+0<=g.n+EX.eff (if _ then _ else _);split
  ·exact⟨⟨d,l,i,hd⟩,aq _,aq _⟩
  exact⟨⟨d,l,i,hd⟩,aq _,aq _⟩
 | u6 n w=>
  obtain⟨v,F,qa⟩:=pN (s:=s) h (x:=(EPh.u6 n w).acc s a) (.inl Z) Z;refine⟨v,F,?_⟩;show uk s _ g a (if _ then _ else _)/\g.tk+1<=g.tk+EX.tk (if _ then _ else _)/\g.n+0<=g.n+EX.eff (if _ then _ else _);have N:g.st n= .ow s/\((EPh.u6 n w).acc s a).mem m (.nd n 1)=a:=⟨d.1,by rw[qa];exact d.2⟩;split
  ·exact⟨⟨N,l,i,hd⟩,aq _,aq _⟩
  exact⟨⟨N,l,i,hd⟩,aq _,aq _⟩
 | u7 j n w p=>
  rw[a8 Z];refine⟨h,Env.refl s m g,?_⟩;show uk s _ g a (if _ then _ else if _ then _ else _)/\g.tk+1<=g.tk+EX.tk (if _ then _ else if _ then _ else _)/\g.n+0<=g.n+EX.eff (if _ then _ else if _ then _ else _);split
  ·exact⟨⟨d,l,i,hd⟩,aq _,aq _⟩
  split
  ·exact⟨⟨d,l,i,hd⟩,aq _,aq _⟩
  exact⟨⟨d,l,i,hd⟩,aq _,aq _⟩
 | u8 n w p=>
  obtain⟨v,F,qa⟩:=pN (s:=s) h (x:=(EPh.u8 n w p).acc s a) (.inl Z) Z;refine⟨v,F,?_⟩;show uk s _ g a (if _ then _ else _)/\g.tk+1<=g.tk+EX.tk (if _ then _ else _)/\g.n+0<=g.n+EX.eff (if _ then _ else _);have N:g.st n= .ow s/\((EPh.u8 n w p).acc s a).mem m (.nd n 1)=a:=⟨d.1,by rw[qa];exact d.2⟩;split
  ·exact⟨⟨N,l,i,hd⟩,aq _,aq _⟩
  exact⟨⟨N,l,i,hd⟩,aq _,aq _⟩
 | u9 n w p=>
  obtain⟨v,F,qa⟩:=pN (s:=s) h (x:=(EPh.u9 n w p).acc s a) (.inr Z) Z;exact⟨v,F,⟨⟨d.1,Z⟩,l,i,hd⟩,aq _,aq _⟩
 | o2 dq=>
  rw[a8 Z];exact⟨h,Env.refl s m g,⟨⟨d.1,d.2,dv _ _⟩,l,i,hd⟩,aq _,aq _⟩
 | o3 dq below=>
  have hd2:g.dd s=z.gone.map (·.1):=by simpa[EPh.cu] using hd
  cases A:(((EPh.o3 dq below).acc s a).res m).2 with
  | false=>
   rw[bx Z A];have E:EPh.gst s g (.o3 dq below) (((EPh.o3 dq below).acc s a).res m)=g:=by simp[EPh.gst,A]
   have H:EPh.stp th a z (.o3 dq below) (((EPh.o3 dq below).acc s a).res m)= .go .o5 z.got:=by simp[EPh.stp,A]
   rw[E,H];exact⟨h,Env.refl s m g,⟨trivial,l,i,hd⟩,aq _,aq _⟩
  | true=>
   obtain⟨D,S⟩:=bP (a:=(EPh.o3 dq below).acc s a) Z A;have D:m .top=dq:=D;rw[S];have E:EPh.gst s g (.o3 dq below) (((EPh.o3 dq below).acc s a).res m)=g.pop s:=by simp[EPh.gst,A]
   have H:EPh.stp th a z (.o3 dq below) (((EPh.o3 dq below).acc s a).res m)= .go (.o4 (idxOf dq) z.made) z.got:=by simp[EPh.stp,A]
   rw[E,H];have hi:=pY h;rw[D]at hi;obtain⟨r,M⟩:∃r,g.sk=idxOf dq :: r:=by
    cases V:g.sk with
    | nil=>rw[V]at hi;exact absurd hi d.1
    | cons y r=>rw[V]at hi;exact⟨r,by rw[hi];rfl⟩
   have v:=h.pop (s:=s) M;rw[D,<- d.2.2]at v;have L:g.st (idxOf dq)= .sk:=(h.smem _).1 (by rw[M];simp);have U:(g.pop s).st=dO g.st (idxOf dq) (.dsk s):=by simp[Gh.pop,M]
   refine⟨v,Env.pop h M _,⟨?_,l,?_,?_⟩,aq _,aq _⟩
   ·show ((g.pop s).st (idxOf dq)).isS=O;rw[U,bn];rfl
   ·intro y;have P:=i y;show (g.pop s).st y= .ow s ↔ _;rw[U];by_cases e:y=idxOf dq
    ·rw[e,bn];rw[e,L]at P;simp;exact λ_=>⟨d.1,d.1⟩
    rw[br _ _ e];exact P
   show (g.pop s).dd s=z.gone.map (·.1)++[idxOf dq];simp[Gh.pop,bL,hd2,M]
 | o4 n p=>
  rw[a8 Z];refine⟨h,Env.refl s m g,?_⟩;have R:=Oy (m:=m) (a:=a) (z:=z.got) (o:=⟨(((EPh.o4 n p).acc s a).res m).1,O,p,[]⟩) (f:=λs'=>.go (.sub (.r1 n) (.od ⟨(((EPh.o4 n p).acc s a).res m).1,O,p,[]⟩)) s') (λ_=>Z) l i hd;exact⟨R.1,dT _ _,Nat.add_le_add_left (Nat.le_of_eq R.2.symm) _⟩
 | o5=>
  have hd2:g.dd s=z.gone.map (·.1):=by simpa[EPh.cu] using hd
  rw[a8 Z];refine⟨h,Env.refl s m g,?_⟩;show uk s _ g a (if _ then _ else _)/\g.tk+0<=g.tk+EX.tk (if _ then _ else _)/\g.n+0<=g.n+EX.eff (if _ then _ else _);split
  ·exact⟨⟨⟨⟨zD,trivial⟩,Z⟩,l,i,hd⟩,aq _,aq _⟩
  exact⟨⟨trivial,l,i,hd⟩,aq _,aq _⟩
 | o6 w=>
  have hd2:g.dd s=z.gone.map (·.1):=by simpa[EPh.cu] using hd
  obtain⟨v,F,qa⟩:=pN (s:=s) h (x:=(EPh.o6 w).acc s a) (.inl Z) Z;refine⟨v,F,?_⟩;show uk s _ g a (if _ then _ else _)/\g.tk+0<=g.tk+EX.tk (if _ then _ else _)/\g.n+0<=g.n+EX.eff (if _ then _ else _);split
  ·exact⟨JH l i hd2,dT _ _,dT _ _⟩
  exact⟨⟨⟨⟨zD,trivial⟩,Z⟩,l,i,hd⟩,aq _,aq _⟩
end
end
section
variable {b j n x:Int} {i:Nat}
def CK.own:CK->Int
 | .sg bq=>bq
 | _=>0
def CK.eff:CK->Nat
 | .sv _=>1
 | .oc o=>isN o.is
 | _=>0
def mtk(n:Int):Nat:=if n≠0 then 1 else 0
def CK.tk:CK->Nat
 | .sg bq=>mtk bq
 | .sv _ | .oc _=>1
 | _=>0
def CPh.own:CPh->Int × Int
 | .sub x k=>(x.own,k.own)
 | .s2 n _ _ | .s3 n _ _ | .s4 n _ | .s5 n _ _ | .fl n _ _ | .s6 n _=>(n,0)
 | _=>(0,0)
def CPh.cu:CPh->List Int
 | .sub x _=>x.cu
 | _=>[]
def CPh.eff:CPh->Nat
 | .sub _ k=>k.eff
 | .s7 _ _ _=>1
 | _=>0
def CPh.tk:CPh->Nat
 | .sub x k=>x.tk+k.tk
 | .s2 n _ _ | .s3 n _ _ | .s4 n _ | .s5 n _ _=>mtk n
 | .fl _ _ _ | .s6 _ _ | .s7 _ _ _=>1
 | _=>0
def CX.eff:CX->Nat
 | .go x _=>x.eff
 | .out _=>1
 | .stuck=>0
def CX.tk:CX->Nat
 | .go x _=>x.tk
 | .out _=>2
 | .stuck=>0
def lu(m:Sm)(a n:Int):Prop:=n≠0->m (.nd n 0)=0/\m (.nd n 1)=a+2/\∀i,2<=i->i<=5->m (.nd n i)=0
def mC(m:Sm)(x j:Int):Prop:=∀i,1<=i->i<=j->m (.nd x i)≠0
def mZ(m:Sm)(x j:Int):Prop:=∀i,1<=i->i<=j->m (.nd x i)=1
def CKOk(m:Sm)(g:Gh)(a:Int)(x:Sub):CK->Prop
 | .sg bq=>x.cls= .G .tail/\lu m a bq
 | .st b=>x.cls= .T/\g.st (idxOf b)= .sg/\mC m (idxOf b) 5
 | .sv _=>x.cls= .V
 | .rg=>x.cls= .G .head
 | .oc _=>x.cls= .C
def COk(s:Nat)(m:Sm)(g:Gh)(a:Int):CPh->Prop
 | .sub x k=>jB s m g x/\CKOk m g a x k
 | .s2 n b i=>lu m a n/\g.st (idxOf b)= .sg/\i<5/\mC m (idxOf b) i
 | .s3 n b i=>lu m a n/\g.st (idxOf b)= .sg/\i<5/\mC m (idxOf b) i
 | .s4 n b=>lu m a n/\g.st (idxOf b)= .sg/\mC m (idxOf b) 5
 | .s5 n b d=>lu m a n/\g.st d= .sg/\g.st (idxOf b)= .sg/\m (.nd (idxOf b) 0)=d
 | .fl n b j=>g.st n= .ow s/\g.st (idxOf b)= .sg/\mC m (idxOf b) 5/\j<=5/\(0<j->m (.nd n 0)=0)/\(1<j->m (.nd n 1)=a+2)/\∀i:Int,2<=i->i<j->m (.nd n i)=0
 | .s6 n b=>g.st n= .ow s/\lu m a n/\g.st (idxOf b)= .sg/\mC m (idxOf b) 5
 | .s7 n _ _=>g.st n= .sg
 | .r2 b i=>g.st (idxOf b)= .sg/\i<5/\mZ m (idxOf b) i
 | .r3 b i c=>g.st (idxOf b)= .sg/\i<5/\mZ m (idxOf b) i/\c≠0/\c≠1/\(m (.nd (idxOf b) (1+i))=c\/m (.nd (idxOf b) (1+i))=1)
 | .r4 b=>g.st (idxOf b)= .sg/\mZ m (idxOf b) 5
structure yJ (s:Nat) (m:Sm) (g:Gh) (a:Int) (z:Pz) (x:CPh):Prop where
 av:0<=a/\a<4294967296
 ok:COk s m g a x
 er:z.eras.length=3
 own:ey g s x.own.1 x.own.2
 dd:g.dd s=z.gone.map (·.1)++x.cu
def yI(s:Nat)(m:Sm)(g:Gh)(a:Int):CX->Prop
 | .go x z=>yJ s m g a z x
 | .out o=>ey g s 0 0/\g.dd s=o.gone.map (·.1)
 | .stuck=>False
def CPh.gst(s:Nat)(g:Gh):CPh->Int × Bool->Gh
 | .sub x _,r=>x.gst s g r
 | .s3 _ _ _,r=>if r.2 then g.eff else g
 | .s6 n _,r=>if r.2 then g.app n else g
 | .r3 _ _ _,r=>if r.2 then g.eff else g
 | _,_=>g
section
variable {m m':Sm} {g g':Gh} {s t:Nat} {a:Int} {z:Pz}
theorem mC.env(e:Env s m g m' g')(d:g.st x= .sg)(f:j<=5)(h:mC m x j):mC m' x j:=
 λi b c=>by
  have:=(e.isC x d).2.2 i b M (h i b c);have:=h i b c;omega
theorem mZ.env(e:Env s m g m' g')(c:g.st x= .sg)(k:j<=5)(h:mZ m x j):mZ m' x j:=
 λi b d=>by
  have f:=h i b d;have:=(e.isC x c).2.2 i b M M;omega
theorem lu.same(f:n≠0->∀i,m' (.nd n i)=m (.nd n i))(h:lu m a n):lu m' a n:=λb=>by
 have e:=f b;obtain⟨k,l,c⟩:=h b;exact⟨by rw[e];exact k,by rw[e];exact l,λi j d=>by rw[e];exact c i j d⟩
theorem yJ.env{x:CPh}(h:Gl m g)(e:Env s m g m' g')(v:t≠s)(K:yJ t m g a z x):yJ t m' g' a z x:=by
 refine⟨K.av,?_,K.er,K.own.env e v,(e.ddo t v).trans K.dd⟩;have c:=K.ok;have q:=K.own;have u:∀n,g.st n= .ow t->g'.st n= .ow t/\∀i,m' (.nd n i)=m (.nd n i):=λn A=>e.own n t A v;have o:∀n,(n≠0->g.st n= .ow t)->lu m a n->lu m' a n:=λn A F=>F.same λd=>(u n (A d)).2;cases x with
 | sub x k=>
  refine⟨jB.env h e v c.1,?_⟩;have f:=c.2;cases k with
  | sg bq=>exact⟨f.1,o bq (λd=>(q bq).2 ⟨d,.inr Z⟩) f.2⟩
  | st l=>exact⟨f.1,(e.isC _ f.2.1).1,f.2.2.env e f.2.1 zD⟩
  | _=>exact f
 | s2 n l i=>exact⟨o n (λd=>(q n).2 ⟨d,.inl Z⟩) c.1,(e.isC _ c.2.1).1,c.2.2.1,c.2.2.2.env e c.2.1 (by have:=c.2.2.1;omega)⟩
 | s3 n l i=>exact⟨o n (λd=>(q n).2 ⟨d,.inl Z⟩) c.1,(e.isC _ c.2.1).1,c.2.2.1,c.2.2.2.env e c.2.1 (by have:=c.2.2.1;omega)⟩
 | s4 n l=>exact⟨o n (λd=>(q n).2 ⟨d,.inl Z⟩) c.1,(e.isC _ c.2.1).1,c.2.2.env e c.2.1 zD⟩
 | s5 n l G=>exact⟨o n (λd=>(q n).2 ⟨d,.inl Z⟩) c.1,(e.isC _ c.2.1).1,(e.isC _ c.2.2.1).1,by
  have J:=h.rng G (by rw[c.2.1];simp);rw[(e.isC _ c.2.2.1).2.1 (by rw[c.2.2.2];omega)];exact c.2.2.2⟩
 | fl n l j=>
  obtain⟨w,f,D,H,E,B,C⟩:=c;have y:=(u n w).2;exact⟨(u n w).1,(e.isC _ f).1,D.env e f zD,H,λh=>by rw[y];exact E h,λh=>by rw[y];exact B h,λi a b=>by rw[y];exact C i a b⟩
 | s6 n l=>exact⟨(u n c.1).1,o n (λ_=>c.1) c.2.1,(e.isC _ c.2.2.1).1,c.2.2.2.env e c.2.2.1 zD⟩
 | s7 n l p=>exact(e.isC _ c).1
 | r2 l i=>exact⟨(e.isC _ c.1).1,c.2.1,c.2.2.env e c.1 (by have:=c.2.1;omega)⟩
 | r3 l i I=>exact⟨(e.isC _ c.1).1,c.2.1,c.2.2.1.env e c.1 (by have:=c.2.1;omega),c.2.2.2.1,c.2.2.2.2.1,by
  have w:=c.2.2.2;have:=(e.isC _ c.1).2.2 (1+i) M (by have:=c.2.1;omega) M;omega⟩
 | r4 l=>exact⟨(e.isC _ c.1).1,c.2.env e c.1 zD⟩
theorem qt{val i:Int}{is:Bool}(q:0<=a/\a<4294967296)(j:z.eras.length=3)(n:ey g s 0 0)(hd:g.dd s=z.gone.map (·.1)):yI s m g a (iY val is i z):=by
 have h:=qp (m:=m) (k:=.C) (o0:=0) (p0:=[]) Z j n (by simpa using hd) 0;unfold iY;cases b:df z 0 with
 | go x o=>
  rw[b]at h;obtain⟨f,u,e,c,d⟩:=h;exact⟨q,⟨u,f⟩,e,c,by simpa[CPh.cu] using d⟩
 | ret r o=>
  rw[b]at h;obtain⟨f,e,c,d⟩:=h;have l:r= .un:=by
   unfold df at b;split at b<;>simp at b;exact b.1.symm
  rw[l]at c;exact⟨c,by simpa using d⟩
 | stuck=>rw[b]at h;exact h
theorem sG(val c:Int)(is:Bool)(z:Pz):isN is<=(iY val is c z).eff/\1<=(iY val is c z).tk:=by
 unfold iY;cases b:df z 0 with
 | go x d=>exact⟨aq _,eK _ _⟩
 | ret r d=>exact⟨by show isN is<=1;unfold isN;split<;>omega,by show 1<=2;omega⟩
 | stuck=>unfold df at b;split at b<;>simp at b
theorem rm(n:Int):mtk n<=1:=by unfold mtk;split<;>omega
theorem Cq(k:0<=a/\a<4294967296)(d:z.eras.length=3)(f:ey g s n 0)(hd:g.dd s=z.gone.map (·.1))(l:lu m a n)(o:g.st (idxOf b)= .sg)(w:i<5)(v:mC m (idxOf b) i)(u:m (.nd (idxOf b) (1+i))≠0):
  yI s m g a (jN n b i z)/\(jN n b i z).tk=mtk n/\(jN n b i z).eff=0:=by
 unfold jN;have h:mC m (idxOf b) ((i+1:Nat):Int):=λj c q=>by
  by_cases e:j=1+i
  ·rw[e];exact u
  exact v j c M
 split
 ·rename_i hi;exact⟨⟨k,⟨l,o,M,h⟩,d,f,by simpa[CPh.cu] using hd⟩,Z,Z⟩
 rename_i hi;exact⟨⟨k,⟨l,o,λj c q=>h j c M⟩,d,f,by simpa[CPh.cu] using hd⟩,Z,Z⟩
theorem Cr(k:0<=a/\a<4294967296)(d:z.eras.length=3)(f:ey g s 0 0)(hd:g.dd s=z.gone.map (·.1))(l:g.st (idxOf b)= .sg)(u:i<5)(q:mZ m (idxOf b) i)(o:m (.nd (idxOf b) (1+i))=1):
  yI s m g a (jO b i z)/\(jO b i z).tk=0/\(jO b i z).eff=0:=by
 unfold jO;have h:mZ m (idxOf b) ((i+1:Nat):Int):=λj c n=>by
  by_cases e:j=1+i
  ·rw[e];exact o
  exact q j c M
 split
 ·rename_i hi;exact⟨⟨k,⟨l,M,h⟩,d,f,by simpa[CPh.cu] using hd⟩,Z,Z⟩
 rename_i hi;exact⟨⟨k,⟨l,λj c n=>h j c M⟩,d,f,by simpa[CPh.cu] using hd⟩,Z,Z⟩
theorem tr{y:Int}:∀ {l:List Int},l.Nodup->x∈l->y∈l->x≠y->mV m x+mV m y<=fJ m l
 | [],_,h,_,_=>by simp at h
 | b :: r,hd,hx,hy,qQ=>by
  have k:=cS.1 hd;have one:∀ {l:List Int} {w:Int},w∈l->mV m w<=fJ m l:=by
   intro l;induction l with
   | nil=>intro w h;simp at h
   | cons c t j=>
    intro w d;unfold fJ at *;rw[s8,List.sum_cons];rcases aL.1 d with rfl|d
    ·omega
    have:=j d;omega
  have i:fJ m (b :: r)=mV m b+fJ m r:=by unfold fJ;rw[s8,List.sum_cons]
  rw[i];rcases aL.1 hx with rfl|f<;>rcases aL.1 hy with rfl|e
  ·exact absurd Z qQ
  ·have:=one (l:=r) e;omega
  ·have:=one (l:=r) f;omega
  have:=tr k.2 f e qQ;omega
theorem xJ{f:Int->Int}:∀ {l:List Int},Chn f l->l.Nodup->(∀y∈l,y≠0)->∀x∈l,f x≠x
 | [],_,_,_,x,h=>by simp at h
 | [b],hc,_,h0,x,h=>by
  simp at h;subst h;intro e;have:f x=0:=hc;exact h0 x zS (e.symm.trans this)
 | b :: c :: r,hc,hd,h0,x,h=>by
  have d:=cS.1 hd;rcases aL.1 h with rfl|h
  ·intro e;rw[hc.1]at e;exact d.1 (by rw[e];simp)
  exact xJ (l:=c :: r) hc.2 d.2 (λy i=>h0 y (cM _ i)) x h
theorem Ar(h:Gl m g)(k:g.st x= .sg)(i:m (.nd x 0)≠0):m (.nd x 0)∈g.sg/\m (.nd x 0)≠2/\m (.nd x 0)≠x:=by
 have d:=(h.cmem x).2 k;obtain⟨r,f⟩:=h.c2;have b:=h.cch;have c:=h.cnd;have j:∀y∈g.sg,y≠0:=λy l e=>by have:=tq h l;omega
 refine⟨?_,?_,xJ b c j x d⟩<;>(rw[f]at b d c;rcases sH b d with e|e)
 ·exact absurd e i
 ·rw[f];exact cM _ e
 ·exact absurd e i
 intro n;have e:m (.nd x 0)∈r:=e;rw[n]at e;exact(cS.1 c).1 e
theorem no_more(h:Gl m g)(n:g.n<=9)(c:g.st x= .sg)(b:mZ m x 5):m (.nd x 0)=0:=by
 refine db λf=>?_;obtain⟨d,k,i⟩:=Ar h c f;have j:=h.cfst _ d k;have l:=tr (m:=m) h.cnd ((h.cmem x).2 c) d (λe=>i e.symm);have o:mV m x=10:=by
  unfold mV nzP rcP;rw[b 1 zD zD,b 2 zD zD,b 3 zD zD,b 4 zD zD,b 5 zD zD];decide
 have q:1<=mV m (m (.nd x 0)):=by
  unfold mV nzP;rw[if_pos j];omega
 have:=h.cnt;omega
theorem CPh.nA(h:Gl m g){x:CPh}(l:yJ s m g a z x):mz g (x.acc s a).c:=by
 have b:=l.ok;have C:∀n i,g.st n= .sg->0<=i->i<8->mz g (.nd n i):=λn i d f e=>by
  have:=h.rng n (by rw[d];simp);exact⟨this.1,this.2,f,e,λ_=>by rw[d];simp⟩
 cases x with
 | sub x k=>exact Sub.nA h b.1
 | s2 n c i=>exact C _ _ b.2.1 M (by have:=b.2.2.1;omega)
 | s3 n c i=>exact C _ _ b.2.1 M (by have:=b.2.2.1;omega)
 | s4 n c=>exact C _ _ b.2.1 zD zD
 | fl n c j=>exact mN h b.1 M (by have:=b.2.2.2.1;omega)
 | s6 n c=>exact C _ _ b.2.2.1 zD zD
 | r2 c i=>exact C _ _ b.1 M (by have:=b.2.1;omega)
 | r3 c i o=>exact C _ _ b.1 M (by have:=b.2.1;omega)
 | r4 c=>exact C _ _ b.1 zD zD
 | _=>trivial
theorem yM(h:Gl m g){x:LAc}(c:x.k=3)(k:x.c= .tail){w:Int}(d:x.v=dC w n)(j:g.st n= .sg):Gl (x.mem m) g/\Env s m g (x.mem m) g/\(∀n i,x.mem m (.nd n i)=m (.nd n i)):=by
 cases b:(x.res m).2 with
 | false=>rw[bx c b];exact⟨h,Env.refl s m g,λ_ _=>rfl⟩
 | true=>
  obtain⟨_,f⟩:=bP c b;rw[f,k,d];exact⟨h.tail ((h.cmem n).2 j),Env.plain (by intro x i e;cases e) (by intro e;cases e),λ_ _=>rfl⟩
theorem CPh.step(h:Gl m g){x:CPh}{th:Int}(hx:yJ s m g a z x)(hc:g.fc+1<268435456)(ht:g.tk<=37)(hn9:g.n<=9)(rr:((g.dd s).length:Int)<th):
  Gl ((x.acc s a).mem m) (x.gst s g ((x.acc s a).res m))/\Env s m g ((x.acc s a).mem m) (x.gst s g ((x.acc s a).res m))/\
  yI s ((x.acc s a).mem m) (x.gst s g ((x.acc s a).res m)) a (x.stp th a z ((x.acc s a).res m))/\(x.gst s g ((x.acc s a).res m)).tk+x.tk<=g.tk+(x.stp th a z ((x.acc s a).res m)).tk/\
  (x.gst s g ((x.acc s a).res m)).n+x.eff<=g.n+(x.stp th a z ((x.acc s a).res m)).eff:=by
 have ha:=hx.av;have fC:=hx.ok;have hz:=hx.er;have hO:=hx.own;have hd:=hx.dd;cases x with
 | sub x k=>
  have tR:k.own≠0->∃c,x.cls= .G c:=by
   intro hv;have h2:=fC.2;cases k with
   | sg bq=>exact⟨_,h2.1⟩
   | _=>exact absurd Z hv
  have hV:x.cls= .V->k.own=0:=by
   intro hv;refine db λqQ=>?_;obtain⟨c,e⟩:=tR qQ;rw[hv]at e;cases e
  have hd2:g.dd s=z.gone.map (·.1)++(x.cu++[]):=by simpa[CPh.cu] using hd
  obtain⟨s1,s2,s3,s4,s5⟩:=Sub.step h (z:=z) (o0:=k.own) (p0:=[]) (th:=th) fC.1 hz hO hd2 hc ht hV rr;have hk':∀x':Sub,x'.cls=x.cls->CKOk ((x.acc s).mem m) (x.gst s g ((x.acc s).res m)) a x' k:=by
   intro x' NA;have h2:=fC.2;cases k with
   | sg bq=>exact⟨NA.trans h2.1,h2.2.same λh0 i=>L6 (.inl (tR h0)) _ _⟩
   | st dq=>exact⟨NA.trans h2.1,(s2.isC _ h2.2.1).1,h2.2.2.env s2 h2.2.1 zD⟩
   | sv p=>exact NA.trans h2
   | rg=>exact NA.trans h2
   | oc o=>exact NA.trans h2
  refine⟨s1,s2,?_⟩;show yI s _ (x.gst s g ((x.acc s).res m)) a ((x.stp th z ((x.acc s).res m)).oM k λt s=>oS t s k)/\(x.gst s g ((x.acc s).res m)).tk+(x.tk+k.tk)<=g.tk+CX.tk ((x.stp th z ((x.acc s).res m)).oM k λt s=>oS t s k)/\(x.gst s g ((x.acc s).res m)).n+k.eff<=g.n+CX.eff ((x.stp th z ((x.acc s).res m)).oM k λt s=>oS t s k);rw[s5];cases lh:x.stp th z ((x.acc s).res m)with
  | go x' z'=>
   rw[lh]at s3 s4;obtain⟨a1,a2,a3,a4,a5⟩:=s3;have s4:(x.gst s g ((x.acc s).res m)).tk+x.tk<=g.tk+x'.tk:=s4;exact⟨⟨ha,⟨a2,hk' x' a1⟩,a3,a4,by simpa[CPh.cu] using a5⟩,by show _<=g.tk+(x'.tk+k.tk);omega,aq _⟩
  | ret r z'=>
   rw[lh]at s3 s4;obtain⟨a1,a3,a4,a5⟩:=s3;have s4:(x.gst s g ((x.acc s).res m)).tk+x.tk<=g.tk+r.tkn:=s4;have oP:=hk' x Z;have a5:(x.gst s g ((x.acc s).res m)).dd s=z'.gone.map (·.1):=by simpa using a5
   cases k with
   | sg bq=>
    rw[oP.1]at a1;cases r with
    | gd dq p=>
     have s4:(x.gst s g ((x.acc s).res m)).tk+x.tk<=g.tk+0:=s4;refine⟨⟨ha,⟨oP.2,a1.2,zD,λi h1 h2=>by omega⟩,a3,a4.swap,by simpa[CPh.cu] using a5⟩,?_,aq _⟩;show _+(x.tk+mtk bq)<=g.tk+mtk bq;omega
    | _=>exact absurd a1 (by simp[jg])
   | st dq=>
    rw[oP.1]at a1;cases r with
    | tk n p ok=>
     obtain⟨rfl,hn⟩:=a1;refine⟨⟨ha,⟨hn,oP.2.1,oP.2.2,zD,λh=>absurd h zD,λh=>absurd h zD,λi h1 h2=>by omega⟩,a3,a4,by simpa[CPh.cu] using a5⟩,by show _<=g.tk+1;exact s4,aq _⟩
    | _=>exact absurd a1 (by simp[jg])
   | sv p=>
    have hu:r= .un:=by rw[show x.cls= .V from oP]at a1;cases r<;>simp[jg]at a1;rfl
    subst hu;have s4:(x.gst s g ((x.acc s).res m)).tk+x.tk<=g.tk+0:=s4;have h1:=sG 0 p O z';refine⟨qt ha a3 a4 a5,?_,Nat.add_le_add_left h1.1 _⟩;show _+(x.tk+1)<=g.tk+(iY 0 O p z').tk;omega
   | rg=>
    rw[show x.cls= .G .head from oP]at a1;cases r with
    | gd dq p=>
     have s4:(x.gst s g ((x.acc s).res m)).tk+x.tk<=g.tk+0:=s4;refine⟨⟨ha,⟨a1.2,zD,λi h1 h2=>by omega⟩,a3,a4,by simpa[CPh.cu] using a5⟩,?_,aq _⟩;show _+(x.tk+0)<=g.tk+0;omega
    | _=>exact absurd a1 (by simp[jg])
   | oc o=>
    have hu:r= .un:=by rw[show x.cls= .C from oP]at a1;cases r<;>simp[jg]at a1;rfl
    subst hu;have s4:(x.gst s g ((x.acc s).res m)).tk+x.tk<=g.tk+0:=s4;exact⟨⟨a4,a5⟩,by show _+(x.tk+1)<=g.tk+2;omega,Nat.add_le_add_left (by show isN o.is<=1;unfold isN;split<;>omega) _⟩
  | stuck=>rw[lh]at s3;exact absurd s3 (by simp[IX])
 | s2 n dq i=>
  have hd2:g.dd s=z.gone.map (·.1):=by simpa[CPh.cu] using hd
  rw[a8 Z];refine⟨h,Env.refl s m g,?_⟩;have hv:(((CPh.s2 n dq i).acc s a).res m).1=m (.nd (idxOf dq) (1+i)):=dv _ _;show yI s _ g a (if _ then _ else _)/\g.tk+mtk n<=g.tk+CX.tk (if _ then _ else _)/\g.n+0<=g.n+CX.eff (if _ then _ else _);rw[hv];split
  ·exact⟨⟨ha,fC,hz,hO,hd⟩,aq _,aq _⟩
  rename_i h0;have h1:=Cq (n:=n) (z:=z.got) ha hz hO hd2 fC.1 fC.2.1 fC.2.2.1 fC.2.2.2 h0;exact⟨h1.1,M,M⟩
 | s3 n dq i=>
  have hd2:g.dd s=z.gone.map (·.1):=by simpa[CPh.cu] using hd
  have hi:=fC.2.2.1;cases hr:(((CPh.s3 n dq i).acc s a).res m).2 with
  | false=>
   rw[bx Z hr];have e1:CPh.gst s g (.s3 n dq i) (((CPh.s3 n dq i).acc s a).res m)=g:=by simp[CPh.gst,hr]
   have e2:CPh.stp th a z (.s3 n dq i) (((CPh.s3 n dq i).acc s a).res m)=jN n dq i z.got:=by simp[CPh.stp,hr]
   rw[e1,e2];have h0:m (.nd (idxOf dq) (1+i))≠0:=by
    intro e;simp[LAc.res,CPh.acc,e]at hr
   have h1:=Cq (n:=n) (z:=z.got) ha hz hO hd2 fC.1 fC.2.1 fC.2.2.1 fC.2.2.2 h0;exact⟨h,Env.refl s m g,h1.1,by show g.tk+mtk n<=_;omega,by show g.n+0<=_;omega⟩
  | true=>
   obtain⟨hm,hw⟩:=bP (a:=(CPh.s3 n dq i).acc s a) Z hr;have hm:m (.nd (idxOf dq) (1+i))=0:=hm;rw[hw];have e1:CPh.gst s g (.s3 n dq i) (((CPh.s3 n dq i).acc s a).res m)=g.eff:=by simp[CPh.gst,hr]
   have e2:CPh.stp th a z (.s3 n dq i) (((CPh.s3 n dq i).acc s a).res m)=if n≠0 then .go (.sub (.v1 n) (.sv z.made)) z.got else iY 0 O z.made z.got:=by simp[CPh.stp,hr]
   rw[e1,e2];have g1:=h.place (v:=a+2) (n:=idxOf dq) (i:=1+i) fC.2.1 M M M (.inr ⟨hm,M⟩);have g2:Env s m g (bz m (.nd (idxOf dq) (1+i)) (a+2)) g.eff:=Env.place fC.2.1 M M (λe=>absurd hm e);refine⟨g1,g2,?_⟩;have hmt:=rm n;split
   ·rename_i h0;refine⟨⟨ha,⟨(hO n).2 ⟨h0,.inl Z⟩,Z⟩,hz,hO,hd⟩,?_,aq _⟩;show g.tk+mtk n<=g.tk+(0+1);omega
   rename_i h0;have h0:n=0:=by simpa using h0
   have h1:=sG 0 z.made O z.got;subst h0;refine⟨qt ha hz hO hd2,?_,Nat.add_le_add_left h1.1 _⟩;show g.tk+mtk 0<=g.tk+(iY 0 O z.made z.got).tk;omega
 | s4 n dq=>
  have hd2:g.dd s=z.gone.map (·.1):=by simpa[CPh.cu] using hd
  rw[a8 Z];refine⟨h,Env.refl s m g,?_⟩;have hv:(((CPh.s4 n dq).acc s a).res m).1=m (.nd (idxOf dq) 0):=dv _ _;show yI s _ g a (if _ then _ else if _ then _ else _)/\g.tk+mtk n<=g.tk+CX.tk (if _ then _ else if _ then _ else _)/\g.n+0<=g.n+CX.eff (if _ then _ else if _ then _ else _);rw[hv];split
  ·rename_i h0;exact⟨⟨ha,⟨fC.1,(h.cmem _).1 (Ar h fC.2.1 h0).1,fC.2.1,Z⟩,hz,hO,hd⟩,aq _,aq _⟩
  split
  ·rename_i h0;subst h0;refine⟨⟨ha,⟨trivial,Z,fC.2⟩,hz,hO,hd⟩,?_,aq _⟩;show g.tk+mtk 0<=_;exact dT _ _
  rename_i h0;refine⟨⟨ha,⟨(hO n).2 ⟨h0,.inl Z⟩,fC⟩,hz,hO,hd⟩,?_,aq _⟩;have:=rm n;show g.tk+mtk n<=g.tk+1;omega
 | s5 n dq nx=>
  have hd2:g.dd s=z.gone.map (·.1):=by simpa[CPh.cu] using hd
  obtain⟨g1,g2,g3⟩:=yM (s:=s) h (x:=(CPh.s5 n dq nx).acc s a) Z Z Z fC.2.1;refine⟨g1,g2,⟨ha,⟨⟨zD,trivial⟩,Z,fC.1.same λ_ i=>g3 n i⟩,hz,hO.swap,hd⟩,?_,aq _⟩;show g.tk+mtk n<=g.tk+(0+mtk n);omega
 | fl n dq j=>
  obtain⟨h1,h2,h3,h4,h5,h6,h7⟩:=fC;rw[bF Z];have g1:=h.bq (s:=s) (c:=.nd n j) h1 (if j=1 then a+2 else 0);have g2:Env s m g (bz m (.nd n j) (if j=1 then a+2 else 0)) g:=Env.bq h (c:=.nd n j) h1 _;refine⟨g1,g2,?_⟩;show yI s _ g a (if _ then _ else _)/\g.tk+1<=g.tk+CX.tk (if _ then _ else _)/\g.n+0<=g.n+CX.eff (if _ then _ else _);have f0:bz m (.nd n j) (if j=1 then a+2 else 0) (.nd n 0)=0:=by
   by_cases e:j=0
   ·subst e;exact bU _ _ _
   rw[dY m n j _ (.inr M)];exact h5 M
  have f1:1<=j->bz m (.nd n j) (if j=1 then a+2 else 0) (.nd n 1)=a+2:=by
   intro hj;by_cases e:j=1
   ·subst e;exact bU _ _ _
   rw[dY m n j _ (.inr M)];exact h6 M
  have f2:∀i,2<=i->i<(j:Int)+1->bz m (.nd n j) (if j=1 then a+2 else 0) (.nd n i)=0:=by
   intro i i2 ij;by_cases e:i=j
   ·rw[e,bU,if_neg M]
   rw[dY m n j _ (.inr e)];exact h7 i i2 M
  split
  ·rename_i hj;exact⟨⟨ha,⟨h1,(g2.isC _ h2).1,h3.env g2 h2 zD,M,λ_=>f0,λhh=>f1 M,λi i2 ij=>f2 i i2 M⟩,hz,hO,hd⟩,aq _,aq _⟩
  rename_i hj;exact⟨⟨ha,⟨h1,λ_=>⟨f0,f1 M,λi i2 ij=>f2 i i2 M⟩,(g2.isC _ h2).1,h3.env g2 h2 zD⟩,hz,hO,hd⟩,aq _,aq _⟩
 | s6 n dq=>
  have hd2:g.dd s=z.gone.map (·.1):=by simpa[CPh.cu] using hd
  obtain⟨hn,hmine,hw2,hful⟩:=fC;have Iy:n≠0:=by have:=h.rng n (by rw[hn];simp);omega
  cases hr:(((CPh.s6 n dq).acc s a).res m).2 with
  | false=>
   rw[bx Z hr];have e1:CPh.gst s g (.s6 n dq) (((CPh.s6 n dq).acc s a).res m)=g:=by simp[CPh.gst,hr]
   have e2:CPh.stp th a z (.s6 n dq) (((CPh.s6 n dq).acc s a).res m)=oN n z.got:=by simp[CPh.stp,hr]
   rw[e1,e2];refine⟨h,Env.refl s m g,⟨ha,⟨⟨zD,trivial⟩,Z,hmine⟩,hz,hO.swap,hd⟩,?_,aq _⟩;show g.tk+1<=g.tk+(0+mtk n);unfold mtk;rw[if_pos Iy];omega
  | true=>
   obtain⟨hm,hw⟩:=bP (a:=(CPh.s6 n dq).acc s a) Z hr;have hm:m (.nd (idxOf dq) 0)=0:=hm;rw[hw];have e1:CPh.gst s g (.s6 n dq) (((CPh.s6 n dq).acc s a).res m)=g.app n:=by simp[CPh.gst,hr]
   have e2:CPh.stp th a z (.s6 n dq) (((CPh.s6 n dq).acc s a).res m)= .go (.s7 n dq z.made) z.got:=by simp[CPh.stp,hr]
   rw[e1,e2];obtain⟨m0,m1,m2⟩:=hmine Iy;have g1:=h.app (s:=s) hw2 hm (λi i1 i5=>hful i i1 i5) hn m0 m1 M m2;have g2:Env s m g (bz m (.nd (idxOf dq) 0) n) (g.app n):=Env.app hw2 hm hn;refine⟨g1,g2,⟨ha,?_,hz,?_,hd⟩,aq _,aq _⟩
   ·show dO g.st n .sg n= .sg;exact bn _ _ _
   intro y;have hy:=hO y;show dO g.st n .sg y= .ow s ↔ y≠0/\(y=0\/y=0);by_cases e:y=n
   ·rw[e,bn];simp
   rw[br _ _ e,hy];show _/\(y=n\/y=0) ↔ _;omega
 | s7 n dq p=>
  have hd2:g.dd s=z.gone.map (·.1):=by simpa[CPh.cu] using hd
  obtain⟨g1,g2,g3⟩:=yM (s:=s) h (x:=(CPh.s7 n dq p).acc s a) Z Z Z fC;have h1:=sG 0 p O z.got;refine⟨g1,g2,qt ha hz hO hd2,?_,Nat.add_le_add_left h1.1 _⟩;show g.tk+1<=g.tk+(iY 0 O p z.got).tk;omega
 | r2 dq i=>
  have hd2:g.dd s=z.gone.map (·.1):=by simpa[CPh.cu] using hd
  rw[a8 Z];refine⟨h,Env.refl s m g,?_⟩;have hv:(((CPh.r2 dq i).acc s a).res m).1=m (.nd (idxOf dq) (1+i)):=dv _ _;show yI s _ g a (if _ then _ else if _ then _ else _)/\g.tk+0<=g.tk+CX.tk (if _ then _ else if _ then _ else _)/\g.n+0<=g.n+CX.eff (if _ then _ else if _ then _ else _);rw[hv];split
  ·exact⟨qt ha hz hO hd2,dT _ _,dT _ _⟩
  split
  ·rename_i h0 h1;have h1:=Cr (z:=z.got) ha hz hO hd2 fC.1 fC.2.1 fC.2.2 h1;exact⟨h1.1,dT _ _,dT _ _⟩
  rename_i h0 h1;exact⟨⟨ha,⟨fC.1,fC.2.1,fC.2.2,h0,h1,.inl Z⟩,hz,hO,hd⟩,aq _,aq _⟩
 | r3 dq i has=>
  have hd2:g.dd s=z.gone.map (·.1):=by simpa[CPh.cu] using hd
  have hi:=fC.2.1;cases hr:(((CPh.r3 dq i has).acc s a).res m).2 with
  | false=>
   rw[bx Z hr];have e1:CPh.gst s g (.r3 dq i has) (((CPh.r3 dq i has).acc s a).res m)=g:=by simp[CPh.gst,hr]
   have e2:CPh.stp th a z (.r3 dq i has) (((CPh.r3 dq i has).acc s a).res m)=jO dq i z.got:=by simp[CPh.stp,hr]
   rw[e1,e2];have h0:m (.nd (idxOf dq) (1+i))=1:=by
    refine fC.2.2.2.2.2.resolve_left λe=>?_;simp[LAc.res,CPh.acc,e]at hr
   have h1:=Cr (z:=z.got) ha hz hO hd2 fC.1 fC.2.1 fC.2.2.1 h0;exact⟨h,Env.refl s m g,h1.1,dT _ _,dT _ _⟩
  | true=>
   obtain⟨hm,hw⟩:=bP (a:=(CPh.r3 dq i has).acc s a) Z hr;have hm:m (.nd (idxOf dq) (1+i))=has:=hm;rw[hw];have e1:CPh.gst s g (.r3 dq i has) (((CPh.r3 dq i has).acc s a).res m)=g.eff:=by simp[CPh.gst,hr]
   have e2:CPh.stp th a z (.r3 dq i has) (((CPh.r3 dq i has).acc s a).res m)=iY (has-2) O z.made z.got:=by simp[CPh.stp,hr]
   rw[e1,e2];have g1:=h.place (v:=1) (n:=idxOf dq) (i:=1+i) fC.1 M M M (.inl ⟨by rw[hm];exact fC.2.2.2.2.1,Z,by rw[hm];exact fC.2.2.2.1⟩);have g2:Env s m g (bz m (.nd (idxOf dq) (1+i)) 1) g.eff:=Env.place fC.1 M M (λ_=>Z);have h1:=sG (has-2) z.made O z.got;exact⟨g1,g2,qt ha hz hO hd2,dT _ _,Nat.add_le_add_left h1.1 _⟩
 | r4 dq=>
  have hd2:g.dd s=z.gone.map (·.1):=by simpa[CPh.cu] using hd
  rw[a8 Z];refine⟨h,Env.refl s m g,?_⟩;have hv:(((CPh.r4 dq).acc s a).res m).1=m (.nd (idxOf dq) 0):=dv _ _;have e2:CPh.stp th a z (.r4 dq) (((CPh.r4 dq).acc s a).res m)=iY 0 X z.made z.got:=by
   show (if _ then _ else _)=_;rw[hv];exact if_pos (no_more h hn9 fC.1 fC.2)
  rw[e2];exact⟨qt ha hz hO hd2,dT _ _,dT _ _⟩
end
end
section
variable {c:Int}
def rk(m:Sm)(g:Gh)(c:Int):Nat:=if c=0 then 0 else(eF 41).countP λ(n:Nat)=>(g.st (n:Int)).isL&&decide (bT m c<=bT m (n:Int))
def dU(m:Sm)(z:Pz):Sub->Nat
 | .g1 i _=>if z.eras.getD i 0=m .era then 2 else 5
 | .g2 i _ _=>if z.eras.getD i 0=m .era then 1 else 4
 | .g3 _ _ e=>if e=m .era then 3 else 6
 | .t1=>5
 | .t2 a=>if m .free=a then 4 else 7
 | .t3 a _=>if m .free=a then 3 else 6
 | .t4 _ _=>2
 | .t5 _ _ _=>1
 | .v1 _=>3
 | .v2 _ a=>if m .free=a then 2 else 5
 | .v3 _ a=>if m .free=a then 1 else 4
 | .cl i=>3-i
 | .r1 _=>2
 | .r2 _ _=>1
def SX.rho(m:Sm):SX->Nat
 | .go x z=>dU m z x
 | _=>0
def Sub.now(m:Sm):Sub->Bool
 | .g2 _ c v=>m c==v
 | _=>O
section
variable {m m':Sm} {g g':Gh} {s t:Nat} {z:Pz}
theorem yW(m:Sm)(g:Gh)(c:Int):rk m g c<=41:=by
 unfold rk;split
 ·omega
 exact aF List.countP_le_length zS
theorem rk_zero(m:Sm)(g:Gh):rk m g 0=0:=by simp[rk]
theorem zZ{α:Type}{P Q:α->Bool}{x:α}:∀ {l:List α},(∀y∈l,Q y=O->P y=O)->x∈l->P x=O->Q x=X->l.countP Q+1<=l.countP P
 | [],_,h,_,_=>by simp at h
 | a :: r,h,b,h1,h2=>by
  rw[List.countP_cons,List.countP_cons];have e:r.countP Q<=r.countP P:=List.countP_mono_left λy c=>h y (cM _ c);rcases aL.1 b with rfl|b
  ·rw[h1,h2];simp;exact e
  have:=zZ (λy c=>h y (cM _ c)) b h1 h2;have f:=h a zS;cases d:Q a
  ·simp;omega
  rw[f d];simp;omega
theorem At(h:Gl m g){d:Int}(f:(g.st c).isL=O)(hd:d=0\/(g.st d).isL=O/\bT m c<bT m d):rk m g d+1<=rk m g c:=by
 have k:=fX h f;have a:c.toNat∈eF 41:=lK.2 M;have b:((c.toNat:Nat):Int)=c:=M;unfold rk;rw[if_neg (show c≠0 by omega)];have i:((g.st ((c.toNat:Nat):Int)).isL&&decide (bT m c<=bT m ((c.toNat:Nat):Int)))=O:=by rw[b];simp[f]
 split
 ·have:=(List.countP_pos_iff (p:=λ(n:Nat)=>(g.st (n:Int)).isL&&decide (bT m c<=bT m (n:Int)))).2 ⟨_,a,i⟩;omega
 rename_i j;have hd:=hd.resolve_left j;refine zZ (x:=c.toNat) ?_ a i ?_
 ·intro y _ e;simp only[bN,decide_eq_true_eq]at e ⊢;exact⟨e.1,M⟩
 rw[b];simp;intro _;omega
theorem rk_pos(h:Gl m g)(a:(g.st c).isL=O):1<=rk m g c:=by
 have:=At h a (.inl Z);rw[rk_zero]at this;omega
structure pF (m:Sm) (g:Gh) (m':Sm) (g':Gh):Prop where
 st:∀n,(g'.st n).isL=(g.st n).isL
 key:∀n,(g.st n).isL=O->bT m' n=bT m n
theorem pF.rk(h:pF m g m' g')(a:c=0\/(g.st c).isL=O):rk m' g' c=rk m g c:=by
 unfold Go.Proofs.YtikdaeddbkopeaaGreatR.rk;split
 ·rfl
 rename_i b;have a:=a.resolve_left b;refine List.countP_congr λn _=>?_;rw[h.st,h.key c a];cases d:(g.st (n:Int)).isL
 ·simp
 rw[h.key _ d]
theorem pF.refl(m:Sm)(g:Gh):pF m g m g:=⟨λ_=>Z,λ_ _=>Z⟩
theorem pF.M1(e:Env s m g m' g')(h:∀n,(g'.st n).isL=O->(g.st n).isL=O):pF m g m' g':=by
 refine⟨λn=>?_,λn a=>gV e a⟩;cases a:(g.st n).isL
 ·cases b:(g'.st n).isL
  ·rfl
  rw[h n b]at a;cases a
 exact(e.isL n a).1
theorem Cs{e:List Int}:∀ {f i j:Nat},qN e f i=J j->i<=j/\j<i+f
 | 0,_,_,h=>by cases h
 | f+1,i,j,h=>by
  unfold qN at h;split at h
  ·injection h with h;omega
  have:=Cs h;omega
theorem nG(m:Sm)(z:Pz)(i:Nat)(hi:i<=3):(df z i).rho m<=3-i:=by
 unfold df;cases a:qN z.eras (3-i) i with
 | none=>exact aN _
 | some j=>
  have:=Cs a;show 3-j<=3-i;omega
theorem Sub.dec(h:Gl m g){x:Sub}{th:Int}(l:jB s m g x)(o:z.eras.length=3):(x.stp th z ((x.acc s).res m)).rho ((x.acc s).mem m)+1<=dU m z x:=by
 cases x with
 | g1 i c=>rw[a8 Z];show (if z.eras.getD i 0=m .era then 1 else 4)+1<=if z.eras.getD i 0=m .era then 2 else 5;split<;>omega
 | g2 i c v=>
  rw[a8 Z];have k:(((Sub.g2 i c v).acc s).res m).1=m .era:=dv _ _;show SX.rho m (if _ then _ else _)+1<=if z.eras.getD i 0=m .era then 1 else 4
  rw[k];by_cases e:m .era=z.eras.getD i 0
  ·rw[if_pos e,if_pos e.symm];exact aq _
  rw[if_neg e,if_neg (λh=>e h.symm)];show (if m .era=m .era then 3 else 6)+1<=4;rw[if_pos Z];exact aq _
 | g3 i c e=>
  rw[bF Z];show (if (z.eras.set i e).getD i 0=m .era then 2 else 5)+1<=if e=m .era then 3 else 6
  have:(z.eras.set i e).getD i 0=e:=by
   have:=l.1;simp[List.getD,List.getElem?_set,o,this]
  rw[this];split<;>omega
 | t1=>
  rw[a8 Z];have k:((Sub.t1.acc s).res m).1=m .free:=dv _ _;show SX.rho m (if _ then _ else _)+1<=5;rw[k];split
  ·show 0+1<=5;omega
  show (if m .free=m .free then 4 else 7)+1<=5;rw[if_pos Z];exact aq _
 | t2 a=>rw[a8 Z];show (if m .free=a then 3 else 6)+1<=if m .free=a then 4 else 7;split<;>omega
 | t3 a j=>
  by_cases e:m .free=a
  ·have d:((Sub.t3 a j).acc s |>.res m).2=O:=by simp[LAc.res,Sub.acc,e]
   have f:Sub.stp th z (.t3 a j) (((Sub.t3 a j).acc s).res m)= .go (.t4 (idxOf a) z.made) z.got:=by simp[Sub.stp,d]
   rw[f];show 2+1<=if m .free=a then 3 else 6
   rw[if_pos e];exact aq _
  have d:((Sub.t3 a j).acc s |>.res m).2=X:=by simp[LAc.res,Sub.acc,e]
  have f:Sub.stp th z (.t3 a j) (((Sub.t3 a j).acc s).res m)= .go .t1 z.got:=by simp[Sub.stp,d]
  rw[f];show 5+1<=if m .free=a then 3 else 6
  rw[if_neg e];exact aq _
 | t4 n p=>exact aq _
 | t5 n b p=>exact aq _
 | v1 n=>
  rw[a8 Z];have k:(((Sub.v1 n).acc s).res m).1=m .free:=dv _ _;show (if m .free=(((Sub.v1 n).acc s).res m).1 then 2 else 5)+1<=3;rw[k,if_pos Z];exact aq _
 | v2 n a=>
  rw[bF Z];show (if m .free=a then 1 else 4)+1<=if m .free=a then 2 else 5
  split<;>omega
 | v3 n a=>
  by_cases e:m .free=a
  ·have d:((Sub.v3 n a).acc s |>.res m).2=O:=by simp[LAc.res,Sub.acc,e]
   have f:Sub.stp th z (.v3 n a) (((Sub.v3 n a).acc s).res m)= .ret .un z.got:=by simp[Sub.stp,d]
   rw[f];show 0+1<=if m .free=a then 1 else 4
   rw[if_pos e];exact aq _
  have d:((Sub.v3 n a).acc s |>.res m).2=X:=by simp[LAc.res,Sub.acc,e]
  have f:Sub.stp th z (.v3 n a) (((Sub.v3 n a).acc s).res m)= .go (.v1 n) z.got:=by simp[Sub.stp,d]
  rw[f];show 3+1<=if m .free=a then 1 else 4
  rw[if_neg e];exact aq _
 | cl i=>
  have hi:i<3:=l;have:=nG ((Sub.cl i).acc s |>.mem m) { z.got with eras:=z.eras.set i 0 } (i+1) M;show (df { z.got with eras:=z.eras.set i 0 } (i+1)).rho _+1<=3-i;omega
 | r1 n=>exact aq _
 | r2 n e=>
  show SX.rho _ (if _ then _ else _)+1<=1;split<;>exact aq _
end
end
def LPh.now(m:Sm):LPh->Bool
 | .sub x (.fh _)=>x.now m
 | .sub x (.fn _ f)=>(m (.nd f.prev 0)==aV f.cur)&&x.now m
 | .sub _ (.fr _ f)=>m (.nd f.prev 0)==aV f.cur
 | .sub _ (.pt b a)=>m (.nd b 0)==aV a
 | .sub _ _=>O
 | .fs _ f next _ | .fo _ f next _=>(m (.nd f.prev 0)==aV f.cur)&&m (.nd f.cur 0)==next
 | .fc _ f _=>m (.nd f.prev 0)==aV f.cur
 | .gv _ _=>O
 | .p1 _ b a | .p2 _ b a | .p0 _ b a | .pc _ b a=>m (.nd b 0)==aV a
 | .dm b a next=>(m (.nd b 0)==aV a)&&m (.nd a 0)==next
 | .du b a _ _=>m (.nd b 0)==aV a
def LPh.base(m:Sm)(g:Gh)(z:Pz):LPh->Nat
 | .sub x (.fh _)=>dU m z x+422
 | .sub x (.fn _ f)=>dU m z x+17+10*(rk m g f.cur-1)
 | .sub x (.fr _ f)=>dU m z x+12+10*rk m g f.cur
 | .sub x (.out _)=>dU m z x
 | .sub x (.clr _)=>dU m z x+3
 | .sub x (.pt _ _)=>dU m z x+7
 | .sub x (.dc _ _)=>dU m z x+2
 | .fs _ f _ _=>17+10*(rk m g f.cur-1)
 | .fo _ f _ _=>16+10*(rk m g f.cur-1)
 | .fc _ f _=>15+10*(rk m g f.cur-1)
 | .gv _ _=>4
 | .p1 _ _ _=>7
 | .p2 _ _ _=>6
 | .p0 _ _ _=>5
 | .pc _ _ _=>4
 | .dm _ _ _=>7
 | .du _ _ _ _=>6
def ext(b:Bool):Nat:=if b then 0 else 450
def uK(m:Sm)(g:Gh)(z:Pz)(x:LPh):Nat:=x.base m g z+ext (x.now m)
def LX.rho(m:Sm)(g:Gh):LX->Nat
 | .go x z=>uK m g z x
 | _=>0
section
variable {m m':Sm} {g g':Gh} {s t:Nat} {z:Pz} {op:LOp}
theorem ext_le(b:Bool):ext b<=450:=by unfold ext;split<;>omega
theorem nF{a b:Bool}(h:a=O->b=O):ext b<=ext a:=by
 unfold ext;cases a<;>cases b<;>simp at h ⊢
theorem Au(m:Sm)(z:Pz)(x:Sub):dU m z x<=7:=by
 cases x<;>simp only[dU]<;>first|(split<;>omega)|omega
theorem rhoL_le(m:Sm)(g:Gh)(z:Pz)(x:LPh):uK m g z x<=890:=by
 unfold uK;have b:=ext_le (x.now m);have a:x.base m g z<=440:=by
  cases x with
  | sub x k=>
   have:=Au m z x;cases k with
   | fn k f=>have:=yW m g f.cur;simp only[LPh.base];omega
   | fr k f=>have:=yW m g f.cur;simp only[LPh.base];omega
   | _=>simp only[LPh.base];omega
  | fs k f _ _=>have:=yW m g f.cur;simp only[LPh.base];omega
  | fo k f _ _=>have:=yW m g f.cur;simp only[LPh.base];omega
  | fc k f _=>have:=yW m g f.cur;simp only[LPh.base];omega
  | _=>simp only[LPh.base];omega
 omega
theorem sE(o:dx)(z:Pz):(fF o z).rho m g<=3:=by
 have:=nG m z 0 M;unfold fF;cases b:df z 0 with
 | go x a=>rw[b]at this;show dU m a x+ext O<=3;unfold ext;exact this
 | ret r a=>exact aN _
 | stuck=>exact aN _
theorem De(n:Int)(o:dx)(z:Pz):(fa n o z).rho m g<=5:=by
 have:=nG m z 0 M;unfold fa;cases b:df z 0 with
 | go x a=>rw[b]at this;have this:dU m a x<=3:=this;show dU m a x+2+ext O<=5;unfold ext;simp;omega
 | ret r a=>show 2+ext O<=5;decide
 | stuck=>exact aN _
theorem je(k:FK)(z:Pz):(iI op k z).rho m g<=427:=by
 show dU m z (.g1 0 (.nd op.h 0))+422+ext O<=427;simp only[dU,ext];simp;split<;>omega
theorem tW(k:FK)(b:Bool)(c a next:Int)(pt:Nat)(z:Pz):(iJ op k b c a next pt z).rho m g<=12+ext ((m (.nd c 0)==aV a)&&(!b||m (.nd a 0)==next)):=by
 have d:∀o,(fF o z).rho m g<=12+ext ((m (.nd c 0)==aV a)&&(!b||m (.nd a 0)==next)):=λo=>by have:=sE (m:=m) (g:=g) o z;omega
 cases k with
 | get=>
  cases b
  ·exact d _
  show 4+ext O<=_;unfold ext;simp;omega
 | put n=>
  cases b
  ·show LX.rho m g (if n=0 then _ else _)<=_;split
   ·show 5+7+ext (m (.nd c 0)==aV a)<=_;simp
   show 5+ext (m (.nd c 0)==aV a)<=_;simp
  show LX.rho m g (if n≠0 then _ else _)<=_;split
  ·show 3+3+ext O<=_;unfold ext;simp;omega
  exact d _
 | del=>
  cases b
  ·exact d _
  show 7+ext ((m (.nd c 0)==aV a)&&m (.nd a 0)==next)<=_;simp
 | fin p=>exact d _
theorem tM(h:Gl m g)(k:FK){f:Fp}(b:f.cur=0\/(g.st f.cur).isL=O)(z:Pz):(eR op k f z).rho m g<=12+10*rk m g f.cur+ext (m (.nd f.prev 0)==aV f.cur):=by
 unfold eR;split
 ·rename_i a;have:=tW (m:=m) (g:=g) (op:=op) k X f.prev 0 0 f.pt z;rw[a];simp at this ⊢;omega
 rename_i a;have:=rk_pos h (b.resolve_left a);show dU m z (.g1 f.b (.nd f.cur 0))+17+10*(rk m g f.cur-1)+ext ((m (.nd f.prev 0)==aV f.cur)&&O)<=_;rw[Bool.and_true];have:dU m z (.g1 f.b (.nd f.cur 0))<=5:=by simp only[dU];split<;>omega
 omega
theorem uW{x d:Sub}{z':Pz}{th:Int}(f:∃c,x.cls= .G c)(b:x.stp th z ((x.acc s).res m)= .go d z')(k:∀c,x.cls= .G c->((x.acc s).mem m) c=m c):x.now m=O->d.now ((x.acc s).mem m)=O:=by
 intro h;cases x with
 | g1 i c=>
  injection b with a j;subst a;show (((Sub.g1 i c).acc s).mem m c==(((Sub.g1 i c).acc s).res m).1)=O;rw[dv,a8 Z];exact beq_self_eq_true _
 | g2 i c v=>
  have:(if (((Sub.g2 i c v).acc s).res m).1=z.eras.getD i 0 then SX.ret (.gd v (z.made-1)) z.got else .go (.g3 i c (((Sub.g2 i c v).acc s).res m).1) z.got)= .go d z':=b;split at this
  ·cases this
  injection this with a j;subst a;rfl
 | g3 i c e=>injection b with a j;subst a;rfl
 | _=>obtain⟨c,f⟩:=f;cases f
theorem uV{x:Sub}{v:Int}{p:Nat}{z':Pz}{th:Int}(a:x.stp th z ((x.acc s).res m)= .ret (.gd v p) z'):∃i c,x= .g2 i c v/\(x.acc s).mem m=m:=by
 cases x with
 | g2 i c w=>
  have:(if (((Sub.g2 i c w).acc s).res m).1=z.eras.getD i 0 then SX.ret (.gd w (z.made-1)) z.got else .go (.g3 i c (((Sub.g2 i c w).acc s).res m).1) z.got)= .ret (.gd v p) z':=a;split at this
  ·injection this with f j;injection f with f k;subst f;exact⟨i,c,Z,a8 Z _⟩
  cases this
 | g1 i c=>cases a
 | g3 i c e=>cases a
 | t1=>
  have:(if idxOf ((Sub.t1.acc s).res m).1=0 then SX.ret (.tk 0 z.made X) z.got else .go (.t2 ((Sub.t1.acc s).res m).1) z.got)= .ret (.gd v p) z':=a;split at this<;>cases this
 | t2 d=>cases a
 | t3 d h=>
  have:(if (((Sub.t3 d h).acc s).res m).2 then SX.go (.t4 (idxOf d) z.made) z.got else .go .t1 z.got)= .ret (.gd v p) z':=a;split at this<;>cases this
 | t4 n p=>cases a
 | t5 n b p=>cases a
 | v1 n=>cases a
 | v2 n d=>cases a
 | v3 n d=>
  have:(if (((Sub.v3 n d).acc s).res m).2 then SX.ret .un z.got else .go (.v1 n) z.got)= .ret (.gd v p) z':=a;split at this<;>cases this
 | cl i=>
  have:df { z.got with eras:=z.eras.set i 0 } (i+1)= .ret (.gd v p) z':=a;unfold df at this;split at this<;>cases this
 | r1 n=>cases a
 | r2 n e=>
  have:(if (z.gone.length:Int)+1<th then SX.ret .un { z.got with gone:=z.gone++[(n,e)] } else .stuck)= .ret (.gd v p) z':=a;split at this<;>cases this
theorem sub_nd0(h:Gl m g){x:Sub}(k:jB s m g x){n:Int}(l:(g.st n).isL=O):(x.acc s).mem m (.nd n 0)=m (.nd n 0):=by
 cases x with
 | g1 i c=>rw[a8 Z]
 | g2 i c v=>rw[a8 Z]
 | g3 i c e=>rw[bF Z];rfl
 | t1=>rw[a8 Z]
 | t2 d=>rw[a8 Z]
 | t3 d j=>
  cases f:((Sub.t3 d j).acc s |>.res m).2 with
  | false=>rw[bx Z f]
  | true=>rw[(bP (a:=(Sub.t3 d j).acc s) Z f).2];rfl
 | t4 n p=>rw[a8 Z]
 | t5 n b p=>rw[bF Z];exact dY m _ _ _ (.inr zD)
 | v1 n=>rw[a8 Z]
 | v2 n d=>rw[bF Z];exact dY m _ _ _ (.inr zD)
 | v3 n d=>
  cases f:((Sub.v3 n d).acc s |>.res m).2 with
  | false=>rw[bx Z f]
  | true=>rw[(bP (a:=(Sub.v3 n d).acc s) Z f).2];rfl
 | cl i=>rw[bF Z];rfl
 | r1 n=>rw[a8 Z]
 | r2 n e=>rw[iR Z];rfl
theorem L5(h:Gl m g){x:Sub}{r:Int × Bool}(d:jB s m g x)(e:Env s m g ((x.acc s).mem m) (x.gst s g r)):pF m g ((x.acc s).mem m) (x.gst s g r):=by
 refine pF.M1 e λn a=>?_;cases x with
 | t3 b c=>
  have:(Gh.st (if r.2 then g.take s else g) n).isL=O:=a;split at this
  ·by_cases e:n=g.fl.headD 0
   ·rw[show (g.take s).st=dO g.st (g.fl.headD 0) (.ow s)from Z,e,bn]at this;cases this
   rw[show (g.take s).st=dO g.st (g.fl.headD 0) (.ow s)from Z,br _ _ e]at this;exact this
  exact this
 | v3 k b=>
  have:(Gh.st (if r.2 then g.oh k else g) n).isL=O:=a;split at this
  ·by_cases e:n=k
   ·rw[show (g.oh k).st=dO g.st k .fr from Z,e,bn]at this;cases this
   rw[show (g.oh k).st=dO g.st k .fr from Z,br _ _ e]at this;exact this
  exact this
 | _=>exact a
theorem jS{x:Sub}{k:LK}{X:SX}{e c:Nat}(f:∀b a,X= .go b a->uK m g a (.sub b k)<=dU m a b+c+e)(d:∀r a,X= .ret r a->(ic op r a k).rho m g<=c+e):(X.lS k λt s=>ic op t s k).rho m g<=X.rho m+c+e:=by
 cases X with
 | go b a=>exact f b a Z
 | ret r a=>have:=d r a Z;show _<=0+c+e;exact aF this M
 | stuck=>exact aN _
theorem LPh.dec(h:Gl m g){x:LPh}{th:Int}(T:ui s m g op z x)(G:g.fc+1<268435456)(ht:g.tk<=37)(rr:((g.dd s).length:Int)<th):
  (x.stp th op z ((x.acc s op).res m)).rho ((x.acc s op).mem m) (x.gst s g op ((x.acc s op).res m))+1<=uK m g z x:=by
 obtain⟨G1,W,G3,-⟩:=LPh.step (th:=th) h T G ht rr;have V:=T.opk;have H:=T.ok;have hz:=T.er;cases x with
 | sub x k=>
  have d:=Sub.dec (th:=th) h H.1 hz;have sl:pF m g ((x.acc s).mem m) (x.gst s g ((x.acc s).res m)):=L5 h H.1 W;have P:∀n,(g.st n).isL=O->(x.acc s).mem m (.nd n 0)=m (.nd n 0):=λn F=>sub_nd0 h H.1 F;have N:=H.2;show LX.rho ((x.acc s).mem m) (x.gst s g ((x.acc s).res m)) ((x.stp th z ((x.acc s).res m)).lS k λt s=>ic op t s k)+1<=(LPh.sub x k).base m g z+ext ((LPh.sub x k).now m);cases k with
  | fh k=>
   obtain⟨C,hfk⟩:=N;refine aF (eJ (jS (x:=x) (c:=422) (e:=ext (x.now m)) ?_ ?_)) (by show _<=dU m z x+422+ext (x.now m);omega)
   ·intro w l u;have:=nF (uW ⟨_,C⟩ u λc G=>by
     rw[C]at G;injection G with G;subst G;exact P _ V.h)
    show dU _ l w+422+ext (w.now _)<=_;omega
   intro r l u;cases r with
   | gd v p=>
    obtain⟨i,c,rfl,J⟩:=uV u;injection C with C;subst C;have qc:=wi H.1.2.2;have B:=tM (op:=op) h k (f:=⟨0,1,2,op.h,idxOf v,p⟩) (qc.2.2.2.imp_right λa=>a.1) l;have Y:(Sub.g2 i (.nd op.h 0) v).gst s g (((Sub.g2 i (.nd op.h 0) v).acc s).res m)=g:=Z;rw[Y,J];show (eR op k ⟨0,1,2,op.h,idxOf v,p⟩ l).rho m g<=_;have L:=yW m g (idxOf v);have he:ext (m (.nd op.h 0)==aV (idxOf v))<=ext ((Sub.g2 i (.nd op.h 0) v).now m):=nF λF=>by
     have F:m (.nd op.h 0)=v:=by simpa[Sub.now] using F
     rcases qc.2.2.1 with e|e
     ·rw[F,<- e.1];exact beq_self_eq_true _
     have:=h.lmrk op.h V.h (by rw[F];exact e.2.1);have:=V.hm;omega
    show _<=422+ext ((Sub.g2 i (.nd op.h 0) v).now m);have B:(eR op k ⟨0,1,2,op.h,idxOf v,p⟩ l).rho m g<=12+10*rk m g (idxOf v)+ext (m (.nd op.h 0)==aV (idxOf v)):=B;omega
   | _=>exact aN _
  | fn k f=>
   obtain⟨C,hfk,K,CU⟩:=N;have E:(g.st f.cur).isL=O:=by rcases K.2.2.2.2.2 with h|h;exact absurd h CU;exact h.1
   have L:=sl.rk (c:=f.cur) (.inr E);refine aF (eJ (jS (x:=x) (c:=17+10*(rk m g f.cur-1)) (e:=ext ((m (.nd f.prev 0)==aV f.cur)&&x.now m)) ?_ ?_)) (by show _<=dU m z x+17+10*(rk m g f.cur-1)+ext ((m (.nd f.prev 0)==aV f.cur)&&x.now m);omega)
   ·intro w l u;have h1:=uW (m:=m) ⟨_,C⟩ u λc G=>by
     rw[C]at G;injection G with G;subst G;exact P _ E
    have:=nF (a:=(m (.nd f.prev 0)==aV f.cur)&&x.now m) (b:=((x.acc s).mem m (.nd f.prev 0)==aV f.cur)&&w.now ((x.acc s).mem m)) (by
     intro D;rw[P _ K.2.2.2.1];rw[bN]at D ⊢;exact⟨D.1,h1 D.2⟩)
    show dU _ l w+17+10*(rk _ _ f.cur-1)+ext (_&&w.now _)<=_;rw[L];omega
   intro r l u;cases r with
   | gd v p=>
    obtain⟨i,c,rfl,J⟩:=uV u;injection C with C;subst C;have Y:(Sub.g2 i (.nd f.cur 0) v).gst s g (((Sub.g2 i (.nd f.cur 0) v).acc s).res m)=g:=Z;rw[Y,J];exact aq _
   | _=>exact aN _
  | fr k f=>
   obtain⟨C,hfk,K⟩:=N;have E:f.cur=0\/(g.st f.cur).isL=O:=K.2.2.2.2.2.imp_right λa=>a.1;have L:=sl.rk E;have qa:=P _ K.2.2.2.1;refine aF (eJ (jS (x:=x) (c:=12+10*rk m g f.cur) (e:=ext (m (.nd f.prev 0)==aV f.cur)) ?_ ?_)) (by show _<=dU m z x+12+10*rk m g f.cur+ext (m (.nd f.prev 0)==aV f.cur);omega)
   ·intro w l u;show dU _ l w+12+10*rk _ _ f.cur+ext ((x.acc s).mem m (.nd f.prev 0)==aV f.cur)<=_;rw[L,qa];omega
   intro r l u;have B:=tM (op:=op) G1 k (f:=f) (by rw[show (LPh.sub x (.fr k f)).gst s g op (((LPh.sub x (.fr k f)).acc s op).res m)=x.gst s g ((x.acc s).res m)from Z,sl.st];exact E) l;have B:(eR op k f l).rho ((x.acc s).mem m) (x.gst s g ((x.acc s).res m))<=12+10*rk ((x.acc s).mem m) (x.gst s g ((x.acc s).res m)) f.cur+ext ((x.acc s).mem m (.nd f.prev 0)==aV f.cur):=B;rw[L,qa]at B;exact B
  | out o=>
   refine aF (eJ (jS (x:=x) (c:=0) (e:=0) ?_ ?_)) (by show _<=dU m z x+ext O;omega)
   ·intro w l u;show dU _ l w+ext O<=_;simp[ext]
   intro r l u;exact aN _
  | clr o=>
   refine aF (eJ (jS (x:=x) (c:=3) (e:=0) ?_ ?_)) (by show _<=dU m z x+3+ext O;omega)
   ·intro w l u;show dU _ l w+3+ext O<=_;simp[ext]
   intro r l u;exact sE _ _
  | pt j cur=>
   obtain⟨C,yu,hi⟩:=N;have qa:=P _ hi.1;refine aF (eJ (jS (x:=x) (c:=7) (e:=ext (m (.nd j 0)==aV cur)) ?_ ?_)) (by show _<=dU m z x+7+ext (m (.nd j 0)==aV cur);omega)
   ·intro w l u;show dU _ l w+7+ext ((x.acc s).mem m (.nd j 0)==aV cur)<=_;rw[qa];omega
   intro r l u;cases r with
   | tk n p ok=>
    cases ok with
    | false=>exact aN _
    | true=>
     show 7+ext ((x.acc s).mem m (.nd j 0)==aV cur)<=_;rw[qa];omega
   | _=>exact aN _
  | dc n o=>
   refine aF (eJ (jS (x:=x) (c:=2) (e:=0) ?_ ?_)) (by show _<=dU m z x+2+ext O;omega)
   ·intro w l u;show dU _ l w+2+ext O<=_;simp[ext]
   intro r l u;show 2+ext O<=2+0;decide
 | fs k f next I=>
  have e0:LPh.gst s g op (.fs k f next I) (((LPh.fs k f next I).acc s op).res m)=g:=Z;rw[a8 Z,e0];have hv:(((LPh.fs k f next I).acc s op).res m).1=m (.nd f.prev 0):=dv _ _;show LX.rho m g (if _ then _ else _)+1<=17+10*(rk m g f.cur-1)+ext ((m (.nd f.prev 0)==aV f.cur)&&m (.nd f.cur 0)==next);rw[hv];split
  ·rename_i qb;have:=je (m:=m) (g:=g) (op:=op) k z.got;have M:(m (.nd f.prev 0)==aV f.cur)=X:=by simpa using qb
   rw[M];show _<=_+ext X;simp[ext];omega
  show 16+10*(rk m g f.cur-1)+ext ((m (.nd f.prev 0)==aV f.cur)&&m (.nd f.cur 0)==next)+1<=_;omega
 | fo k f next I=>
  obtain⟨N,K,Q,q⟩:=H;have E:(g.st f.cur).isL=O/\bT m f.prev<bT m f.cur:=by rcases K.2.2.2.2.2 with h|h;exact absurd h Q;exact h
  obtain⟨i0,i1,iw,ik⟩:=wi q;have hrn:=At h E.1 ik;have e0:LPh.gst s g op (.fo k f next I) (((LPh.fo k f next I).acc s op).res m)=g:=Z;rw[a8 Z,e0];show LX.rho m g (if _ then _ else _)+1<=16+10*(rk m g f.cur-1)+ext ((m (.nd f.prev 0)==aV f.cur)&&m (.nd f.cur 0)==next);split
  ·show 15+10*(rk m g f.cur-1)+ext (m (.nd f.prev 0)==aV f.cur)+1<=_;have:=nF (a:=(m (.nd f.prev 0)==aV f.cur)&&m (.nd f.cur 0)==next) (b:=m (.nd f.prev 0)==aV f.cur) (λD=>by rw[bN]at D;exact D.1);omega
  rename_i J;have J:dH next=X:=by simpa using J
  have qB:next=aV (idxOf next):=by
   rcases iw with e|e
   ·exact e.1
   rw[J]at e;cases e.2.1
  split
  ·have B:=tM (op:=op) h k (f:=⟨f.b,f.c,f.a,f.cur,idxOf next,I⟩) (ik.imp_right λa=>a.1) z.got;have B:(eR op k ⟨f.b,f.c,f.a,f.cur,idxOf next,I⟩ z.got).rho m g<=12+10*rk m g (idxOf next)+ext (m (.nd f.cur 0)==aV (idxOf next)):=B;have:=nF (a:=(m (.nd f.prev 0)==aV f.cur)&&m (.nd f.cur 0)==next) (b:=m (.nd f.cur 0)==aV (idxOf next)) (λD=>by rw[bN]at D;rw[<- qB];exact D.2);omega
  split
  ·have B:=tW (m:=m) (g:=g) (op:=op) k O f.prev f.cur next I z.got
   simp only[Bool.not_true,Bool.false_or]at B;omega
  have B:=tW (m:=m) (g:=g) (op:=op) k X f.prev f.cur 0 (z.made-1) z.got;simp only[Bool.not_false,Bool.true_or,Bool.and_true]at B;have:=nF (a:=(m (.nd f.prev 0)==aV f.cur)&&m (.nd f.cur 0)==next) (b:=m (.nd f.prev 0)==aV f.cur) (λD=>by rw[bN]at D;exact D.1);omega
 | fc k f nx=>
  obtain⟨N,K,Q,U⟩:=H;have E:(g.st f.cur).isL=O/\bT m f.prev<bT m f.cur:=by rcases K.2.2.2.2.2 with h|h;exact absurd h Q;exact h
  by_cases e:m (.nd f.prev 0)=aV f.cur;rotate_left
  ·have q:(((LPh.fc k f nx).acc s op).res m).2=X:=by simp[LAc.res,LPh.acc,e]
   have M:LPh.gst s g op (.fc k f nx) (((LPh.fc k f nx).acc s op).res m)=g:=by simp[LPh.gst,q]
   have A:LPh.stp th op z (.fc k f nx) (((LPh.fc k f nx).acc s op).res m)=iI op k z.got:=by simp[LPh.stp,q]
   rw[M,A,bx Z q];have:=je (m:=m) (g:=g) (op:=op) k z.got;show _<=15+10*(rk m g f.cur-1)+ext (m (.nd f.prev 0)==aV f.cur);rw[beq_false_of_ne e];simp[ext];omega
  have q:(((LPh.fc k f nx).acc s op).res m).2=O:=by simp[LAc.res,LPh.acc,e]
  obtain⟨J,S⟩:=bP (a:=(LPh.fc k f nx).acc s op) Z q;have M:LPh.gst s g op (.fc k f nx) (((LPh.fc k f nx).acc s op).res m)=g.unl s f.cur:=by simp[LPh.gst,q]
  have A:LPh.stp th op z (.fc k f nx) (((LPh.fc k f nx).acc s op).res m)= .go (.sub (.r1 f.cur) (.fr k ⟨f.b,f.a,f.c,f.prev,nx,z.made⟩)) z.got:=by simp[LPh.stp,q]
  rw[M,S]at W;rw[M,A,S];have oV:nx=0\/(g.st nx).isL=O/\bT m f.cur<bT m nx:=by
   obtain⟨y,y0,y1,R,yy⟩:=h.lwrd f.cur E.1;have:y=nx:=by
    rcases R with R|R
    ·have:=gu nx;rw[<- U.2.2,R,cP]at this;cases this
    rw[<- jx y0 y1,<- R,U.2.2,jx U.1 U.2.1]
   rw[this]at yy;exact yy
  have sl:pF m g (bz m (.nd f.prev 0) (aV nx)) (g.unl s f.cur):=pF.M1 W λn F=>by
   have F:(dO g.st f.cur (.dli s) n).isL=O:=F;by_cases en:n=f.cur
   ·rw[en];exact E.1
   rw[br _ _ en]at F;exact F
  have L:=sl.rk (c:=nx) (oV.imp_right λa=>a.1);have hrn:=At h E.1 oV;show 2+12+10*rk (bz m (.nd f.prev 0) (aV nx)) (g.unl s f.cur) nx+ext (bz m (.nd f.prev 0) (aV nx) (.nd f.prev 0)==aV nx)+1<=15+10*(rk m g f.cur-1)+ext (m (.nd f.prev 0)==aV f.cur);rw[L,bU];simp[ext];omega
 | gv n p=>have:=sE (m:=((LPh.gv n p).acc s op).mem m) (g:=g) ⟨(((LPh.gv n p).acc s op).res m).1,O,p,n⟩ z.got;exact eJ (aF this (aq _))
 | p1 n j cur=>
  rw[bF Z];have:bz m (.nd n 1) op.o (.nd j 0)=m (.nd j 0):=dY m _ _ _ (.inr zD);show 6+ext (bz m (.nd n 1) op.o (.nd j 0)==aV cur)+1<=7+ext (m (.nd j 0)==aV cur);rw[this];omega
 | p2 n j cur=>
  rw[bF Z];have:bz m (.nd n 2) op.v (.nd j 0)=m (.nd j 0):=dY m _ _ _ (.inr zD);show 5+ext (bz m (.nd n 2) op.v (.nd j 0)==aV cur)+1<=6+ext (m (.nd j 0)==aV cur);rw[this];omega
 | p0 n j cur=>
  rw[bF Z];have:bz m (.nd n 0) (aV cur) (.nd j 0)=m (.nd j 0):=dY m _ _ _ (.inl (λe=>MV H.2.1 H.2.2.1.1 e.symm));show 4+ext (bz m (.nd n 0) (aV cur) (.nd j 0)==aV cur)+1<=5+ext (m (.nd j 0)==aV cur);rw[this];omega
 | pc n j cur=>
  by_cases e:m (.nd j 0)=aV cur
  ·have q:(((LPh.pc n j cur).acc s op).res m).2=O:=by simp[LAc.res,LPh.acc,e]
   have A:LPh.stp th op z (.pc n j cur) (((LPh.pc n j cur).acc s op).res m)=fF ⟨0,O,z.made,n⟩ z.got:=by simp[LPh.stp,q]
   rw[A];have:=sE (m:=((LPh.pc n j cur).acc s op).mem m) (g:=LPh.gst s g op (.pc n j cur) (((LPh.pc n j cur).acc s op).res m)) ⟨0,O,z.made,n⟩ z.got;show _<=4+ext _;omega
  have q:(((LPh.pc n j cur).acc s op).res m).2=X:=by simp[LAc.res,LPh.acc,e]
  have A:LPh.stp th op z (.pc n j cur) (((LPh.pc n j cur).acc s op).res m)=iI op (.put n) z.got:=by simp[LPh.stp,q]
  rw[A];have:=je (m:=((LPh.pc n j cur).acc s op).mem m) (g:=LPh.gst s g op (.pc n j cur) (((LPh.pc n j cur).acc s op).res m)) (op:=op) (.put n) z.got;show _<=4+ext (m (.nd j 0)==aV cur);rw[beq_false_of_ne e];simp only[ext,Bool.false_eq_true,if_false];omega
 | dm j cur next=>
  obtain⟨KT,hodd,hcu,Q,hkc,NS,qc⟩:=H;have E:(g.st cur).isL=O/\bT m j<bT m cur:=by rcases hcu.2.2 with h|h;exact absurd h Q;exact h
  have qb:j≠cur:=by rintro rfl;omega
  by_cases e:m (.nd cur 0)=next
  ·have q:(((LPh.dm j cur next).acc s op).res m).2=O:=by simp[LAc.res,LPh.acc,e]
   obtain⟨J,S⟩:=bP (a:=(LPh.dm j cur next).acc s op) Z q;have A:LPh.stp th op z (.dm j cur next) (((LPh.dm j cur next).acc s op).res m)= .go (.du j cur next z.made) z.got:=by simp[LPh.stp,q]
   rw[A,S];have:bz m (.nd cur 0) (eQ (idxOf next)) (.nd j 0)=m (.nd j 0):=dY m _ _ _ (.inl qb);show 6+ext (bz m (.nd cur 0) (eQ (idxOf next)) (.nd j 0)==aV cur)+1<=7+ext ((m (.nd j 0)==aV cur)&&m (.nd cur 0)==next);rw[this,e,beq_self_eq_true,Bool.and_true];omega
  have q:(((LPh.dm j cur next).acc s op).res m).2=X:=by simp[LAc.res,LPh.acc,e]
  have A:LPh.stp th op z (.dm j cur next) (((LPh.dm j cur next).acc s op).res m)=iI op .del z.got:=by simp[LPh.stp,q]
  rw[A];have:=je (m:=((LPh.dm j cur next).acc s op).mem m) (g:=LPh.gst s g op (.dm j cur next) (((LPh.dm j cur next).acc s op).res m)) (op:=op) .del z.got;show _<=7+ext ((m (.nd j 0)==aV cur)&&m (.nd cur 0)==next);rw[beq_false_of_ne e,Bool.and_false];simp only[ext,Bool.false_eq_true,if_false];omega
 | du j cur next p=>
  by_cases e:m (.nd j 0)=aV cur
  ·have q:(((LPh.du j cur next p).acc s op).res m).2=O:=by simp[LAc.res,LPh.acc,e]
   have A:LPh.stp th op z (.du j cur next p) (((LPh.du j cur next p).acc s op).res m)=fa cur ⟨0,O,p,0⟩ z.got:=by simp[LPh.stp,q]
   rw[A];have:=De (m:=((LPh.du j cur next p).acc s op).mem m) (g:=LPh.gst s g op (.du j cur next p) (((LPh.du j cur next p).acc s op).res m)) cur ⟨0,O,p,0⟩ z.got;show _<=6+ext _;omega
  have q:(((LPh.du j cur next p).acc s op).res m).2=X:=by simp[LAc.res,LPh.acc,e]
  have A:LPh.stp th op z (.du j cur next p) (((LPh.du j cur next p).acc s op).res m)=iI op (.fin p) z.got:=by simp[LPh.stp,q]
  rw[A];have:=je (m:=((LPh.du j cur next p).acc s op).mem m) (g:=LPh.gst s g op (.du j cur next p) (((LPh.du j cur next p).acc s op).res m)) (op:=op) (.fin p) z.got;show _<=6+ext (m (.nd j 0)==aV cur);rw[beq_false_of_ne e];simp only[ext,Bool.false_eq_true,if_false];omega
end
def H0(m:Sm)(g:Gh):MPh->Nat
 | .m1=>890
 | .m2 _ _=>889
 | .m3 _=>888
 | .ml b _ _ _ x z=>if b then uK m g z x+440 else uK m g z x+2
 | .m4 _ _=>440
 | .m5 _ _=>2
 | .m6 _ _=>1
 | .m7 _=>1
def MX.rho(m:Sm)(g:Gh):MX->Nat
 | .go x _ _=>H0 m g x
 | _=>0
section
variable {m m':Sm} {g g':Gh} {s t:Nat} {op:MOp} {gn:cq}
theorem rhoM_le(m:Sm)(g:Gh)(x:MPh):H0 m g x<=1400:=by
 cases x with
 | ml c e b d x z=>have:=rhoL_le m g z x;simp only[H0];split<;>omega
 | _=>simp only[H0];omega
theorem vH(lo:LOp)(gn:cq):(cW lo gn).rho m g<=427:=by
 unfold cW;split
 ·exact je _ _
 ·exact je _ _
 ·exact je _ _
 exact aN _
theorem AU{dm:Bool}{sz:Int}{mm:Nat}{lo:LOp}{f:dx->Pz->MX}{X:LX}{c:Nat}(d:c=if dm then 440 else 2)(b:∀o z,(f o z).rho m g<=c):(X.inM dm sz mm lo f).rho m g<=X.rho m g+c:=by
 subst d;cases X with
 | go x z=>
  show (if dm then uK m g z x+440 else uK m g z x+2)<=uK m g z x+_;split<;>omega
 | out o z=>have:=b o z;show _<=0+_;rw[ea];exact this
 | stuck=>exact aN _
theorem zx(sz n:Int)(made:Nat):(iH op sz n made gn).rho m g<=429:=by
 unfold iH;split
 case isFalse=>exact aN _
 have d:=vH (m:=m) (g:=g) ⟨op.kind,n,eY op.a,op.b⟩ gn;have b:=AU (m:=m) (g:=g) (dm:=false) (sz:=sz) (mm:=made) (lo:=⟨op.kind,n,eY op.a,op.b⟩) (f:=λ_ _=>.stuck) (X:=cW ⟨op.kind,n,eY op.a,op.b⟩ gn) (c:=2) Z (λ_ _=>aN _);exact aF b M
theorem KG(sz:Int)(o:dx)(made:Nat):(gB op sz o made gn).rho m g<=2:=by
 unfold gB;split
 ·exact aN _
 split
 ·exact aq _
 split
 ·show 1<=2;omega
 exact aN _
theorem MPh.dec(h:Gl m g){x:MPh}{th:Int}{made:Nat}(l:xS s m g op gn x)(q:g.fc+1<268435456)(u:g.tk<=37)(j:((g.dd s).length:Int)<th):
  (x.stp th 2 op made gn ((x.acc s).res m)).rho ((x.acc s).mem m) (x.gst s g ((x.acc s).res m))+1<=H0 m g x:=by
 have k:=l.ok;cases x with
 | m1=>
  show MX.rho _ g (if _ then _ else _)+1<=890;split
  ·show 889+1<=890;omega
  show 0+1<=890;omega
 | m2 sz b=>
  show MX.rho _ g (if _ then _ else if _ then _ else _)+1<=889;split
  ·have:=zx (m:=((MPh.m2 sz b).acc s).mem m) (g:=g) (op:=op) (gn:=gn) sz (idxOf (((MPh.m2 sz b).acc s).res m).1) (made+1);omega
  split
  ·show 888+1<=889;omega
  show 0+1<=889;omega
 | m3 sz=>
  show MX.rho _ g (if _ then _ else _)+1<=888;split
  ·show 0+1<=888;omega
  rename_i v;have y:=vH (m:=((MPh.m3 sz).acc s).mem m) (g:=g) ⟨2,idxOf (((MPh.m3 sz).acc s).res m).1,pw 1,0⟩ gn;have i:=AU (m:=((MPh.m3 sz).acc s).mem m) (g:=g) (dm:=O) (sz:=sz) (mm:=made+1) (lo:=⟨2,idxOf (((MPh.m3 sz).acc s).res m).1,pw 1,0⟩) (f:=λ_ _=>.stuck) (X:=cW ⟨2,idxOf (((MPh.m3 sz).acc s).res m).1,pw 1,0⟩ gn) (c:=440) Z (λ_ _=>aN _);exact aF (eJ i) M
 | ml dm sz mm lo x z=>
  have d:=LPh.dec (th:=th) h k.1 q u j;show MX.rho ((x.acc s lo).mem m) (x.gst s g lo ((x.acc s lo).res m)) (LX.inM dm sz mm lo (λo e=>if dm then .go (.m4 sz o.node) (mm+e.made) e.gone else gB op sz { o with bc:=mm+o.bc } (mm+e.made) e.gone) (x.stp th lo z ((x.acc s lo).res m)))+1<=if dm then uK m g z x+440 else uK m g z x+2
  have i:=AU (m:=(x.acc s lo).mem m) (g:=x.gst s g lo ((x.acc s lo).res m)) (dm:=dm) (sz:=sz) (mm:=mm) (lo:=lo) (f:=λo e=>if dm then .go (.m4 sz o.node) (mm+e.made) e.gone else gB op sz { o with bc:=mm+o.bc } (mm+e.made) e.gone) (X:=x.stp th lo z ((x.acc s lo).res m)) Z (λo w=>by
   cases dm with
   | true=>exact aq _
   | false=>exact KG _ _ _)
  cases dm with
  | true=>simp only[if_true]at i ⊢;omega
  | false=>simp only[Bool.false_eq_true,if_false]at i ⊢;omega
 | m4 sz n=>
  have:=zx (m:=((MPh.m4 sz n).acc s).mem m) (g:=g) (op:=op) (gn:=gn) sz n (made+1);show (iH op sz n (made+1) gn).rho _ g+1<=440;omega
 | m5 sz o=>
  show MX.rho _ g (if _ then _ else _)+1<=2;split
  ·exact aq _
  show 0+1<=2;omega
 | m6 sz o=>exact aq _
 | m7 o=>exact aq _
end
def yj(m:Sm)(z:Pz):EPh->Nat
 | .sub x .ut=>dU m z x+4
 | .sub x (.ug _)=>dU m z x
 | .sub x .og=>dU m z x+8+(if x.now m then 0 else 20)
 | .sub x (.oc _)=>dU m z x
 | .sub x (.orr _ _)=>dU m z x+2
 | .sub x (.od _)=>dU m z x
 | .u1 _=>4
 | .u2 _=>3
 | .u3 _ b=>if m .top=b then 2 else 11
 | .u4 _ b=>if m .top=b then 1 else 10
 | .u5 _=>9
 | .u6 _ _=>8
 | .u7 j _ _ _=>if j=0 then 7 else 6
 | .u8 _ _ _=>5
 | .u9 _ _ _=>4
 | .o2 b=>if m .top=b then 8 else 28
 | .o3 b _=>if m .top=b then 7 else 27
 | .o4 _ _=>6
 | .o5=>16
 | .o6 _=>15
def EX.rho(m:Sm):EX->Nat
 | .go x z=>yj m z x
 | _=>0
section
variable {m m':Sm} {g g':Gh} {s t:Nat} {a:Int} {z:Pz}
theorem rhoE_le(m:Sm)(z:Pz)(x:EPh):yj m z x<=40:=by
 cases x with
 | sub x k=>
  have:=Au m z x;cases k<;>simp only[yj]<;>first|(split<;>omega)|omega
 | _=>simp only[yj];first|(split<;>omega) | omega
theorem Cj(z:Pz):(AF z).rho m<=13:=by
 show dU m z (.g1 0 .top)+8+(if O then 0 else 20)<=13;simp only[dU];simp;split<;>omega
theorem Dh(val d:Int)(is:Bool)(z:Pz):(oT val is d z).rho m<=3:=by
 have:=nG m z 0 M;unfold oT;cases b:df z 0 with
 | go x c=>rw[b]at this;exact this
 | ret r c=>exact aN _
 | stuck=>exact aN _
theorem lL{x:Sub}{k:EK}{X:SX}{c:Nat}(f:∀d b,X= .go d b->yj m b (.sub d k)<=dU m b d+c)(e:∀r b,X= .ret r b->(nu r b k).rho m<=c):(X.jc k λt s=>nu t s k).rho m<=X.rho m+c:=by
 cases X with
 | go d b=>exact f d b Z
 | ret r b=>have:=e r b Z;show _<=0+c;exact aF this M
 | stuck=>exact aN _
theorem EPh.dec(h:Gl m g){x:EPh}{th:Int}(C:xW s m g a z x):(x.stp th a z ((x.acc s a).res m)).rho ((x.acc s a).mem m)+1<=yj m z x:=by
 have D:=C.ok;have F:=C.er;cases x with
 | sub x k=>
  have d:=Sub.dec (th:=th) h D.1 F;have B:=D.2;show EX.rho ((x.acc s).mem m) ((x.stp th z ((x.acc s).res m)).jc k λt s=>nu t s k)+1<=yj m z (.sub x k);cases k with
  | ut=>
   refine aF (eJ (lL (x:=x) (c:=4) ?_ ?_)) (by show _<=dU m z x+4;omega)
   ·intro u f l;exact aq _
   intro r f l;cases r with
   | tk n p ok=>cases ok with
    | true=>exact aq _
    | false=>exact aN _
   | _=>exact aN _
  | ug p=>
   refine aF (eJ (lL (x:=x) (c:=0) ?_ ?_)) (by show _<=dU m z x;omega)
   ·intro u f l;exact aq _
   intro r f l;exact aN _
  | og=>
   refine aF (eJ (lL (x:=x) (c:=8+(if x.now m then 0 else 20)) ?_ ?_)) (by show _<=dU m z x+8+(if x.now m then 0 else 20);omega)
   ·intro u f l;have:=uW (m:=m) (s:=s) (th:=th) ⟨_,B⟩ l λc A=>by
     rw[show x.cls= .G .top from B]at A;injection A with A;subst A;cases x with
     | g1 i c=>rw[a8 Z]
     | g2 i c v=>rw[a8 Z]
     | g3 i c e=>rw[bF Z];rfl
     | _=>cases B
    show dU _ f u+8+(if u.now _ then 0 else 20)<=_;cases G:x.now m with
    | true=>rw[this G];simp
    | false=>simp;split<;>omega
   intro r f l;cases r with
   | gd v p=>
    obtain⟨i,c,rfl,E⟩:=uV l;have A:c= .top:=by have B:Sub.cls (.g2 i c v)= .G .top:=B;injection B
    subst A;show EX.rho _ (if _ then _ else _)<=_;split
    ·have:=Dh (m:=((Sub.g2 i .top v).acc s).mem m) 0 p X f;omega
    rw[E];show (if m .top=v then 8 else 28)<=8+(if (m .top==v)then 0 else 20);by_cases e:m .top=v
    ·rw[if_pos e];omega
    rw[if_neg e,beq_false_of_ne e];simp
   | _=>exact aN _
  | oc o=>
   refine aF (eJ (lL (x:=x) (c:=0) ?_ ?_)) (by show _<=dU m z x;omega)
   ·intro u f l;exact aq _
   intro r f l;exact aN _
  | orr n o=>
   refine aF (eJ (lL (x:=x) (c:=2) ?_ ?_)) (by show _<=dU m z x+2;omega)
   ·intro u f l;exact aq _
   intro r f l;exact aq _
  | od o=>
   refine aF (eJ (lL (x:=x) (c:=0) ?_ ?_)) (by show _<=dU m z x;omega)
   ·intro u f l;exact aq _
   intro r f l;exact aN _
 | u1 n=>exact aq _
 | u2 n=>
  rw[a8 Z];show (if m .top=(((EPh.u2 n).acc s a).res m).1 then 2 else 11)+1<=3;have e:(((EPh.u2 n).acc s a).res m).1=m .top:=dv _ _;rw[e,if_pos Z];exact aq _
 | u3 n b=>
  rw[bF Z];show (if m .top=b then 1 else 10)+1<=if m .top=b then 2 else 11
  split<;>omega
 | u4 n b=>
  by_cases e:m .top=b
  ·have q:(((EPh.u4 n b).acc s a).res m).2=O:=by simp[LAc.res,EPh.acc,e]
   have y:EPh.stp th a z (.u4 n b) (((EPh.u4 n b).acc s a).res m)=Ie 0 O z.made z.got:=by simp[EPh.stp,q]
   rw[y];show 0+1<=if m .top=b then 1 else 10
   rw[if_pos e];exact aq _
  have q:(((EPh.u4 n b).acc s a).res m).2=X:=by simp[LAc.res,EPh.acc,e]
  have y:EPh.stp th a z (.u4 n b) (((EPh.u4 n b).acc s a).res m)= .go (.u5 n) z.got:=by simp[EPh.stp,q]
  rw[y];show 9+1<=if m .top=b then 1 else 10
  rw[if_neg e];exact aq _
 | u5 n=>
  show EX.rho _ (if _ then _ else _)+1<=9;split
  ·show 3+1<=9;omega
  show 8+1<=9;omega
 | u6 n w=>
  show EX.rho _ (if _ then _ else _)+1<=8;split
  ·show 7+1<=8;omega
  show 3+1<=8;omega
 | u7 j n w p=>
  show EX.rho _ (if _ then _ else if _ then _ else _)+1<=if j=0 then 7 else 6
  split
  ·show 4+1<=_;split<;>omega
  split
  ·show 6+1<=7;omega
  show 5+1<=6;omega
 | u8 n w p=>
  show EX.rho _ (if _ then _ else _)+1<=5;split
  ·show 3+1<=5;omega
  show 4+1<=5;omega
 | u9 n w p=>show 3+1<=4;omega
 | o2 b=>
  rw[a8 Z];show (if m .top=b then 7 else 27)+1<=if m .top=b then 8 else 28
  split<;>omega
 | o3 b below=>
  by_cases e:m .top=b
  ·have q:(((EPh.o3 b below).acc s a).res m).2=O:=by simp[LAc.res,EPh.acc,e]
   have y:EPh.stp th a z (.o3 b below) (((EPh.o3 b below).acc s a).res m)= .go (.o4 (idxOf b) z.made) z.got:=by simp[EPh.stp,q]
   rw[y];show 6+1<=if m .top=b then 7 else 27
   rw[if_pos e];exact aq _
  have q:(((EPh.o3 b below).acc s a).res m).2=X:=by simp[LAc.res,EPh.acc,e]
  have y:EPh.stp th a z (.o3 b below) (((EPh.o3 b below).acc s a).res m)= .go .o5 z.got:=by simp[EPh.stp,q]
  rw[y];show 16+1<=if m .top=b then 7 else 27
  rw[if_neg e];omega
 | o4 n p=>
  rw[a8 Z];have:=nG m z.got 0 M;show EX.rho m (SX.jc _ _ (df z.got 0))+1<=6;cases C:df z.got 0 with
  | go x f=>rw[C]at this;have this:dU m f x<=3:=this;show dU m f x+2+1<=6;omega
  | ret r f=>show 2+1<=6;omega
  | stuck=>show 0+1<=6;omega
 | o5=>
  show EX.rho _ (if _ then _ else _)+1<=16;split
  ·have:=Cj (m:=(EPh.o5.acc s a).mem m) z.got;omega
  show 15+1<=16;omega
 | o6 w=>
  show EX.rho _ (if _ then _ else _)+1<=15;split
  ·have:=Dh (m:=((EPh.o6 w).acc s a).mem m) (mE w) z.made O z.got;omega
  have:=Cj (m:=((EPh.o6 w).acc s a).mem m) z.got;omega
end
def lag(m:Sm):Nat:=if m (.nd (idxOf (m .tail)) 0)=0 then 0 else 1
def CPh.now(m:Sm):CPh->Bool
 | .sub x (.sg _)=>x.now m
 | .sub _ (.st b)=>m (.nd (idxOf b) 0)==0
 | .s2 _ b _ | .s3 _ b _ | .s4 _ b=>m .tail==b
 | .s5 _ b _=>m .tail==b
 | .fl _ b _ | .s6 _ b=>m (.nd (idxOf b) 0)==0
 | _=>O
def CPh.base(m:Sm)(z:Pz):CPh->Nat
 | .sub x (.sg _)=>dU m z x+27
 | .sub x (.st _)=>dU m z x+11
 | .sub x (.sv _)=>dU m z x+3
 | .sub x .rg=>dU m z x+14
 | .sub x (.oc _)=>dU m z x
 | .s2 _ _ i=>2*(5-i)+17
 | .s3 _ _ i=>2*(5-i)+16
 | .s4 _ _=>17
 | .s5 _ _ _=>1
 | .fl _ _ j=>11-j
 | .s6 _ _=>5
 | .s7 _ _ _=>4
 | .r2 _ i=>2*(5-i)+4
 | .r3 _ i _=>2*(5-i)+3
 | .r4 _=>4
def CPh.snd:CPh->Bool
 | .sub _ (.sg _) | .sub _ (.st _) | .s2 _ _ _ | .s3 _ _ _ | .s4 _ _ | .s5 _ _ _ | .fl _ _ _ | .s6 _ _=>O
 | _=>X
def jt(m:Sm)(z:Pz)(x:CPh):Nat:=x.base m z+(if x.snd then 40*lag m+(if x.now m then 0 else 40)else 0)
def CX.rho(m:Sm):CX->Nat
 | .go x z=>jt m z x
 | _=>0
section
variable {m m':Sm} {g g':Gh} {s t:Nat} {a:Int} {z:Pz}
theorem lag_le(m:Sm):lag m<=1:=by unfold lag;split<;>omega
theorem rhoC_le(m:Sm)(z:Pz)(x:CPh):jt m z x<=130:=by
 have b:=lag_le m;have c:x.base m z<=40:=by
  cases x with
  | sub x k=>have:=Au m z x;cases k<;>simp only[CPh.base]<;>omega
  | _=>simp only[CPh.base];omega
 unfold jt;split
 ·split<;>omega
 omega
theorem nH(val d:Int)(is:Bool)(z:Pz):(iY val is d z).rho m<=3:=by
 have:=nG m z 0 M;unfold iY;cases b:df z 0 with
 | go x c=>rw[b]at this;exact this
 | ret r c=>exact aN _
 | stuck=>exact aN _
theorem yS(bq:Int)(z:Pz):(oN bq z).rho m<=32+40*lag m:=by
 show dU m z (.g1 0 .tail)+27+(40*lag m+0)<=_;have:dU m z (.g1 0 .tail)<=5:=by simp only[dU];split<;>omega
 omega
theorem MZ(h:Gl m g)(n:g.n<=9){x y:Int}(c:g.st x= .sg)(d:g.st y= .sg)(f:m (.nd x 0)≠0)(j:m (.nd y 0)≠0):x=y:=by
 refine db λl=>?_;have o:=tr (m:=m) h.cnd ((h.cmem x).2 c) ((h.cmem y).2 d) l;have e:∀w,g.st w= .sg->m (.nd w 0)≠0->5<=mV m w:=by
  intro w i k;have b:=h.cful w ((h.cmem w).2 i) k;unfold mV nzP;rw[if_pos (b 1 zD zD),if_pos (b 2 zD zD),if_pos (b 3 zD zD),if_pos (b 4 zD zD),if_pos (b 5 zD zD)];omega
 have:=e x c f;have:=e y d j;have:=h.cnt;omega
theorem m8{x:Sub}{k:CK}{X:SX}{c:Nat}(f:∀d b,X= .go d b->jt m b (.sub d k)<=dU m b d+c)(e:∀r b,X= .ret r b->(oS r b k).rho m<=c):(X.oM k λt s=>oS t s k).rho m<=X.rho m+c:=by
 cases X with
 | go d b=>exact f d b Z
 | ret r b=>have:=e r b Z;show _<=0+c;exact aF this M
 | stuck=>exact aN _
def ex4(b:Bool):Nat:=if b then 0 else 40
theorem Om{a b:Bool}(h:a=O->b=O):ex4 b<=ex4 a:=by
 unfold ex4;cases a<;>cases b<;>simp at h ⊢
theorem ek{x:CPh}(h:x.snd=O):jt m z x=x.base m z+(40*lag m+ex4 (x.now m)):=by
 unfold jt ex4;rw[h,if_pos Z]
theorem fq{x:CPh}(h:x.snd=X):jt m z x=x.base m z:=by
 unfold jt;rw[h];simp
theorem sub_sg(h:Gl m g){x:Sub}(k:jB s m g x):(∀n,(x.acc s).mem m (.nd n 0)=m (.nd n 0))/\(x.acc s).mem m .tail=m .tail:=by
 cases x with
 | g1 i c=>rw[a8 Z];exact⟨λ_=>rfl,Z⟩
 | g2 i c v=>rw[a8 Z];exact⟨λ_=>rfl,Z⟩
 | g3 i c e=>rw[bF Z];exact⟨λ_=>rfl,Z⟩
 | t1=>rw[a8 Z];exact⟨λ_=>rfl,Z⟩
 | t2 d=>rw[a8 Z];exact⟨λ_=>rfl,Z⟩
 | t3 d j=>
  cases f:((Sub.t3 d j).acc s |>.res m).2 with
  | false=>rw[bx Z f];exact⟨λ_=>rfl,Z⟩
  | true=>rw[(bP (a:=(Sub.t3 d j).acc s) Z f).2];exact⟨λ_=>rfl,Z⟩
 | t4 n p=>rw[a8 Z];exact⟨λ_=>rfl,Z⟩
 | t5 n b p=>rw[bF Z];exact⟨λy=>dY m _ _ _ (.inr zD),Z⟩
 | v1 n=>rw[a8 Z];exact⟨λ_=>rfl,Z⟩
 | v2 n d=>rw[bF Z];exact⟨λy=>dY m _ _ _ (.inr zD),Z⟩
 | v3 n d=>
  cases f:((Sub.v3 n d).acc s |>.res m).2 with
  | false=>rw[bx Z f];exact⟨λ_=>rfl,Z⟩
  | true=>rw[(bP (a:=(Sub.v3 n d).acc s) Z f).2];exact⟨λ_=>rfl,Z⟩
 | cl i=>rw[bF Z];exact⟨λ_=>rfl,Z⟩
 | r1 n=>rw[a8 Z];exact⟨λ_=>rfl,Z⟩
 | r2 n e=>rw[iR Z];exact⟨λ_=>rfl,Z⟩
theorem KH(b:∀n,m' (.nd n 0)=m (.nd n 0))(c:m' .tail=m .tail):lag m'=lag m:=by unfold lag;rw[c,b]
theorem zn(n b:Int)(i:Nat)(hi:i<5)(z:Pz):(jN n b i z).rho m<=2*(5-i)+15+(40*lag m+ex4 (m .tail==b)):=by
 unfold jN;split
 ·show jt m z (.s2 n b (i+1))<=_;rw[ek Z];show 2*(5-(i+1))+17+(40*lag m+ex4 (m .tail==b))<=_;omega
 show jt m z (.s4 n b)<=_;rw[ek Z];show 17+(40*lag m+ex4 (m .tail==b))<=_;omega
theorem zt(b:Int)(i:Nat)(hi:i<5)(z:Pz):(jO b i z).rho m<=2*(5-i)+2:=by
 unfold jO;split
 ·show jt m z (.r2 b (i+1))<=_;rw[fq Z];show 2*(5-(i+1))+4<=_;omega
 show jt m z (.r4 b)<=_;rw[fq Z];show 4<=_;omega
theorem CPh.dec(h:Gl m g){x:CPh}{th:Int}(L:yJ s m g a z x)(R:g.n<=9):(x.stp th a z ((x.acc s a).res m)).rho ((x.acc s a).mem m)+1<=jt m z x:=by
 have w:=L.ok;have U:=L.er;cases x with
 | sub x k=>
  have d:=Sub.dec (th:=th) h w.1 U;have E:=w.2;obtain⟨I,N⟩:=sub_sg (s:=s) h w.1;have J:=KH I N;show CX.rho ((x.acc s).mem m) ((x.stp th z ((x.acc s).res m)).oM k λt s=>oS t s k)+1<=jt m z (.sub x k);cases k with
  | sg bq=>
   rw[ek Z];refine aF (eJ (m8 (x:=x) (c:=27+(40*lag m+ex4 (x.now m))) ?_ ?_)) (by show _<=dU m z x+27+(40*lag m+ex4 (x.now m));omega)
   ·intro A f l;have:=uW (m:=m) (s:=s) (th:=th) ⟨_,E.1⟩ l λc C=>by
     rw[E.1]at C;injection C with C;subst C;exact N
    have:=Om this;rw[ek Z,J];show dU _ f A+27+(40*lag m+ex4 (A.now _))<=_;omega
   intro r f l;cases r with
   | gd v p=>
    obtain⟨i,c,rfl,qa⟩:=uV l;have C:c= .tail:=by have E:Sub.cls (.g2 i c v)= .G .tail:=E.1;injection E
    subst C;rw[qa];show jt m f (.s2 bq v 0)<=_;rw[ek Z];exact aq _
   | _=>exact aN _
  | st b=>
   rw[ek Z];refine aF (eJ (m8 (x:=x) (c:=11+(40*lag m+ex4 (m (.nd (idxOf b) 0)==0))) ?_ ?_)) (by show _<=dU m z x+11+(40*lag m+ex4 (m (.nd (idxOf b) 0)==0));omega)
   ·intro A f l;rw[ek Z,J];show dU _ f A+11+(40*lag m+ex4 ((x.acc s).mem m (.nd (idxOf b) 0)==0))<=_;rw[I];omega
   intro r f l;cases r with
   | tk n p ok=>cases ok with
    | true=>
     show jt _ f (.fl n b 0)<=_;rw[ek Z,J];show 11+(40*lag m+ex4 ((x.acc s).mem m (.nd (idxOf b) 0)==0))<=_;rw[I];omega
    | false=>exact aN _
   | _=>exact aN _
  | sv p=>
   rw[fq Z];refine aF (eJ (m8 (x:=x) (c:=3) ?_ ?_)) (by show _<=dU m z x+3;omega)
   ·intro A f l;rw[fq Z];exact aq _
   intro r f l;exact nH _ _ _ _
  | rg=>
   rw[fq Z];refine aF (eJ (m8 (x:=x) (c:=14) ?_ ?_)) (by show _<=dU m z x+14;omega)
   ·intro A f l;rw[fq Z];exact aq _
   intro r f l;cases r with
   | gd v p=>show jt _ f (.r2 v 0)<=_;rw[fq Z];exact aq _
   | _=>exact aN _
  | oc o=>
   rw[fq Z];refine aF (eJ (m8 (x:=x) (c:=0) ?_ ?_)) (by show _<=dU m z x;omega)
   ·intro A f l;rw[fq Z];exact aq _
   intro r f l;exact aN _
 | s2 n b i=>
  have hi:=w.2.2.1;rw[a8 Z,ek Z];show CX.rho m (if _ then _ else _)+1<=2*(5-i)+17+(40*lag m+ex4 (m .tail==b));split
  ·show jt m z.got (.s3 n b i)+1<=_;rw[ek Z];show 2*(5-i)+16+(40*lag m+ex4 (m .tail==b))+1<=_;omega
  have:=zn (m:=m) n b i hi z.got;omega
 | s3 n b i=>
  have hi:=w.2.2.1;rw[ek Z];show CX.rho _ (if _ then(if _ then _ else _)else _)+1<=2*(5-i)+16+(40*lag m+ex4 (m .tail==b));split
  ·split
   ·show jt _ z.got (.sub (.v1 n) (.sv z.made))+1<=_;rw[fq Z];show 3+3+1<=_;omega
   have:=nH (m:=((CPh.s3 n b i).acc s a).mem m) 0 z.made O z.got;omega
  rename_i u;rw[bx Z (by simpa using u)];have:=zn (m:=m) n b i hi z.got;omega
 | s4 n b=>
  rw[a8 Z,ek Z];have T:(((CPh.s4 n b).acc s a).res m).1=m (.nd (idxOf b) 0):=dv _ _;show CX.rho m (if _ then _ else if _ then _ else _)+1<=17+(40*lag m+ex4 (m .tail==b));rw[T];split
  ·show jt m z.got (.s5 n b _)+1<=_;rw[ek Z];show 1+(40*lag m+ex4 (m .tail==b))+1<=_;omega
  rename_i B;have B:m (.nd (idxOf b) 0)=0:=by simpa using B
  split
  ·show jt m z.got (.sub .t1 (.st b))+1<=_;rw[ek Z];show 5+11+(40*lag m+ex4 (m (.nd (idxOf b) 0)==0))+1<=_;rw[B];show 5+11+(40*lag m+0)+1<=_;omega
  show jt m z.got (.s6 n b)+1<=_;rw[ek Z];show 5+(40*lag m+ex4 (m (.nd (idxOf b) 0)==0))+1<=_;rw[B];show 5+(40*lag m+0)+1<=_;omega
 | s5 n b q=>
  obtain⟨qa,M,D,H⟩:=w;have S:=h.rng q (by rw[M];simp);rw[ek Z];show (oN n z.got).rho _+1<=1+(40*lag m+ex4 (m .tail==b));have y:=yS (m:=((CPh.s5 n b q).acc s a).mem m) n z.got;by_cases e:m .tail=b
  ·have u:(((CPh.s5 n b q).acc s a).res m).2=O:=by simp[LAc.res,CPh.acc,e]
   obtain⟨_,W⟩:=bP (a:=(CPh.s5 n b q).acc s a) Z u;rw[W]at y ⊢;have G:lag m=1:=by unfold lag;rw[e,H,if_neg zO]
   have Q:lag (bz m .tail (dC b q))=0:=by
    unfold lag;rw[bU,Ny zO S.2];refine if_pos ?_;show m (.nd q 0)=0;refine db λV=>?_;have F:=MZ h R D M (by rw[H];omega) V;have:=(Ar h D (by rw[H];omega)).2.2;rw[H]at this;exact this F.symm
   have y:(oN n z.got).rho (bz m .tail (dC b q))<=32+40*lag (bz m .tail (dC b q)):=y;rw[Q]at y;rw[G];have:(oN n z.got).rho (bz m .tail (dC b q))+1<=1+(40*1+ex4 (m .tail==b)):=zO;exact this
  have u:(((CPh.s5 n b q).acc s a).res m).2=X:=by simp[LAc.res,CPh.acc,e]
  rw[bx Z u]at y ⊢;rw[beq_false_of_ne e];show _<=1+(40*lag m+40);omega
 | fl n b j=>
  obtain⟨y,F,h3,h4,h5,Y,qc⟩:=w;rw[bF Z,ek Z];have D:bz m (.nd n j) (if j=1 then a+2 else 0) (.nd (idxOf b) 0)=m (.nd (idxOf b) 0):=dY m _ _ _ (.inl (by intro e;rw[e,y]at F;cases F));have G:lag (bz m (.nd n j) (if j=1 then a+2 else 0))=lag m:=by
   unfold lag;have:bz m (.nd n j) (if j=1 then a+2 else 0) .tail=m .tail:=Z;rw[this,dY m _ _ _ (.inl ?_)];have:=MH h (c:=.tail) trivial;have this:g.st (idxOf (m .tail))= .sg:=this;intro e;rw[e,y]at this;cases this
  have qb:∀r,CPh.stp th a z (.fl n b j) r=if j<5 then .go (.fl n b (j+1)) z.got else .go (.s6 n b) z.got:=λ_=>Z
  rw[qb];show CX.rho (bz m (.nd n j) (if j=1 then a+2 else 0)) _+1<=11-j+(40*lag m+ex4 (m (.nd (idxOf b) 0)==0));by_cases P:j<5
  ·rw[if_pos P];show jt (bz m (.nd n j) (if j=1 then a+2 else 0)) z.got (.fl n b (j+1))+1<=_;rw[ek Z,G];show 11-(j+1)+(40*lag m+ex4 (bz m (.nd n j) (if j=1 then a+2 else 0) (.nd (idxOf b) 0)==0))+1<=_;rw[D];omega
  rw[if_neg P];show jt (bz m (.nd n j) (if j=1 then a+2 else 0)) z.got (.s6 n b)+1<=_;rw[ek Z,G];show 5+(40*lag m+ex4 (bz m (.nd n j) (if j=1 then a+2 else 0) (.nd (idxOf b) 0)==0))+1<=_;rw[D];omega
 | s6 n b=>
  rw[ek Z];show CX.rho _ (if _ then _ else _)+1<=5+(40*lag m+ex4 (m (.nd (idxOf b) 0)==0));split
  ·show jt _ z.got (.s7 n b z.made)+1<=_;rw[fq Z];show 4+1<=_;omega
  rename_i u;have u:(((CPh.s6 n b).acc s a).res m).2=X:=by simpa using u
  rw[bx Z u];have B:m (.nd (idxOf b) 0)≠0:=by intro e;simp[LAc.res,CPh.acc,e]at u
  rw[beq_false_of_ne B];have:=yS (m:=m) n z.got;show _<=5+(40*lag m+40);omega
 | s7 n b p=>
  rw[fq Z];have:=nH (m:=((CPh.s7 n b p).acc s a).mem m) 0 p O z.got;show (iY 0 O p z.got).rho _+1<=4;omega
 | r2 b i=>
  have hi:=w.2.1;rw[a8 Z,fq Z];show CX.rho m (if _ then _ else if _ then _ else _)+1<=2*(5-i)+4;split
  ·have:=nH (m:=m) 0 z.made X z.got;omega
  split
  ·have:=zt (m:=m) b i hi z.got;omega
  show jt m z.got (.r3 b i _)+1<=_;rw[fq Z];show 2*(5-i)+3+1<=_;omega
 | r3 b i K=>
  have hi:=w.2.1;rw[fq Z];show CX.rho _ (if _ then _ else _)+1<=2*(5-i)+3;split
  ·have:=nH (m:=((CPh.r3 b i K).acc s a).mem m) (K-2) z.made O z.got;omega
  have:=zt (m:=((CPh.r3 b i K).acc s a).mem m) b i hi z.got;omega
 | r4 b=>
  rw[fq Z];show CX.rho _ (if _ then _ else _)+1<=4;split
  ·have:=nH (m:=((CPh.r4 b).acc s a).mem m) 0 z.made X z.got;omega
  show 0+1<=4;omega
end
section
variable {x:Ph}
structure kK (op:Opr):Prop where
 k:1<=op.kind/\op.kind<=7
 obj:op.obj=0
 a:0<=op.a/\op.a<65536
 b:0<=op.b/\op.b<4294967296
def POk(s:Nat)(m:Sm)(g:Gh)(op:Opr):Ph->Prop
 | .m x _ gn=>op.kind<=3/\xS s m g ⟨op.kind,op.a,op.b⟩ gn x
 | .e x z=>4<=op.kind/\op.kind<=5/\xW s m g op.a z x
 | .c x z=>6<=op.kind/\yJ s m g op.a z x
def sS(s:Nat)(m:Sm)(g:Gh)(op:Opr):PX->Prop
 | .go x=>POk s m g op x
 | .out o=>ey g s 0 0/\g.dd s=o.gone.map (·.1)
 | .stuck=>False
def Ph.eff:Ph->Nat
 | .m x _ _=>x.eff
 | .e x _=>x.eff
 | .c x _=>x.eff
def Ph.tk:Ph->Nat
 | .m x _ _=>x.tk
 | .e x _=>x.tk
 | .c x _=>x.tk
def PX.eff:PX->Nat
 | .go x=>x.eff
 | .out _=>1
 | .stuck=>0
def PX.tk:PX->Nat
 | .go x=>x.tk
 | .out _=>2
 | .stuck=>0
def Ph.gst(s:Nat)(g:Gh):Ph->Int × Bool->Gh
 | .m x _ _,r=>x.gst s g r
 | .e x _,r=>x.gst s g r
 | .c x _,r=>x.gst s g r
def Ph.rho(m:Sm)(g:Gh):Ph->Nat
 | .m x _ _=>H0 m g x
 | .e x z=>yj m z x
 | .c x z=>jt m z x
def PX.rho(m:Sm)(g:Gh):PX->Nat
 | .go x=>x.rho m g
 | _=>0
section
variable {m m':Sm} {g g':Gh} {s t:Nat} {op:Opr}
theorem xd(b:Bool):isN b<=1:=by unfold isN;split<;>omega
theorem LK.xx(k:LK):k.eff<=1:=by
 have a:∀f:FK,f.eff<=1:=λf=>by cases f<;>simp[FK.eff]
 cases k with
 | fh k=>exact a k
 | fn k f=>exact a k
 | fr k f=>exact a k
 | out o=>exact xd _
 | clr o=>exact xd _
 | pt _ _=>exact aN _
 | dc n o=>exact xd _
theorem LPh.xx(x:LPh):x.eff<=1:=by
 have a:∀f:FK,f.eff<=1:=λf=>by cases f<;>simp[FK.eff]
 cases x with
 | sub x k=>exact k.xx
 | fs k _ _ _=>exact a k
 | fo k _ _ _=>exact a k
 | fc k _ _=>exact a k
 | du _ _ _ _=>exact aq _
 | _=>exact aN _
theorem LPh.L2(x:LPh):x.tk<=2:=by
 have a:∀f:FK,f.tk<=1:=λf=>by
  cases f with
  | put n=>simp only[FK.tk];split<;>omega
  | _=>exact aN _
 have b:∀x:Sub,x.tk<=1:=λx=>by cases x<;>simp[Sub.tk]
 cases x with
 | sub x k=>
  have c:=b x;have d:k.tk<=1:=by
   cases k with
   | fh k=>exact a k
   | fn k f=>exact a k
   | fr k f=>exact a k
   | pt _ _=>exact aN _
   | _=>exact aq _
  show x.tk+k.tk<=2;omega
 | fs k _ _ _=>have:=a k;show k.tk<=2;omega
 | fo k _ _ _=>have:=a k;show k.tk<=2;omega
 | fc k _ _=>have:=a k;show k.tk<=2;omega
 | p1 _ _ _=>exact oU _
 | p2 _ _ _=>exact oU _
 | p0 _ _ _=>exact oU _
 | pc _ _ _=>exact oU _
 | _=>exact aN _
theorem PX.xx(x:PX):x.eff<=1:=by
 cases x with
 | go x=>
  cases x with
  | m x _ _=>
   cases x with
   | ml a _ _ _ x _=>show (if a then 0 else x.eff)<=1;have:=x.xx;split<;>omega
   | _=>simp[PX.eff,Ph.eff,MPh.eff]
  | e x _=>
   cases x with
   | sub x k=>cases k<;>first|exact xd _ | exact aN _
   | _=>simp[PX.eff,Ph.eff,EPh.eff]
  | c x _=>
   cases x with
   | sub x k=>cases k<;>first|exact xd _ | exact aN _ | exact aq _
   | _=>simp[PX.eff,Ph.eff,CPh.eff]
 | out o=>exact aq _
 | stuck=>exact aN _
theorem PX.L2(x:PX):x.tk<=4:=by
 have a:∀x:Sub,x.tk<=1:=λx=>by cases x<;>simp[Sub.tk]
 cases x with
 | go x=>
  cases x with
  | m x _ _=>
   cases x with
   | ml b _ _ _ x _=>show (if b then x.tk else 1+x.tk)<=4;have:=x.L2;split<;>omega
   | _=>simp[PX.tk,Ph.tk,MPh.tk]
  | e x _=>
   cases x with
   | sub x k=>have:=a x;show x.tk+k.tk<=4;cases k<;>simp[EK.tk]<;>omega
   | _=>simp[PX.tk,Ph.tk,EPh.tk]
  | c x _=>
   cases x with
   | sub x k=>
    have:=a x;show x.tk+k.tk<=4;cases k with
    | sg n=>have:=rm n;show x.tk+mtk n<=4;omega
    | _=>simp[CK.tk]<;>omega
   | s2 n _ _=>have:=rm n;show mtk n<=4;omega
   | s3 n _ _=>have:=rm n;show mtk n<=4;omega
   | s4 n _=>have:=rm n;show mtk n<=4;omega
   | s5 n _ _=>have:=rm n;show mtk n<=4;omega
   | _=>simp[PX.tk,Ph.tk,CPh.tk]
 | out o=>show 2<=4;omega
 | stuck=>exact aN _
theorem Ph.MA(m:Sm)(g:Gh)(x:Ph):x.rho m g<=1400:=by
 cases x with
 | m x _ _=>exact rhoM_le m g x
 | e x z=>have:=rhoE_le m z x;show yj m z x<=_;omega
 | c x z=>have:=rhoC_le m z x;show jt m z x<=_;omega
theorem sS.env{x:PX}(h:Gl m g)(b:Gl m' g')(e:Env s m g m' g')(a:t≠s)(k:sS t m g op x):sS t m' g' op x:=by
 cases x with
 | go x=>
  cases x with
  | m x _ gn=>exact⟨k.1,k.2.env h b e a⟩
  | e x z=>exact⟨k.1,k.2.1,k.2.2.env h e a⟩
  | c x z=>exact⟨k.1,k.2.env h e a⟩
 | out o=>exact⟨k.1.env e a,(e.ddo t a).trans k.2⟩
 | stuck=>exact k
theorem Ph.nA(h:Gl m g)(a:POk s m g op x):mz g (x.acc s op.a).c:=by
 cases x with
 | m x n gn=>exact MPh.nA h a.2
 | e x z=>exact EPh.nA h a.2.2
 | c x z=>exact CPh.nA h a.2
theorem Ph.step(h:Gl m g){th:Int}(j:POk s m g op x)(w:g.fc+1<268435456)(v:g.tk<=37)(A:g.n<=9)(u:((g.dd s).length:Int)<th):
  Gl ((x.acc s op.a).mem m) (x.gst s g ((x.acc s op.a).res m))/\Env s m g ((x.acc s op.a).mem m) (x.gst s g ((x.acc s op.a).res m))/\
  sS s ((x.acc s op.a).mem m) (x.gst s g ((x.acc s op.a).res m)) op (x.stp th 2 op ((x.acc s op.a).res m))/\(x.gst s g ((x.acc s op.a).res m)).tk+x.tk<=g.tk+(x.stp th 2 op ((x.acc s op.a).res m)).tk/\
  (x.gst s g ((x.acc s op.a).res m)).n+x.eff<=g.n+(x.stp th 2 op ((x.acc s op.a).res m)).eff/\
  (x.stp th 2 op ((x.acc s op.a).res m)).rho ((x.acc s op.a).mem m) (x.gst s g ((x.acc s op.a).res m))+1<=x.rho m g:=by
 cases x with
 | m x n gn=>
  obtain⟨l,k,a,d,b⟩:=MPh.step (th:=th) (made:=n) h j.2 w v u;have f:=MPh.dec (th:=th) (made:=n) h j.2 w v u;refine⟨l,k,?_⟩;show sS s ((x.acc s).mem m) (x.gst s g ((x.acc s).res m)) op (x.stp th 2 ⟨op.kind,op.a,op.b⟩ n gn ((x.acc s).res m)).p/\(x.gst s g ((x.acc s).res m)).tk+x.tk<=g.tk+(x.stp th 2 ⟨op.kind,op.a,op.b⟩ n gn ((x.acc s).res m)).p.tk/\(x.gst s g ((x.acc s).res m)).n+x.eff<=g.n+(x.stp th 2 ⟨op.kind,op.a,op.b⟩ n gn ((x.acc s).res m)).p.eff/\(x.stp th 2 ⟨op.kind,op.a,op.b⟩ n gn ((x.acc s).res m)).p.rho ((x.acc s).mem m) (x.gst s g ((x.acc s).res m))+1<=H0 m g x;cases i:x.stp th 2 ⟨op.kind,op.a,op.b⟩ n gn ((x.acc s).res m)with
  | go y C g'=>rw[i]at a d b f;exact⟨⟨j.1,a⟩,d,b,f⟩
  | out o=>rw[i]at a d b f;exact⟨a,d,b,f⟩
  | stuck=>rw[i]at a;exact absurd a (by simp[yG])
 | e x z=>
  obtain⟨l,k,a,d,b⟩:=EPh.step (th:=th) h j.2.2 w v u;have f:=EPh.dec (th:=th) h j.2.2;refine⟨l,k,?_⟩;show sS s ((x.acc s op.a).mem m) (x.gst s g ((x.acc s op.a).res m)) op (x.stp th op.a z ((x.acc s op.a).res m)).p/\(x.gst s g ((x.acc s op.a).res m)).tk+x.tk<=g.tk+(x.stp th op.a z ((x.acc s op.a).res m)).p.tk/\(x.gst s g ((x.acc s op.a).res m)).n+x.eff<=g.n+(x.stp th op.a z ((x.acc s op.a).res m)).p.eff/\(x.stp th op.a z ((x.acc s op.a).res m)).p.rho ((x.acc s op.a).mem m) (x.gst s g ((x.acc s op.a).res m))+1<=yj m z x;cases i:x.stp th op.a z ((x.acc s op.a).res m)with
  | go y B=>rw[i]at a d b f;exact⟨⟨j.1,j.2.1,a⟩,d,b,f⟩
  | out o=>rw[i]at a d b f;exact⟨a,d,b,f⟩
  | stuck=>rw[i]at a;exact absurd a (by simp[uk])
 | c x z=>
  obtain⟨l,k,a,d,b⟩:=CPh.step (th:=th) h j.2 w v A u;have f:=CPh.dec (th:=th) h j.2 A;refine⟨l,k,?_⟩;show sS s ((x.acc s op.a).mem m) (x.gst s g ((x.acc s op.a).res m)) op (x.stp th op.a z ((x.acc s op.a).res m)).p/\(x.gst s g ((x.acc s op.a).res m)).tk+x.tk<=g.tk+(x.stp th op.a z ((x.acc s op.a).res m)).p.tk/\(x.gst s g ((x.acc s op.a).res m)).n+x.eff<=g.n+(x.stp th op.a z ((x.acc s op.a).res m)).p.eff/\(x.stp th op.a z ((x.acc s op.a).res m)).p.rho ((x.acc s op.a).mem m) (x.gst s g ((x.acc s op.a).res m))+1<=jt m z x;cases i:x.stp th op.a z ((x.acc s op.a).res m)with
  | go y B=>rw[i]at a d b f;exact⟨⟨j.1,a⟩,d,b,f⟩
  | out o=>rw[i]at a d b f;exact⟨a,d,b,f⟩
  | stuck=>rw[i]at a;exact absurd a (by simp[yI])
theorem yO(ho:kK op){gn:cq}(a:ey g s 0 0)(hd:g.dd s=gn.map (·.1)):∃x,ee op gn= .go x/\POk s m g op x/\x.eff=0/\x.tk=0:=by
 have f:=ho.k;unfold ee;by_cases b:1<=op.kind/\op.kind<=3
 ·rw[if_pos b];exact⟨_,Z,⟨b.2,b,ho.a,trivial,a,by simpa[MPh.cu] using hd⟩,Z,Z⟩
 rw[if_neg b];by_cases d:4<=op.kind/\op.kind<=5
 ·rw[if_pos d];have:op.kind=4\/op.kind=5:=M;rcases this with e|e
  ·refine⟨.e (.sub .t1 .ut) ⟨[0,0,0],gn,0⟩,by rw[e];rfl,⟨M,M,⟨trivial,Z⟩,Z,a,by simpa[EPh.cu,Sub.cu,EK.cu] using hd⟩,Z,Z⟩
  refine⟨.e (.sub (.g1 0 .top) .og) ⟨[0,0,0],gn,0⟩,by rw[e];rfl,⟨M,M,⟨⟨zD,trivial⟩,Z⟩,Z,a,by simpa[EPh.cu,Sub.cu,EK.cu] using hd⟩,Z,Z⟩
 rw[if_neg d,if_pos M];have:op.kind=6\/op.kind=7:=M;have c:0<=op.a/\op.a<4294967296:=by have:=ho.a;omega
 rcases this with e|e
 ·refine⟨.c (.sub (.g1 0 .tail) (.sg 0)) ⟨[0,0,0],gn,0⟩,by rw[e];rfl,⟨M,c,⟨⟨zD,trivial⟩,Z,λh=>absurd Z h⟩,Z,a,by simpa[CPh.cu,Sub.cu] using hd⟩,Z,Z⟩
 refine⟨.c (.sub (.g1 0 .head) .rg) ⟨[0,0,0],gn,0⟩,by rw[e];rfl,⟨M,c,⟨⟨zD,trivial⟩,Z⟩,Z,a,by simpa[CPh.cu,Sub.cu] using hd⟩,Z,Z⟩
end
structure Sq where
 done:Nat
 cur:Option PX
 gone:cq
def Sq.eff(q:Sq):Nat:=q.done+(q.cur.map PX.eff).getD 0
def Sq.tk(q:Sq):Nat:=2*q.done+(q.cur.map PX.tk).getD 0
def sQ(s:Nat)(m:Sm)(g:Gh)(a:List Opr)(q:Sq):Prop:=match q.cur with
 | none=>q.done=a.length/\ey g s 0 0/\g.dd s=q.gone.map (·.1)
 | some x=>∃op,a[q.done]? =J op/\sS s m g op x
structure Wk (S:Nat) (want:List (List Opr)) (m:Sm) (g:Gh) (N:Nat) (q:Nat->Sq):Prop where
 gl:Gl m g
 S1:1<=S/\S<=3
 wl:want.length=S
 w3:∀ops∈want,ops.length<=3/\∀op∈ops,kK op
 sq:∀s ops,want[s]? =J ops->sQ s m g ops (q s)
 no:∀s,S<=s->ey g s 0 0/\g.dd s=[]
 z:∀s,S<=s->(q s).eff=0/\(q s).tk=0
 n:g.n<=(q 0).eff+(q 1).eff+(q 2).eff
 tk:g.tk<=(q 0).tk+(q 1).tk+(q 2).tk
 fc:g.fc<=N
 N:N<=200000000
def iC(a:List Opr)(d:Nat)(gn:cq):Option PX:=(a[d]?).map λop=>ee op gn
section
variable {m m':Sm} {g g':Gh} {s t S N:Nat} {want:List (List Opr)} {q:Nat->Sq}
theorem Wk.le3(h:Wk S want m g N q)(s:Nat):(q s).eff<=(if s<S then 3 else 0)/\(q s).tk<=10:=by
 by_cases b:s<S
 ·rw[if_pos b];obtain⟨ops,ho⟩:∃ops,want[s]? =J ops:=⟨_,aD (by rw[h.wl];exact b)⟩;have a:=h.sq s ops ho;have e:=(h.w3 ops (aU ho)).1;unfold sQ at a;unfold Sq.eff Sq.tk;cases c:(q s).cur with
  | none=>rw[c]at a;simp;have:=a.1;omega
  | some x=>
   rw[c]at a;obtain⟨op,d,-⟩:=a;have:=(aC.1 d).1;have i:=x.xx;have f:=x.L2;simp;omega
 rw[if_neg b];have:=h.z s M;omega
theorem Wk.bounds(h:Wk S want m g N q)(s:Nat):g.n<=9/\g.tk<=37/\g.fc+1<268435456/\(g.dd s).length<2*S:=by
 have a:=h.le3 0;have b:=h.le3 1;have c:=h.le3 2;have f:=h.S1;have e:=h.n;have d:g.n<=3*S:=by
  split at a<;>split at b<;>split at c<;>omega
 refine⟨M,by have:=h.tk;omega,by have:=h.fc;have:=h.N;omega,?_⟩;have hd:=h.gl.dlen s;have i:=h.gl.cnt;omega
theorem vc{q:Nat->Sq}{s:Nat}{x:Sq}(a:s<3)(f:Sq->Nat):f (fD q s x 0)+f (fD q s x 1)+f (fD q s x 2)+f (q s)=f (q 0)+f (q 1)+f (q 2)+f x:=by
 have:s=0\/s=1\/s=2:=M;rcases this with rfl|rfl|rfl<;>simp[fD]<;>omega
theorem Wk.step(h:Wk S want m g N q){l:List Opr}{op:Opr}(j:want[s]? =J l)(u:l[(q s).done]? =J op)(k:(q s).cur=J (.go x))(D:N+1<=200000000):
  Wk S want ((x.acc s op.a).mem m) (x.gst s g ((x.acc s op.a).res m)) (N+1) (fD q s { q s with cur:=J (x.stp (2*S:Nat) 2 op ((x.acc s op.a).res m)) })/\mz g (x.acc s op.a).c/\
  (x.stp (2*S:Nat) 2 op ((x.acc s op.a).res m)).rho ((x.acc s op.a).mem m) (x.gst s g ((x.acc s op.a).res m))+1<=x.rho m g/\sS s ((x.acc s op.a).mem m) (x.gst s g ((x.acc s op.a).res m)) op (x.stp (2*S:Nat) 2 op ((x.acc s op.a).res m))/\Env s m g ((x.acc s op.a).mem m) (x.gst s g ((x.acc s op.a).res m)):=by
 obtain⟨z,E,B,K⟩:=h.bounds s;have P:s<S:=by rw[<- h.wl];exact(aC.1 j).1
 have Q:=h.S1;have n:POk s m g op x:=by
  have a:=h.sq s l j;unfold sQ at a;rw[k]at a;obtain⟨i,d,f⟩:=a;have:i=op:=by rw[u]at d;injection d with d;exact d.symm
  rw[this]at f;exact f
 obtain⟨v,c,o,L,M,C⟩:=Ph.step (th:=((2*S:Nat):Int)) h.gl n B E z zO;have d:=vc (q:=q) (s:=s) (x:={ q s with cur:=J (x.stp (2*S:Nat) 2 op ((x.acc s op.a).res m)) }) zO Sq.eff;have f:=vc (q:=q) (s:=s) (x:={ q s with cur:=J (x.stp (2*S:Nat) 2 op ((x.acc s op.a).res m)) }) zO Sq.tk;have F:(q s).eff=(q s).done+x.eff:=by unfold Sq.eff;rw[k];rfl
 have qa:(q s).tk=2*(q s).done+x.tk:=by unfold Sq.tk;rw[k];rfl
 have G:Sq.eff { q s with cur:=J (x.stp (2*S:Nat) 2 op ((x.acc s op.a).res m)) } =(q s).done+(x.stp (2*S:Nat) 2 op ((x.acc s op.a).res m)).eff:=Z;have I:Sq.tk { q s with cur:=J (x.stp (2*S:Nat) 2 op ((x.acc s op.a).res m)) } =2*(q s).done+(x.stp (2*S:Nat) 2 op ((x.acc s op.a).res m)).tk:=Z;have O:=h.n;have H:=h.tk;refine⟨⟨v,h.S1,h.wl,h.w3,?_,?_,?_,zO,zO,?_,D⟩,Ph.nA h.gl n,C,o,c⟩
 ·intro t A b;by_cases e:t=s
  ·subst e;rw[j]at b;injection b with b;subst b;unfold sQ;rw[bL];exact⟨op,u,o⟩
  rw[cQ _ _ e];have a:=h.sq t A b;unfold sQ at a ⊢;cases w:(q t).cur with
  | none=>rw[w]at a;exact⟨a.1,a.2.1.env c e,(c.ddo t e).trans a.2.2⟩
  | some y=>
   rw[w]at a;obtain⟨i,d,f⟩:=a;exact⟨i,d,f.env h.gl v c e⟩
 ·intro t b;have a:=h.no t b;exact⟨a.1.env c zO,(c.ddo t zO).trans a.2⟩
 ·intro t b;rw[cQ _ _ zO];exact h.z t b
 have:=c.fcu;have:=h.fc;omega
theorem Wk.fin(h:Wk S want m g N q){a:List Opr}{op:Opr}{o:Out}(d:want[s]? =J a)(v:a[(q s).done]? =J op)(c:(q s).cur=J (.out o)):
  Wk S want m g N (fD q s ⟨(q s).done+1,iC a ((q s).done+1) o.gone,o.gone⟩):=by
 have E:s<S:=by rw[<- h.wl];exact(aC.1 d).1
 have F:=h.S1;have i:=h.sq s a d;have D:=(aC.1 v).1;unfold sQ at i;rw[c]at i;obtain⟨z,n,k,hd⟩:=i;have u:sQ s m g a ⟨(q s).done+1,iC a ((q s).done+1) o.gone,o.gone⟩/\(q s).done+1<=(Sq.eff ⟨(q s).done+1,iC a ((q s).done+1) o.gone,o.gone⟩)/\2*(q s).done+2<=(Sq.tk ⟨(q s).done+1,iC a ((q s).done+1) o.gone,o.gone⟩):=by
  unfold sQ iC Sq.eff Sq.tk;cases j:a[(q s).done+1]? with
  | none=>exact⟨⟨by have:=List.getElem?_eq_none_iff.1 j;show (q s).done+1=a.length;omega,k,hd⟩,dT _ _,dT _ _⟩
  | some f=>
   obtain⟨x,c,l,-,-⟩:=yO (m:=m) (g:=g) (s:=s) ((h.w3 a (aU d)).2 f (aU j)) k hd;exact⟨⟨f,Z,by show sS s m g f (ee f o.gone);rw[c];exact l⟩,dT _ _,dT _ _⟩
 have n:=vc (q:=q) (s:=s) (x:=⟨(q s).done+1,iC a ((q s).done+1) o.gone,o.gone⟩) M Sq.eff;have C:=vc (q:=q) (s:=s) (x:=⟨(q s).done+1,iC a ((q s).done+1) o.gone,o.gone⟩) M Sq.tk;have y:(q s).eff=(q s).done+1:=by unfold Sq.eff;rw[c];rfl
 have B:(q s).tk=2*(q s).done+2:=by unfold Sq.tk;rw[c];rfl
 have j:=h.n;have A:=h.tk;refine⟨h.gl,h.S1,h.wl,h.w3,?_,h.no,?_,M,M,h.fc,h.N⟩
 ·intro t w b;by_cases e:t=s
  ·subst e;rw[d]at b;injection b with b;subst b;rw[bL];exact u.1
  rw[cQ _ _ e];exact h.sq t w b
 intro t b;rw[cQ _ _ M];exact h.z t b
theorem Wk.go(h:Wk S want m g N q){b:List Opr}(e:want[s]? =J b)(hd:(q s).done<b.length):∃op,b[(q s).done]? =J op/\((∃x,(q s).cur=J (.go x))\/∃o,(q s).cur=J (.out o)):=by
 have a:=h.sq s b e;unfold sQ at a;cases c:(q s).cur with
 | none=>rw[c]at a;have:=a.1;omega
 | some x=>
  rw[c]at a;obtain⟨op,d,f⟩:=a;refine⟨op,d,?_⟩;cases x with
  | go x=>exact .inl ⟨x,Z⟩
  | out o=>exact .inr ⟨o,Z⟩
  | stuck=>exact absurd f (by simp[sS])
end
end
end Go.Proofs.YtikdaeddbkopeaaGreatR
