/- A part of the proof. -/
import Derived.Deep.QuietTactic
import Derived.BigQuiet
import Derived.Outline
import Derived.Maps.Own
import Derived.Maps.Keyed
import Derived.Maps.Views
import Derived.WalkMore
import Derived.Test.YtikdaeddbkopeaaGreatRV7
import Derived.Test.YtikdaeddbkopeaaGreatRV1
import Derived.Test.YtikdaeddbkopeaaGreatRV8
import Derived.Test.YtikdaeddbkopeaaGreatRV6
set_option linter.unusedVariables false
set_option linter.unusedSimpArgs false
set_option maxRecDepth 100000
set_option maxHeartbeats 16000000
open Go.Proofs.Tryz
open And renaming intro → al
open Array renaming getElem?_eq_some_iff → a9
open Bool renaming false → X, true → O, and_eq_true → bN
open Go renaming Calls → U, Value → I, World → W, Program → J4, run_loadVar_row → a7, wpList_load_row → aM, wp_at_zero → aQ, wp_at_succ → aR, bodyPost_ret → aS, TypeId → bM, loadVar → cL, wpList_append_own_at → dI, results → jE, Ending → jK, execOp → nO, maxLen → sV, Operand → vn
open Go.Ending renaming returned → ai
open Go.Instr renaming sureAddr → uS, makeFunc → uT
open Go.IntKind renaming i64 → H, i64 → ab
open Go.IntWalk renaming i64_in → dh
open Go.Lib renaming hid → N, hid → aj
open Go.Obj renaming cells → ag
open Go.Proofs.Tryz renaming underlying61 → Bz, underlying34 → aK, prog → ao, underlying35 → lI
open Go.Result renaming andThen_ok → bC
open Go.RowKit renaming Below → D
open Go.RowKit.Below renaming heap_setCell → jL
open Go.Sem renaming run_bind → cD, run_pure → dF
open Go.Value renaming int → V, oneCell' → aB, bool → ah, int → aa, pointer → ae, slice → af
open Go.WideShapes renaming add_plain → gZ
open Go.World renaming ownsRow_nil → bW
open Int renaming toNat_natCast → BA
open List renaming getElem?_eq_some_iff → aC, getElem?_eq_getElem → aD, mem_cons → aL, mem_of_getElem? → aU, setIfInBounds_toArray → ak, getElem_cons_zero → an, getElem_cons_succ → ar, getElem_toArray → au, set_cons_zero → ay, set_cons_succ → az, length_append → bE, mem_singleton → bH, not_mem_nil → be, all_eq_true → cJ, mem_cons_of_mem → cM, nodup_cons → cS, mem_append → cy, getD_eq_getElem?_getD → dJ, length_take → dg, range → eF, set_nil → eM, replicate → fV, mem_filter → jF, length_cons → ku, mem_range → lK, take_length → nP, pairwise_cons → nQ, length_map → qH, take_add_one → qy, map_cons → s8
open Nat renaming le_trans → aF, zero_le → aN, lt_of_lt_of_le → aZ, le_refl → aq, zero_add → ea, le_of_lt → ed, le_succ → oU
open Option renaming none → Y, some → J, isSome_some → cZ
open Or renaming inl → jI
open True renaming intro → bd
namespace Go.Proofs.YtikdaeddbkopeaaGreatR
def ofK(k:Int):Int:=if 1<=k/\k<=3 then 1 else if k=4\/k=5 then 2 else if k=6\/k=7 then 3 else 0
def ownB(κ:Int)(c:cd):Bool:=decide (ofK c.op.kind=κ)&&decide (c.op.obj=0)
def fM(N:Nat)(l:List cd):List cd:=(l.filter λc=>decide (c.first<N)).map λc=>{ c with last:=1000000 }
def fL(s:Nat)(p:List cd):Nat->List cd
 | 0=>[]
 | i+1=>fL s p i++(if s / 2 ^ i%2=1 then p[i]?.toList else [])
def rY(κ:Int)(a N s:Nat)(t:cY):List cd:=(t.calls.take a++fL s (fM N (t.calls.drop a)) (fM N (t.calls.drop a)).length).filter (ownB κ)
def OS(own:List cd):Prop:=∃o c,o.Nodup/\(∀i,i∈o ↔ i<own.length)/\o.Pairwise (O6 own)/\pG own o ct0 c
theorem uX{op:Opr}(h:1<=op.kind/\op.kind<=7):ofK op.kind=kof op:=by
 unfold ofK kof
 (repeat' split)<;>omega
theorem pick_ex(p:List cd)(h:p.length<=3)(P:cd->Bool):∃s,s<8/\fL s p p.length=p.filter P:=by
 match p,h with
 | [],_=>exact⟨0,M,Z⟩
 | [a],_=>cases e:P a<;>first|(refine⟨0,M,?_⟩;simp[fL,e];done) | (refine⟨1,M,?_⟩;simp[fL,e];done)
 | [a,b],_=>cases e:P a<;>cases f:P b<;>first|(refine⟨0,M,?_⟩;simp[fL,e,f];done) | (refine⟨1,M,?_⟩;simp[fL,e,f];done) | (refine⟨2,M,?_⟩;simp[fL,e,f];done) | (refine⟨3,M,?_⟩;simp[fL,e,f];done)
 | [a,b,c],_=>cases e:P a<;>cases f:P b<;>cases g:P c<;>first|(refine⟨0,M,?_⟩;simp[fL,e,f,g];done) | (refine⟨1,M,?_⟩;simp[fL,e,f,g];done) | (refine⟨2,M,?_⟩;simp[fL,e,f,g];done) | (refine⟨3,M,?_⟩;simp[fL,e,f,g];done) | (refine⟨4,M,?_⟩;simp[fL,e,f,g];done) | (refine⟨5,M,?_⟩;simp[fL,e,f,g];done) | (refine⟨6,M,?_⟩;simp[fL,e,f,g];done) | (refine⟨7,M,?_⟩;simp[fL,e,f,g];done)
 | a :: b :: c :: d :: r,h=>simp only[ku]at h;omega
theorem ph{f:Nat->Option Nat}:∀(S:Nat) (l:List Nat),l.Nodup->(∀a∈l,∃s,s<S/\f s=J a)->l.length<=S
 | 0,[],_,_=>aq _
 | 0,a :: l,_,h=>by obtain⟨s,g,-⟩:=h a zS;omega
 | S+1,l,hn,h=>by
  by_cases i:∃a∈l,f S=J a
  ·obtain⟨a,k,j⟩:=i;have:=ph S (l.erase a) (hn.erase a) λb d=>by
    obtain⟨m,n⟩:=(List.Nodup.mem_erase_iff hn).1 d;obtain⟨s,g,c⟩:=h b n;refine⟨s,?_,c⟩;by_cases e:s=S
    ·rw[e,j]at c;injection c with c;exact absurd c.symm m
    omega
   rw[List.length_erase_of_mem k]at this;omega
  have:=ph S l hn λb d=>by
   obtain⟨s,g,c⟩:=h b d;refine⟨s,?_,c⟩;by_cases e:s=S
   ·exact absurd ⟨b,d,e ▸ c⟩ i
   omega
  omega
structure xY (want:List (List Opr)) (t:cY):Prop where
 ok:∀c∈t.calls,kK c.op
 len:t.calls.length=(t.aO.map (·.pos)).sum
 pos:∀(s:Nat) x ops,t.aO[s]? =J x->want[s]? =J ops->x.pos<=ops.length
theorem Ak{f:fz->Nat}:∀ {l:List fz} {i:Nat} {x y:fz},l[i]? =J x->((l.set i y).map f).sum+f x=(l.map f).sum+f y
 | [],_,_,_,h=>by cases h
 | a :: l,0,x,y,h=>by
  injection h with h;subst h;simp only[ay,s8,List.sum_cons];omega
 | a :: l,i+1,x,y,h=>by
  have:=Ak (f:=f) (l:=l) (i:=i) (x:=x) (y:=y) h;simp only[az,s8,List.sum_cons];omega
theorem I8{f:fz->Nat}:∀ {l:List fz},(∀x∈l,f x<=3)->(l.map f).sum<=3*l.length
 | [],_=>aq _
 | a :: l,h=>by
  have d:=h a zS;have c:=I8 (f:=f) (l:=l) λx b=>h x (cM _ b);simp only[s8,List.sum_cons,ku];omega
section
variable {S:Nat} {want:List (List Opr)} {t t1 t2:cY}
theorem xY.mU(m:∀j∈want,j.length<=3/\∀k∈j,kK k)(h:xY want t)(who:Nat):xY want (dD (lyW S) want who t).1:=by
 unfold dD;split;rotate_left
 ·exact h
 rename_i x j g ho;split
 ·exact h
 rename_i k l;split
 ·rename_i a q;refine⟨h.ok,?_,λs y o b d=>?_⟩
  ·have:=Ak (f:=(·.pos)) (y:={ x with log:=x.log++[Ax (mx (lyW S) a) t.m],steps:=x.steps++[t.events.length],made:=x.made+1 }) g;have:=h.len;simp only[jj]at *;omega
  simp only[jj]at b;by_cases e:s=who
  ·subst e;rw[List.getElem?_set_self (aC.1 g).1]at b;injection b with b;subst b;exact h.pos s x o g d
  rw[List.getElem?_set_ne (λh=>e h.symm)]at b;exact h.pos s y o b d
 ·rename_i o n;refine⟨λc i=>?_,?_,λs y o b d=>?_⟩
  ·rcases cy.1 i with i|i
   ·exact h.ok c i
   rw[bH.1 i];exact(m j (aU ho)).2 k (aU l)
  ·have:=Ak (f:=(·.pos)) (y:=⟨x.pos+1,[],[],o.gone,x.made⟩) g;have:=h.len;simp only[mG,bE,ku,List.length_nil]at *;omega
  simp only[mG]at b;by_cases e:s=who
  ·subst e;rw[List.getElem?_set_self (aC.1 g).1]at b;injection b with b;subst b;rw[ho]at d;injection d with d;subst d;exact(aC.1 l).1
  rw[List.getElem?_set_ne (λh=>e h.symm)]at b;exact h.pos s y o b d
 exact h
theorem xY.goes(e:∀a∈want,a.length<=3/\∀d∈a,kK d){n:Nat}(h:pJ S want t n t1)(c:xY want t):xY want t1:=by
 induction h with
 | refl=>exact c
 | mU _ _ b=>exact b.mU e _
theorem cinv0(want:List (List Opr))(S:Nat):xY want (jh S):=by
 have b:∀(s:Nat) (x:fz),(jh S).aO[s]? =J x->x=uu:=by
  intro s x a;exact(List.mem_replicate.1 (aU a)).2
 refine⟨λc d=>(by cases d),?_,λs x f a _=>(by have:=b s x a;subst this;exact aN _)⟩;show 0=((fV S uu).map (·.pos)).sum;rw[List.map_replicate];induction S with
 | zero=>rfl
 | succ n e=>rw[List.replicate_succ,List.sum_cons,<- e (λs x a=>(List.mem_replicate.1 (aU a)).2)];rfl
theorem xY.le9(c:∀a∈want,a.length<=3/\∀d∈a,kK d)(h:xY want t)(g:t.aO.length=want.length)(k:want.length<=3):t.calls.length<=9:=by
 have:=I8 (f:=(·.pos)) (l:=t.aO) λx e=>by
  obtain⟨s,b⟩:=List.getElem?_of_mem e;have j:=(aC.1 b).1;have ho:=aD (l:=want) (i:=s) M;have m:=h.pos s x _ b ho;have n:=(c _ (aU ho)).1;omega
 rw[h.len];omega
open Classical in
theorem Ks{K R:Nat->Ab}{v O:Nat->List LnE}(W1:WL S want t1 K v)(W2:WL S want t2 R O)(H:Hist t1.events.length K v R O)(hN:t1.events.length<=t2.events.length)(hN1:t1.events.length<=1000000)(hnew:∃new,t2.calls=t1.calls++new/\∀c∈new,Beg S want t1 c.who c.first)(ie:∀s,j8 S want t2 s=none)(J:xY want t2):
  (fM t1.events.length (t2.calls.drop t1.calls.length)).length<=S/\(S<=3->∀κ,1<=κ->κ<=3->∃s,s<8/\(rY κ t1.calls.length t1.events.length s t2).length<=t2.calls.length/\OS (rY κ t1.calls.length t1.events.length s t2)):=by
 obtain⟨sm1,g1,q1,w1,V1,o⟩:=W1;obtain⟨sm2,g2,q2,w2,V2,A⟩:=W2;obtain⟨new,w,hbeg⟩:=hnew;have hdrop:t2.calls.drop t1.calls.length=new:=by rw[w];exact List.drop_left
 have htake:t2.calls.take t1.calls.length=t1.calls:=by rw[w];exact List.take_left
 unfold rY;rw[hdrop,htake];have o:Ln sm1 g1 t1.events.length (j8 S want t1) t1.calls K v w1:=o;obtain⟨N,qb⟩:=nM (t1.events.length);rw[qb]at hN hN1 H o ⊢;have A:Ln sm2 g2 t2.events.length (j8 S want t2) t2.calls R O w2:=A;have nd2:(t1.calls.map (·.first)++new.map (·.first)).Nodup:=by rw[<- List.map_append,<- w];exact A.id1
 have qa:∀l:List cd,(l.map λc=>({ c with last:=1000000 }:cd)).map (·.first)=l.map (·.first):=by intro l;rw[List.map_map];rfl
 have Y:((fM N new).map (·.first)).Sublist (new.map (·.first)):=by
  unfold fM;rw[qa];exact List.Sublist.map _ List.filter_sublist
 have hlen:(fM N new).length<=S:=by
  rw[<- qH (f:=(·.first))];refine ph (f:=λs=>(j8 S want t1 s).bind λx=>x.st[0]?) S _ ((List.nodup_append.1 nd2).2.1.sublist Y) λa d=>?_;unfold fM at d;rw[qa]at d;obtain⟨c,m,rfl⟩:=List.mem_map.1 d;obtain⟨g,u⟩:=jF.1 m;rcases hbeg c g with h|⟨x,k,B⟩
  ·rw[qb]at h;have:=of_decide_eq_true u;omega
  refine⟨c.who,?_,by rw[k];exact B⟩;obtain⟨y,_,_,Q,-⟩:=oq k;have:=(aC.1 Q).1;have:=V1.sl;omega
 refine⟨hlen,λh3 κ k1 k2=>?_⟩;obtain⟨s,hs,NK⟩:=pick_ex (fM N new) zO (λc=>decide (∃i,i<N/\∃a∈v i,a.f=c.first));refine⟨s,hs,?_⟩;rw[NK];obtain⟨L,T⟩:=nM ((fM N new).filter (λc=>decide (∃i,i<N/\∃a∈v i,a.f=c.first)));rw[T];have csub:(L.map (·.first)).Sublist (new.map (·.first)):=by rw[<- T];exact(List.Sublist.map _ List.filter_sublist).trans Y
 have U:∀c,c∈L ↔ ∃b∈new,b.first<N/\c={ b with last:=1000000 } /\∃i,i<N/\∃a∈v i,a.f=b.first:=by
  intro c;rw[<- T,jF,decide_eq_true_iff];unfold fM;constructor
  ·rintro⟨h,i,hi,a,d,B⟩;obtain⟨b,I,rfl⟩:=List.mem_map.1 h;obtain⟨g,u⟩:=jF.1 I;exact⟨b,g,of_decide_eq_true u,rfl,i,hi,a,d,B⟩
  rintro⟨b,g,u,rfl,i,hi,a,d,B⟩;exact⟨List.mem_map.2 ⟨b,jF.2 ⟨g,decide_eq_true u⟩,rfl⟩,i,hi,a,d,B⟩
 have hE:∀i,i<N->O i=v i:=H.e;have N6:∀i,i<N->∀a∈v i,∃c∈t2.calls,c.first=a.f/\c.op=a.op:=by
  intro i hi a d;rcases A.ev i zO a (by rw[hE i hi];exact d)with⟨s,x,k,-⟩|h
  ·rw[ie s]at k;cases k
  exact h
 refine⟨?_,MW (C:=K) (E:=v) (N:=N) (κ:=κ) o.c0 o.st ⟨k1,k2⟩ o.un o.nd o.kd o.vl (λi hi a d=>?_) (λi j x y k Q e=>?_) (λx k=>?_) (λx k=>?_) (λi hi a d hk=>?_)⟩
 ·refine aF (List.length_filter_le _ _) ?_;rw[w,bE,bE];have:=csub.length_le;rw[qH,qH]at this;omega
 ·obtain⟨c,m,-,e⟩:=N6 i hi a d;rw[<- e];exact(J.ok c m).k
 ·have nd:(((t1.calls++L).filter (ownB κ)).map (·.first)).Nodup:=by
   refine nd2.sublist ((List.Sublist.map _ List.filter_sublist).trans ?_);rw[List.map_append];exact List.Sublist.append (List.Sublist.refl _) csub
  have hi:=(aC.1 k).1;refine(List.getElem?_inj (l:=((t1.calls++L).filter (ownB κ)).map (·.first)) (by rw[qH];exact hi) nd).1 ?_;rw[List.getElem?_map,List.getElem?_map,k,Q];exact congrArg some e
 ·obtain⟨g,u⟩:=jF.1 k;have G:kK x.op:=by
   rcases cy.1 g with g|g
   ·exact J.ok x (by rw[w];exact cy.2 (.inl g))
   obtain⟨b,I,-,rfl,-⟩:=(U x).1 g;exact J.ok b (by rw[w];exact cy.2 (.inr I))
  unfold ownB at u;rw[bN,decide_eq_true_iff,decide_eq_true_iff]at u;exact⟨(uX G.k).symm.trans u.1,G.k⟩
 ·obtain⟨g,-⟩:=jF.1 k;rcases cy.1 g with g|g
  ·obtain⟨l1,W,⟨p,z,F,n,q⟩|⟨i,e,z,F,n,q⟩⟩:=o.cl x g
   ·exact⟨p,z,F,zO,.inl ⟨n,q⟩⟩
   exact⟨i,z,F,zO,.inr ⟨e,n,q⟩⟩
  obtain⟨b,I,hbN,rfl,j,P,a,d,B⟩:=(U x).1 g;obtain⟨l1,W,⟨p,z,F,n,q⟩|⟨i,e,z,F,n,q⟩⟩:=A.cl b (by rw[w];exact cy.2 (.inr I))
  ·exact absurd B (q j zO a (by rw[hE j P];exact d))
  obtain⟨D,M⟩:=A.un i j _ a zO zO n (by rw[hE j P];exact d) B.symm;subst D;exact⟨i,z,by show i<=1000000;omega,P,.inr ⟨e,by rw[<- hE i P];exact n,q⟩⟩
 obtain⟨c,m,D,M⟩:=N6 i hi a d;have X:ownB κ c=true:=by
  have G:=J.ok c m;unfold ownB;rw[bN,decide_eq_true_iff,decide_eq_true_iff];exact⟨(uX G.k).trans (by rw[M];exact hk),G.obj⟩
 rw[w]at m;rcases cy.1 m with m|m
 ·exact⟨c,jF.2 ⟨cy.2 (.inl m),X⟩,D,M⟩
 have fH:c.first<N:=by
  obtain⟨l1,W,⟨p,z,F,n,q⟩|⟨j,e,z,F,n,q⟩⟩:=A.cl c (by rw[w];exact cy.2 (.inr m))
  ·exact absurd D.symm (q i zO a (by rw[hE i hi];exact d))
  have:=(A.un j i _ a zO zO n (by rw[hE i hi];exact d) D).1;omega
 exact⟨{ c with last:=1000000 },jF.2 ⟨cy.2 (.inr ((U _).2 ⟨c,m,fH,Z,i,hi,a,d,D.symm⟩)),X⟩,D,M⟩
end
section
variable {own:List cd} {c:Ct} {i:Nat} {κ:Int}
def jT(x:cd)(c:Ct):Bool:=decide ((doS x.op c).2.1=x.val)&&((doS x.op c).2.2==x.is)
def xO(own:List cd)(j:Nat)(x:cd):Bool:=match own[j]? with|some y=>decide (y.last<x.first)|none=>X
def yo(own:List cd)(left i:Nat)(x:cd):Bool:=(eF own.length).all λj=>!(decide (j≠i)&&left.testBit j&&xO own j x)
theorem sK{m:Nat}(h:m.testBit i=O):2 ^ i<=m/\∀j,(m-2 ^ i).testBit j=(m.testBit j&&decide (j≠i)):=by
 have o:m / 2 ^ i%2=1:=by rw[Nat.testBit_eq_decide_div_mod_eq]at h;exact of_decide_eq_true h
 have g:0<2 ^ i:=Nat.two_pow_pos i;obtain⟨q,d⟩:∃q,m / 2 ^ i=2*q+1:=⟨m / 2 ^ i / 2,M⟩;have b:m%2 ^ i<2 ^ i:=Nat.mod_lt _ g;have a:m=2 ^ i*(2*q+1)+m%2 ^ i:=by rw[<- d];exact(Nat.div_add_mod m (2 ^ i)).symm
 have l:m-2 ^ i=2 ^ i*(2*q)+m%2 ^ i:=by rw[Nat.mul_add,Nat.mul_one]at a;omega
 have f:2 ^ i<=m:=by rw[Nat.mul_add,Nat.mul_one]at a;omega
 refine⟨f,λj=>?_⟩;rw[l]
 conv=>rhs;rw[a]
 rw[Nat.testBit_two_pow_mul_add _ b,Nat.testBit_two_pow_mul_add _ b];by_cases e:j<i
 ·rw[if_pos e,if_pos e,decide_eq_true M,Bool.and_true]
 rw[if_neg e,if_neg e];by_cases c:j=i
 ·subst c;rw[Nat.sub_self,decide_eq_false M,Bool.and_false];simp
 obtain⟨k,n⟩:∃k,j-i=k+1:=⟨j-i-1,M⟩;rw[n,decide_eq_true c,Bool.and_true,Nat.testBit_succ,Nat.testBit_succ];congr 1;omega
def jX(a:Ct->Nat->Option (List Nat))(own:List cd)(c:Ct)(left i:Nat):Option (List Nat):=match own[i]? with
 | none=>Y
 | some x=>if left.testBit i&&yo own left i x&&jT x c then(a (doS x.op c).1 (left-2 ^ i)).map (i :: ·)else Y
def Jd(own:List cd):Nat->Ct->Nat->Option (List Nat)
 | 0,_,left=>if left=0 then J []else Y
 | f+1,c,left=>if left=0 then J []else(eF own.length).findSome? (jX (Jd own f) own c left)
theorem rU{b d:Ct->Nat->Option (List Nat)}{left:Nat}(h:∀a l,l<left->b a l=d a l):jX b own c left i=jX d own c left i:=by
 unfold jX;cases own[i]? with
 | none=>rfl
 | some x=>
  show (if _ then _ else _)=(if _ then _ else _);cases e:left.testBit i with
  | false=>simp
  | true=>
   have f:=(sK e).1;have g:=Nat.two_pow_pos i;rw[h _ (left-2 ^ i) M]
theorem vN:∀(f g:Nat) (c:Ct) (left:Nat),left<=f->left<=g->Jd own f c left=Jd own g c left
 | 0,g,c,left,h1,h2=>by
  obtain rfl:left=0:=M;cases g<;>rfl
 | f+1,0,c,left,h1,h2=>by
  obtain rfl:left=0:=M;rfl
 | f+1,g+1,c,left,h1,h2=>by
  show (if _ then _ else _)=(if _ then _ else _);split
  ·rfl
  congr 1
  funext i
  exact rU λa l b=>vN f g a l M M
def im(own:List cd)(c:Ct)(left:Nat):Option (List Nat):=Jd own left c left
theorem lZ(own:List cd)(c:Ct)(left:Nat):im own c left=if left=0 then J []else(eF own.length).findSome? (jX (im own) own c left):=by
 unfold im;cases left with
 | zero=>rfl
 | succ n=>
  rw[if_neg M];show (if _ then _ else _)=_;rw[if_neg M];congr 1
  funext i
  exact rU λa l b=>vN n l a l M (aq _)
def xR(own:List cd):Ct->Nat->List Nat->Prop
 | _,left,[]=>left=0
 | c,left,i :: r=>∃x,own[i]? =J x/\left.testBit i=O/\yo own left i x=O/\jT x c=O/\xR own (doS x.op c).1 (left-2 ^ i) r
theorem Hx:∀(n:Nat) {c:Ct} {left:Nat} {o:List Nat},left<=n->im own c left=J o->xR own c left o:=by
 intro n;induction n with
 | zero=>
  intro c left o f h;obtain rfl:left=0:=M;rw[lZ,if_pos Z]at h;injection h with h;subst h;rfl
 | succ n g=>
  intro c left o f h;rw[lZ]at h;split at h
  ·rename_i e;injection h with h;subst h;exact e
  obtain⟨i,-,hi⟩:=List.exists_of_findSome?_eq_some h;unfold jX at hi;cases b:own[i]? with
  | none=>rw[b]at hi;cases hi
  | some x=>
   rw[b]at hi;simp only at hi;split at hi
   ·rename_i a;simp only[bN]at a;obtain⟨r,d,rfl⟩:=Option.map_eq_some_iff.1 hi;have j:=(sK a.1.1).1;have k:=Nat.two_pow_pos i;exact⟨x,b,a.1.1,a.1.2,a.2,g M d⟩
   cases hi
theorem qK:∀ {o:List Nat} {c:Ct} {left:Nat},xR own c left o->∃a,im own c left=J a
 | [],c,left,h=>⟨[],by rw[lZ,if_pos (show left=0 from h)]⟩
 | i :: r,c,left,⟨x,hx,h1,h2,h3,h4⟩=>by
  obtain⟨a,ho⟩:=qK h4;rw[lZ];split
  ·exact⟨[],Z⟩
  cases b:(eF own.length).findSome? (jX (im own) own c left)with
  | some z=>exact⟨z,Z⟩
  | none=>
   have:=List.findSome?_eq_none_iff.1 b i (lK.2 (aC.1 hx).1);unfold jX at this;rw[hx]at this;simp only[h1,h2,h3,Bool.and_self,if_true,ho,Option.map_some]at this;cases this
theorem s9{x:cd}:jT x c=O ↔ (doS x.op c).2=(x.val,x.is):=by
 unfold jT;rw[bN,decide_eq_true_iff,beq_iff_eq];exact⟨λh=>Prod.ext h.1 h.2,λh=>by rw[h];exact⟨Z,Z⟩⟩
theorem BQ:∀ {o:List Nat} {c a:Ct} {left:Nat},(∀j,left.testBit j=O ↔ j∈o)->o.Nodup->o.Pairwise (O6 own)->pG own o c a->xR own c left o
 | [],c,a,left,hm,_,_,_=>Nat.eq_of_testBit_eq λj=>by
  rw[Nat.zero_testBit];cases h:left.testBit j with
  | false=>rfl
  | true=>cases (hm j).1 h
 | i :: r,c,a,left,hm,hn,hp,⟨x,c1,hx,hd,hr⟩=>by
  obtain⟨n,g⟩:=cS.1 hn;obtain⟨d,l⟩:=nQ.1 hp;have b:left.testBit i=O:=(hm i).2 zS;refine⟨x,hx,b,?_,s9.2 (by rw[hd]),?_⟩
  ·unfold yo;rw[cJ];intro j _;by_cases e:j=i
   ·simp[e]
   cases m:left.testBit j with
   | false=>simp
   | true=>
    have f:j∈r:=by
     rcases aL.1 ((hm j).1 m)with h|h
     ·exact absurd h e
     exact h
    unfold xO;cases k:own[j]? with
    | none=>simp
    | some y=>
     have:=d j f x y hx k;simp[this]
  rw[show (doS x.op c).1=c1 by rw[hd]];refine BQ (λj=>?_) g l hr;rw[(sK b).2 j,bN,decide_eq_true_iff,hm j];constructor
  ·rintro⟨h,e⟩;rcases aL.1 h with h|h
   ·exact absurd h e
   exact h
  intro h;exact⟨cM _ h,λe=>n (e ▸ h)⟩
structure O3 (own:List cd) (o:List Nat):Prop where
 len:o.length=own.length
 nd:o.Nodup
 lt:∀i∈o,i<own.length
 beh:o.Pairwise (O6 own)
 run:∃c,pG own o ct0 c
theorem yK:∀ {o:List Nat} {c:Ct} {left:Nat},xR own c left o->(∀j,j∈o ↔ left.testBit j=O)/\o.Nodup/\o.Pairwise (O6 own)/\(∀i∈o,i<own.length)/\∃d,pG own o c d
 | [],c,left,h=>by
  have h:left=0:=h;subst h;exact⟨λj=>⟨λh=>(by cases h),λh=>(by simp at h)⟩,List.nodup_nil,List.Pairwise.nil,λi h=>(by cases h),c,Z⟩
 | i :: r,c,left,⟨x,hx,h1,h2,h3,h4⟩=>by
  obtain⟨g,s,n,l,d,t⟩:=yK h4;have hi:=(aC.1 hx).1;have k:=(sK h1).2;have hd:=s9.1 h3;refine⟨λj=>?_,cS.2 ⟨λh=>?_,s⟩,nQ.2 ⟨λj a y z b m q=>?_,n⟩,λj a=>?_,d,x,_,hx,Prod.ext Z hd,t⟩
  ·rw[aL,g j,k j,bN,decide_eq_true_iff];constructor
   ·rintro (rfl|⟨h,-⟩)
    ·exact h1
    exact h
   intro h;by_cases e:j=i
   ·exact .inl e
   exact .inr ⟨h,e⟩
  ·have:=(g i).1 h;rw[k i]at this;simp at this
  ·rw[hx]at b;injection b with b;subst b;have f:=(g j).1 a;rw[k j,bN,decide_eq_true_iff]at f;unfold yo at h2;rw[cJ]at h2;have:=h2 j (lK.2 (l j a));unfold xO at this;rw[m]at this;simp[f.1,f.2,q]at this
  rcases aL.1 a with rfl|a
  ·exact hi
  exact l j a
theorem C0(n j:Nat):(2 ^ n-1).testBit j=O ↔ j<n:=by rw[Nat.testBit_two_pow_sub_one,decide_eq_true_iff]
theorem Kj{o:List Nat}(h:im own ct0 (2 ^ own.length-1)=J o):O3 own o:=by
 obtain⟨k,g,i,d,j⟩:=yK (Hx _ (aq _) h);refine⟨?_,g,d,i,j⟩;have a:=ph (f:=J) own.length o g λa c=>⟨a,d a c,Z⟩;have b:=ph (f:=λs=>o[s]?) o.length (eF own.length) List.nodup_range λa c=>by
  obtain⟨s,e⟩:=List.getElem?_of_mem ((k a).2 ((C0 _ a).2 (lK.1 c)));exact⟨s,(aC.1 e).1,e⟩
 rw[List.length_range]at b;omega
theorem J7(h:OS own):∃o,im own ct0 (2 ^ own.length-1)=J o:=by
 obtain⟨o,c,a,e,d,b⟩:=h;exact qK (BQ (λj=>(C0 _ j).trans (e j).symm) a d b)
def gS(κ:Int)(c:Ct):Prop:=(κ=1/\c.ks.Pairwise (· < ·)/\c.ks.length=c.vs.length)\/(κ=2\/κ=3)/\c.ks=[]
theorem Kn(h:gS κ c):∃a,Rep κ c a:=by
 rcases h with⟨rfl,b,d⟩|⟨rfl|rfl,b⟩
 ·exact⟨⟨λk v=>(k,v)∈c.ks.zip c.vs,[],[]⟩,.inl ⟨Z,b,d,λ_ _=>Iff.rfl⟩⟩
 ·exact⟨⟨λ_ _=>False,c.vs,[]⟩,.inr (.inl ⟨Z,b,Z⟩)⟩
 exact⟨⟨λ_ _=>False,[],c.vs⟩,.inr (.inr ⟨Z,b,Z⟩)⟩
theorem za{a:Ab}(h:Rep κ c a):gS κ c:=by
 rcases h with⟨h,b,d,-⟩|⟨h,b,-⟩|⟨h,b,-⟩
 ·exact .inl ⟨h,b,d⟩
 ·exact .inr ⟨.inl h,b⟩
 exact .inr ⟨.inr h,b⟩
theorem zY{op:Opr}(q:1<=op.kind/\op.kind<=7)(h:gS (kof op) c):gS (kof op) (doS op c).1/\(doS op c).1.vs.length<=c.vs.length+1:=by
 obtain⟨B,J,I⟩:=CB q;have n:∀(l:List Int) (i:Nat) (x:Int),(gE l i x).length<=l.length+1:=λl i x=>by unfold gE;simp;omega
 have F:∀(l:List Int) (i:Nat),(lx l i).length<=l.length+1:=λl i=>by unfold lx;simp;omega
 have H:gS (kof op) (xt c).1/\(xt c).1.vs.length<=c.vs.length+1\/kof op=1:=by
  by_cases e:kof op=1
  ·exact .inr e
  left;rcases h with⟨h,-⟩|⟨f,g⟩
  ·exact absurd h e
  unfold xt;split
  ·exact⟨.inr ⟨f,g⟩,oU _⟩
  rename_i v r D;exact⟨.inr ⟨f,g⟩,by rw[D];simp only[ku];omega⟩
 obtain⟨a,R⟩:=Kn h;by_cases w:op.kind<=3;rotate_left
 ·have u:kof op≠1:=λe=>w (B.1 e);rcases h with⟨h,-⟩|⟨f,g⟩
  ·exact absurd h u
  unfold doS;rw[if_neg M,if_neg M,if_neg M];by_cases C:op.kind=4
  ·rw[if_pos C];exact⟨.inr ⟨f,g⟩,n _ _ _⟩
  rw[if_neg C];by_cases y:op.kind=6
  ·rw[if_pos y];exact⟨.inr ⟨f,g⟩,n _ _ _⟩
  rw[if_neg y];rcases H with h|h
  ·exact h
  exact absurd h u
 have j:=B.2 w;rcases h with⟨-,b,d⟩|⟨h|h,-⟩
 ·by_cases hi:isK c.ks op.a=O
  ·by_cases A:op.kind=3
   ·have G:op.a∈c.ks:=(mO b).1 hi;obtain⟨v,t⟩:=(zip_fst d op.a).1 G;have m:(Ef.del op.a).pre a:=by
     rcases R with⟨-,-,-,k⟩|⟨r,-⟩|⟨r,-⟩
     ·exact⟨v,(k _ _).1 t⟩
     ·omega
     omega
    obtain⟨E,s,o⟩:=xy (e:=.del op.a) (val:=0) (is:=O) q R m ⟨Z,A,Z,Z⟩;refine⟨by rw[s];exact za o,?_⟩;unfold doS;rw[if_neg M,if_neg M,if_pos A,if_pos hi];exact F _ _
   unfold doS;by_cases e:op.kind=1
   ·rw[if_pos e,if_pos hi];exact⟨.inl ⟨j,b,d⟩,zS⟩
   rw[if_neg e,if_pos M,if_pos hi];exact⟨.inl ⟨j,b,d⟩,zS⟩
  by_cases z:op.kind=2
  ·have m:(Ef.put op.a op.b).pre a:=by
    rcases R with⟨-,-,-,k⟩|⟨r,-⟩|⟨r,-⟩
    ·exact λv t=>hi ((mO b).2 ((zip_fst d op.a).2 ⟨v,(k _ _).2 t⟩))
    ·omega
    omega
   obtain⟨E,s,o⟩:=xy (e:=.put op.a op.b) (val:=0) (is:=O) q R m ⟨Z,z,Z,Z,Z⟩;refine⟨by rw[s];exact za o,?_⟩;unfold doS;rw[if_neg M,if_pos z,if_neg hi];exact n _ _ _
  unfold doS;by_cases e:op.kind=1
  ·rw[if_pos e,if_neg hi];exact⟨.inl ⟨j,b,d⟩,zS⟩
  rw[if_neg e,if_neg M,if_pos M,if_neg hi];exact⟨.inl ⟨j,b,d⟩,zS⟩
 ·omega
 omega
end
section
variable {S:Nat} {want:List (List Opr)} {stops:List Nat}
theorem fin_cur{t:cY}(W:WE S want t)(h:∀s,s<S->rH want stops O s t)(s:Nat):j8 S want t s=Y:=by
 obtain⟨n,g,q,o⟩:=W;cases i:j8 S want t s with
 | none=>rfl
 | some y=>
  obtain⟨x,k,j,d,ho,c,-⟩:=oq i;have f:s<S:=by rw[<- o.sl];exact(aC.1 d).1
  rcases h s f with⟨l,m,b,a,e⟩|⟨e,-⟩
  ·rw[d]at b;rw[ho]at a;injection b with b;injection a with a;subst b;subst a;rw[List.getElem?_eq_none M]at c;cases c
  cases e
theorem MN{turns:List Nat}(D:want.length=S)(k:1<=S)(a:S<=3)(X:turns.length<=200)(ok:∀t∈want,t.length<=3/\∀F∈t,kK F){i t1 t2:cY}(e0:ff (lyW S) want stops turns (jh S)=i)(v:jM (lyW S) want stops false i=t1)(m:jM (lyW S) want stops O t1=t2):
  t1.calls.length<=t2.calls.length/\t2.calls.length<=9/\(∀c∈t2.calls,kK c.op)/\(fM t1.events.length (t2.calls.drop t1.calls.length)).length<=3/\∀κ,1<=κ->κ<=3->∃s,s<8/\(rY κ t1.calls.length t1.events.length s t2).length<=9/\OS (rY κ t1.calls.length t1.events.length s t2):=by
 subst D;obtain⟨Q,W,d⟩:=rA (stops:=stops) Z k turns (jh want.length);rw[e0]at d;obtain⟨n1,U,b⟩:=zV (stops:=stops) (all:=false) (S:=want.length) Z i;rw[v]at b;obtain⟨M,R,f⟩:=zV (stops:=stops) (all:=O) (S:=want.length) Z t1;rw[m]at f;have z:(jh want.length).events.length=0:=Z;obtain⟨N,Y,h,-,-,P,-⟩:=(wl0 k a ok).goes (d.trans b) zO;obtain⟨qb,qa,E,H,u,b2,n,-⟩:=h.goes f zO;have B:WE want.length want t1:=by obtain⟨l,g,q,w,V,-⟩:=h;exact⟨l,g,q,V⟩
 obtain⟨j,-,o⟩:=WE.rest (stops:=stops) (all:=O) Z a B zO;rw[m]at j o;have e:=xY.goes ok ((d.trans b).trans f) (cinv0 want want.length);have G:t2.aO.length=want.length:=by obtain⟨l,g,q,V⟩:=j;exact V.sl
 have y:=e.le9 ok G a;obtain⟨L,I⟩:=Ks h E H u zO n (fin_cur j o) e;obtain⟨new,J,-⟩:=n;refine⟨by rw[J,bE];omega,y,e.ok,zO,λκ A C=>?_⟩;obtain⟨s,x,T,K⟩:=I a κ A C;exact⟨s,x,zO,K⟩
end
section
open Go.RowKit
attribute [local go_sem ↓] aQ aR
variable {w:W} {base c n:Nat} {l:List cd} {e:bM} {G:Option Addr} {v:I}
abbrev z8(c:cd):I:=.agg (cB c)
theorem ra(k:Int)(w:W):U ao 32 #[V H k] w λe a=>e=ai (V H (ofK k))/\a=w:=by
 go_enter func32,ntmps32;go_wp2_with fail;all_goals
  go_ret;refine⟨ju ?_,Z⟩;unfold ofK
  simp_all
  try omega
theorem xr(a b:cd)(w:W):U ao 35 #[z8 a,z8 b] w (fI (decide (a.last<b.first)) w):=by
 have c:=aA (bA w (ag (cB a) 56)) (ag (cB b) 56);go_enter func35,ntmps35;go_wp2_with fail;go_ret;exact⟨Z,c⟩
theorem of1_any(c:cd)(κ:Int)(e f:Nat)(w:W)(g:Bk w e 3 #[V H κ])(k:Bk w f 3 #[V H 0]):
  U ao 31 #[z8 c,ptr e,ptr f] w (fI (ownB κ c) w):=by
 have b:=bA w (ag (cB c) 56);have j:=(g.aw b).cell 0;have i:=(k.aw b).cell 0;simp at j i;go_enter func31,ntmps31;have hd:∀n,D w.heap.size w ((w.alloc (ag (cB c) 56)).drewN n):=λn=>kJ b n;by_cases d:ofK c.op.kind=κ
 ·have a:decide (ofK c.op.kind=κ)=O:=decide_eq_true d;have h:(ofK c.op.kind==κ)=O:=beq_iff_eq.2 d;go_wp2_with fail;go_quiet ((go_at_call 32;exact U.quiet_of_same (ra _ _)));go_wp2_with fail;go_ret;refine⟨rV ?_,hd _⟩;unfold ownB;rw[a,Bool.true_and];rfl
 have a:decide (ofK c.op.kind=κ)=X:=decide_eq_false d;have h:(ofK c.op.kind==κ)=X:=by rw[<- a];rfl
 go_wp2_with fail;go_quiet ((go_at_call 32;exact U.quiet_of_same (ra _ _)));go_wp2_with fail;go_ret;refine⟨rV ?_,hd _⟩;unfold ownB;rw[a];rfl
def dA(w:W)(base:Nat)(v:I)(l:List cd):Prop:=w.ownsRow base 56 10 v l.length (cj l)
theorem sJ:∀ {l:List cd} {k:Nat} {c:cd},l[k]? =J c->∀(j:Nat) (v:I),(cB c)[j]? =J v->(cj l)[k*10+j]? =J v
 | [],_,_,h=>by cases h
 | a :: l,k,c,h=>by
  intro j v b;have e:cj (a :: l)=(cB a).toList++cj l:=Z;have d:j<10:=(a9.1 b).1;cases k with
  | zero=>
   injection h with h;subst h;rw[e,List.getElem?_append_left zP,Nat.zero_mul,ea,Array.getElem?_toList];exact b
  | succ k=>
   rw[e,List.getElem?_append_right zP];have:=sJ (l:=l) (k:=k) h j v b;rw[<- this];congr 1;simp;omega
theorem MS{sz m:Nat}{d:List I}(h:w.ownsRow base e sz (.slice G n c) m d)(q:0<m):∃g,G=J ⟨g,0,Y⟩/\base<=g/\g<w.heap.size/\∀(j:Nat) (u:I),d[j]? =J u->w.cell? ⟨g,j,Y⟩=J u:=by
 rcases h.2 with⟨_,o⟩|⟨g,s,i,b,k,f,_,_,_,l⟩
 ·omega
 injection b with b _ _;refine⟨g,b,k,(a9.1 f).1,λj u a=>?_⟩;rw[cell_of_row w g j i e (0,0) f];rw[<- l,List.getElem?_take]at a;split at a
 ·simpa using a
 cases a
theorem dA.at_{k:Nat}{x:cd}(h:dA w base (.slice G n c) l)(a:l[k]? =J x):∃g,G=J ⟨g,0,Y⟩/\base<=g/\g<w.heap.size/\∀(j:Nat) (v:I),(cB x)[j]? =J v->w.cell? ⟨g,k*10+j,Y⟩=J v:=by
 have m:=(aC.1 a).1;obtain⟨g,e,f,b,i⟩:=MS h M;exact⟨g,e,f,b,λj v d=>i _ _ (sJ a j v d)⟩
theorem dA.aw{a:W}(h:dA w base v l)(b:D w.heap.size w a):dA a base v l:=aY h b
theorem dA.low{B:Nat}(h:dA w base v l)(a:B<=base):dA w B v l:=dt h a
abbrev Nu(a b:Nat):I:=.func (.func 31) #[] #[ptr a,ptr b]
abbrev siftF(a b:Nat):I:=.func (.func 33) #[.agg #[Nu a b]] #[]
theorem Ia(c:cd)(κ:Int)(a b:Nat)(w:W)(f:Bk w a 3 #[V H κ])(j:Bk w b 3 #[V H 0]):
  U ao 33 #[.agg #[Nu a b],z8 c] w (fI (ownB κ c) w):=by
 have d:=aA (bA w (ag #[Nu a b] 89)) (ag (cB c) 56);have h:=f.aw d;have g:=j.aw d;go_enter func33,ntmps33;go_wp2_with fail;refine(of1_any c κ a b _ h g).mono ?_;rintro e k ⟨rfl,i⟩;go_wp2_with fail;go_ret;exact⟨rfl,aE d i⟩
theorem hZ{t:bM}{C:TypeInfo}{z:I}{size j:Nat}(T:oH ao t e C z size j){l:Array Oper}{rest:List Oper}{o:Oper}{a:Act}{Q:Exit->Act->W->Prop}(G:o.guard=Y)(s x:vn)(ho:o.op= .call { callee:=.builtin .append,args:=#[s,x],argTypes:=#[t,t] })(base:Nat)(v:I)(d:Nat)(i:List I)(m:a.eval s=v)(H:w.ownsRow base e size v d i)(g:Nat)(b:Array I)(A:a.eval x=af (J ⟨g,0,Y⟩) 1 1)(k:Bk w g e b)(D:b.size=size)(q:∀u∈b.toList,u.oneCell'=O)(F:(d+1)*j<=140737488355328)(K:d+1<=100000)(B:base<=w.heap.size)(h:∀f c,c.ownsRow base e size f (d+1) (i++b.toList)->w.grownBy c v.ownBlock->wpList ao l Q rest (a.put o.dst f) c):wpList ao l Q (o :: rest) a w:=
 wpList_plain G λ_ n=>dX T s x ho base v d i m H (J ⟨g,0,Y⟩) 1 1 b.toList A (mK k D k.lt) q F K B λf c y E=>n _ _ (h f c y E)
theorem Mi(l:List cd)(κ:Int)(y z qa c n:Nat)(G:Option Addr)(w:World)(hB0:qa<=w.heap.size)(hn:l.length=n)(hl:n<=1000)(ho:dA w qa (.slice G n c) l)(Q:Bk w y 3 #[V H κ])(T:Bk w z 3 #[V H 0]):
  U ao 30 #[.slice G n c,siftF y z] w λe w'=>∃m d,e=ai (.slice m (l.filter (ownB κ)).length d)/\dA w' w.heap.size (.slice m (l.filter (ownB κ)).length d) (l.filter (ownB κ))/\D w.heap.size w w':=by
 obtain⟨ri,R⟩:=qu;go_enter func30,ntmps30;go_wp2_with fail;go_loopw [5,10] (λqd s wr=>∃k:Nat,k<=n/\s=V H (k:Nat)/\D w.heap.size w wr/\dA wr w.heap.size qd ((l.take k).filter (ownB κ))) (λ_ s _=>n-(intOf s).toNat)
 case atStart=>exact⟨0,aN _,Z,bS,bW _ _ _ _⟩
 obtain⟨k,hk,rfl,b,q⟩:=hrel;by_cases fH:k<n;rotate_left
 ·obtain rfl:k=n:=zO;have N:decide ((k:Int)<k)=X:=zS;rw[List.take_of_length_le zO]at q;obtain⟨m,d,rfl⟩:=bJ q;go_wp2_with fail;go_ret;exact⟨m,d,Z,q,b⟩
 have N:decide ((k:Int)<n)=O:=zP;have i1:(k:Int)<n:=zO;obtain⟨x,B⟩:∃x,l[k]? =some x:=⟨_,aD zO⟩;obtain⟨g,rfl,-,qg,Y⟩:=ho.at_ B;have qe:=λj v P=>(b.cell (p:=⟨g,k*10+j,none⟩) qg).trans (Y j v P);go_wp2_with (refine fG Z 56 (.tmp 12) Z g (k*10) Z (cB x) _ qe underlying56 Z zK ?_);have f:=bA wr (ag (cB x) 56);have E:=Bk.made wr 56 (cB x);have qc:=aE b f;have S:=aY q f;refine(Ia x κ y z _ ((Q.aw b).aw f) ((T.aw b).aw f)).mono ?_;rintro e o ⟨rfl,t⟩;have C:=aE qc t;have a:=aY S t;have J:=E.aw t;have i:(l.take (k+1)).filter (ownB κ)=(l.take k).filter (ownB κ)++[x].filter (ownB κ):=by rw[qy,B,List.filter_append];rfl
 rw[show [x].filter (ownB κ)=bif ownB κ x then [x]else []by cases h:ownB κ x<;>simp[h]]at i;generalize hp:ownB κ x=p at *;generalize wr.heap.size=qb at *;cases p with
 | true=>
  have F:((l.take k).filter (ownB κ)).length<=1000:=aF (List.length_filter_le _ _) (by rw[dg];omega);obtain⟨L,K⟩:=nM ((l.take k).filter (ownB κ));rw[K]at i a F;have a:o.ownsRow w.heap.size 56 10 u5 L.length (cj L):=a;have u:=bA o (ag (cB x) 56);have qf:=Bk.made o 56 (cB x);have A:=aE C u;go_wp2_with (first|(refine aM Z 56 (.tmp 7) Z qb Z 56 (cB x) (0,0) _ J underlying56 Z zK ?_)|(at_builtin;go_must (refine hZ R Z (.tmp 17) (.tmp 19) Z w.heap.size u5 L.length (cj L) Z (aY a u) o.heap.size (cB x) Z qf Z (by simp[aB]) zO zO A.size ?_;intro v9 I W M)));go_roundw
  case rel=>
   refine⟨k+1,zO,by go_num,bO A (aY a u) M A.size (aq _),?_⟩;rw[i];show I.ownsRow _ _ _ _ (L++[x]).length (cj (L++[x]));rw[jz,bE];exact W
  case measure=>simp[intOf];omega
 | false=>
  go_wp2_with fail;go_roundw
  case rel=>
   refine⟨k+1,zO,by go_num,C,?_⟩;rw[i];show dA _ _ _ (_++[]);rw[List.append_nil];exact a
  case measure=>simp[intOf];omega
theorem hof_any(l:List cd)(κ:Int)(f c n:Nat)(G:Option Addr)(w:W)(q:f<=w.heap.size)(k:l.length=n)(i:n<=1000)(ho:dA w f (.slice G n c) l):
  U ao 13 #[.slice G n c,V H κ,V H 0] w λe w'=>∃b a,e=ai (.slice b (l.filter (ownB κ)).length a)/\dA w' w.heap.size (.slice b (l.filter (ownB κ)).length a) (l.filter (ownB κ))/\D w.heap.size w w':=by
 have j:=(Bk.made w 3 #[V H κ]).alloc (ag #[V H 0] 3);have o:=Bk.new (w.alloc (ag #[V H κ] 3)) (g:=w.heap.size+1) zS 3 #[V H 0];have d:=aA (bA w (ag #[V H κ] 3)) (ag #[V H 0] 3);go_enter func13,ntmps13;go_wp2_with fail;refine(Mi l κ w.heap.size (w.heap.size+1) f c n G _ (aF q d.size) k i (ho.aw d) j o).mono ?_;rintro e s ⟨b,a,rfl,h,m⟩;go_wp2_with fail;go_ret;exact⟨b,a,rfl,h.low d.size,aE d m⟩
end
section
open Go.RowKit
variable {a:Int} {D:DataW Unit}
theorem qY:Go.Maps.Keyed ao 3:=Go.Maps.int_keyed (q:=.i64) underlying3
def xT(D:DataW Unit)(L:List Int):Prop:=Go.Maps.IsMap D/\∀a:Int,0<=a->a<=1000000->D.atKey (.int .i64 a) (.lit (.bool X))= .lit (.bool (decide (a∈L)))
def dS(w:W)(b n:Nat)(L:List Int):Prop:=∃D:DataW Unit,w.ownsMap ao 3 (plainElem ao 4) b n D/\xT D L
section
variable {w w':W} {b n:Nat} {L:List Int}
theorem yL(w:W):dS (w.alloc (.map #[] 0)) w.heap.size 0 []:=
 ⟨.map [],W.ownsMap_made w ao 3 _,Go.Maps.isMap_empty,λa _ _=>Z⟩
theorem dS.lt(h:dS w b n L):b<w.heap.size:=by
 obtain⟨D,h,_⟩:=h;exact h.lt
theorem dS.aw(h:dS w b n L)(e:Below w.heap.size w w'):dS w' b n L:=by
 obtain⟨D,h,a⟩:=h;have c:=h.lt;obtain⟨f,d,g,i⟩:=h;exact⟨D,⟨f,d,(e.block b c).trans g,i⟩,a⟩
theorem dS.grown{row:Option Nat}(h:dS w b n L)(a:w.grownBy w' row)(d:J b≠row):dS w' b n L:=by
 obtain⟨D,h,c⟩:=h;exact⟨D,h.kept a d,c⟩
theorem lit_wf(f:0<=a)(e:a<=1000000):(Lit.int .i64 a).wf=O:=by
 have d:IntKind.i64.min= -9223372036854775808:=Z;have c:IntKind.i64.max=9223372036854775807:=Z;simp only[Lit.wf,d,c,bN,decide_eq_true_eq];omega
theorem vz(d:0<=a)(c:a<=1000000):keyOf ao 3 (.int .i64 a)=J (.int .i64 a):=Go.Maps.keyOf_int_mk underlying3 (lit_wf d c)
theorem dS.look(h:dS w b n L)(d:0<=a)(f:a<=1000000):(Instr.lookup 114 (.map (J b)) (.int .i64 a) X).run ao w= .ok (.bool (decide (a∈L))) w:=by
 obtain⟨D,h,g⟩:=h;obtain⟨v,j,i,c⟩:=h.lookup qY underlying114 (z:=.bool X) zK (plainElem_bool underlying4 X) (vz d f);rw[g.2 a d f]at c;rw[i];have e:=underlying4;unfold plainElem at c;generalize Tryz.prog.underlying 4=z at c e;subst e;cases v<;>simp at c;rw[c.1]
theorem xT.put(h:xT D L)(g:0<=a)(f:a<=1000000):xT (D.put (.int .i64 a) (.lit (.bool O))) (L++[a]):=by
 refine⟨h.1.put _ _,λx c d=>?_⟩;by_cases e:x=a
 ·subst e;rw[Go.Maps.atKey_put_same (k:=.int .i64 x) h.1 trivial];simp
 rw[Go.Maps.atKey_put_other (by intro k;injection k with _ k;exact e k),h.2 x c d];simp[e]
theorem dS.of(h:w.ownsMap ao 3 (plainElem ao 4) b n D)(a:xT D L):dS w b n L:=⟨D,h,a⟩
theorem nT(h:dS w b n L){g:Nat}{t:bM}{a:Array I}(k:Bk w g t a):g≠b:=by
 rintro rfl;obtain⟨D,⟨e,f,c,d⟩,-⟩:=h;rw[Bk,c]at k;cases k
theorem mI(h:dS w b n L){base sz m:Nat}{e:bM}{v:I}{d:List I}(k:w.ownsRow base e sz v m d):v.ownBlock=Y\/v.ownBlock≠J b:=by
 rcases k.2 with⟨rfl,_⟩|⟨o,g,i,rfl,_,f,_⟩
 ·exact .inl Z
 right;intro a;simp[I.ownBlock]at a;subst a;obtain⟨D,⟨l,j,c,_⟩,-⟩:=h;rw[f]at c;cases c
end
end
section
open Go.RowKit
attribute [local go_sem ↓] aQ aR
theorem AJ{fn:Nat}(A:Option Addr)(c:Nat)(zs:List Int)(n:Nat)(k:Int)(w:W)(v:zs.length=n)(h:eT w w.heap.size A zs)(s:0<=k)(m:k<n)(hI:fn∈[54,56,52]:=by decide):
  U ao fn #[.agg #[.slice A n c],V H k] w (gy (zs.getD k.toNat 0) w):=by
 obtain⟨j,rfl⟩:∃j:Nat,k=j:=⟨k.toNat,M⟩;have g0:decide ((j:Int)<0)=X:=zS;have u:decide ((n:Int)<=j)=X:=zP;obtain⟨x,d⟩:∃x,zs[j]? =J x:=⟨_,aD M⟩;have e:zs.getD (j:Int).toNat 0=x:=by simp[d]
 rw[e];obtain⟨b,o,f,i,l⟩:=h M;have q:=l j x d;subst f;have t:(j:Int)<n:=M;have a:=bA w (ag #[af (J ⟨b,o,Y⟩) n c] 37);have g:=Bk.made w 37 #[af (J ⟨b,o,Y⟩) n c];have q0:(w.alloc (ag #[af (J ⟨b,o,Y⟩) n c] 37)).cell? ⟨w.heap.size,0,Y⟩=J (af (J ⟨b,o,Y⟩) n c):=by rw[g.cell];rfl
 replace q:=(cX a i).trans q;simp only[aL,be,or_false]at hI;rcases hI with rfl|rfl|rfl;all_goals
  first|go_enter func54,ntmps54|go_enter func56,ntmps56|go_enter func52,ntmps52
  go_wp2;go_ret;exact⟨Z,a⟩
theorem M7{fn:Nat}{cell:Int}(l:Ly)(s:Int)(A:Option Addr)(c n:Nat)(zs L:List Int)(w:W)(f:eu l)(h:eT w w.heap.size A zs)(hn:zs.length=n)(hN:l.c.nodes<=1000)(y:0<=cell/\cell<n)(sY:∀a,1<=a/\a<=l.c.nodes->0<=nodeAt l a 0/\nodeAt l a 0<n)(ry:idxOf (zs.getD cell.toNat 0)=L.headD 0)(DG:kV (λa=>zs.getD (nodeAt l a 0).toNat 0) L)(yv:∀a∈L,1<=a/\a<=l.c.nodes)(qC:L.Nodup)(CY:L.length<=1000)(hI:fn=27/\cell=fj l s\/fn=28/\cell=et l s:=by first|exact .inl ⟨Z,Z⟩|exact .inr ⟨Z,Z⟩):
  U ao fn #[lyV l,.agg #[.slice A n c],.int .i64 s] w λe w'=>∃B d,e= .returned (.slice B L.length d)/\aX w' w.heap.size (.slice B L.length d) L/\D w.heap.size w w':=by
 have q:=(Bk.made w 34 (lyC l)).alloc (.cells #[.slice A n c] 37);have o:=Bk.new (w.alloc (.cells (lyC l) 34)) (g:=w.heap.size+1) zS 37 #[.slice A n c];have m:=aA (bA w (.cells (lyC l) 34)) (.cells #[.slice A n c] 37);have F:=N f;have qc:=N (al h hn);have HP:=N (al sY (al DG (al yv (al qC ry))));have hneg:nodeAt l 0 0= -1:=by unfold nodeAt;rw[if_pos M]
 have HNEG:=N hneg;have HT:=N y;have q0:((w.alloc (.cells (lyC l) 34)).alloc (.cells #[.slice A n c] 37)).cell? ⟨w.heap.size+1,0,Y⟩=J (.slice A n c):=by rw[o.cell];rfl
 obtain⟨T,y⟩:=nM (cell);rcases hI with⟨rfl,rfl⟩|⟨rfl,rfl⟩;all_goals
  first|go_enter func27,ntmps27|go_enter func28,ntmps28
  go_wp2_with (refine aM Z 34 (.tmp 3) Z w.heap.size Z 34 (lyC l) (0,0) _ q aK Z zK ?_);generalize (w.alloc (.cells (lyC l) 34)).alloc (.cells #[.slice A n c] 37)=w1 at *;first|(with_reducible refine(I7 l s _ F.out).mono ?_)|(with_reducible refine(sx l s _ F.out).mono ?_)
  rintro e u ⟨rfl,b⟩;have HTP:=N y;rw[y];have htp2:=HT.out;rw[y]at htp2;have g0:decide (T<0)=X:=zP;replace q:=q.aw b;replace o:=o.aw b;replace m:=aE m b;have HT2:=N htp2;have tn:¬T<0:=M;have uC:(Instr.makeMap 114 Y).run ao u= .ok (.map (J u.heap.size)) (u.alloc (.map #[] 0)):=zK;go_wp2_with (refine aM rfl 37 (.tmp 4) rfl (w.heap.size+1) rfl 37 #[.slice A n c] (0,0) _ (o.alloc (.map #[] 0)) underlying37 rfl zK ?_);have z:=yL u;replace q:=q.alloc (.map #[] 0);replace o:=o.alloc (.map #[] 0);have z2:w.heap.size<=u.heap.size:=m.size;replace m:=aA m (.map #[] 0);generalize u.alloc (.map #[] 0)=w3 at *;generalize u.heap.size=gD at *;(try clear q0);have HGD:=N z2;(with_reducible refine(AJ A c zs n T _ qc.out.2 (by have:=qc.out.1.below m;exact this.more m.size) HT2.out.1 HT2.out.2).mono ?_);rintro e w4 ⟨rfl,b⟩;replace q:=q.aw b;replace o:=o.aw b;replace z:=z.aw b;replace m:=aE m b;obtain⟨qd,N1⟩:=nM (zs.getD T.toNat 0);rw[N1];go_wp2_with fail;(with_reducible refine(gL qd _).mono ?_);rintro e w5 ⟨rfl,b⟩;replace q:=q.aw b;replace o:=o.aw b;replace z:=z.aw b;replace m:=aE m b;have hx:qd%65536=L.headD 0:=by rw[<- N1,<- HTP.out];exact HP.out.2.2.2.2
  rw[hx];generalize (qd / 65536%2==1)=z1;generalize qd / 131072%268435456=z2;obtain⟨hd,zR⟩:=nM (L.headD 0);rw[zR];have HHD:=N zR;have KW:∀w:W,(Instr.field 81 (.agg #[.int .i64 hd,.bool z1,.int .i64 z2]) 0).run ao w= .ok (.int .i64 hd) w:=λw=>by kernel_rfl
  go_wp2_with fail;go_loopw [8,10] (λv8 v10 wr=>∃k:Nat,k<=L.length/\v10= .int .i64 ((L.drop k).headD 0)/\D w.heap.size w wr/\Bk wr w.heap.size 34 (lyC l)/\Bk wr (w.heap.size+1) 37 #[.slice A n c]/\dS wr gD k (L.take k)/\aX wr w.heap.size v8 (L.take k)) (λv8 _ _=>L.length-lenOf v8)
  case atStart=>exact⟨0,aN _,by rw[<- HHD.out];rfl,m,q,o,z,bW _ _ _ _⟩
  obtain⟨k,hk,rfl,b,k1,uL,kD1,Q⟩:=hrel;obtain⟨G,cg,rfl⟩:=bJ Q;by_cases fH:k<L.length;rotate_left
  ·have hkL:k=L.length:=M;subst hkL;have e0:(L.drop L.length).headD 0=0:=zS;rw[e0];rw[nP]at Q ⊢;go_wp2_with (refine aM Z 34 (.tmp 3) Z w.heap.size Z 34 (lyC l) (0,0) _ k1 aK Z zK ?_);(with_reducible refine(dE l 0 0 _ F.out M).mono ?_);rintro e w6 ⟨rfl,i⟩;rw[HNEG.out];go_wp2_with fail;go_ret;exact⟨G,cg,rfl,aY Q i,aE b i⟩
  obtain⟨a,qa⟩:∃a,L[k]? =J a:=⟨_,aD fH⟩;obtain⟨sY,DG,yv,qC,-⟩:=HP.out;have CS:L.drop k=a :: L.drop (k+1):=sB qa;have har:=yv a (aU qa);have CO:(λa=>zs.getD (nodeAt l a 0).toNat 0) a=(L.drop (k+1)).headD 0:=by
   have:=DG.drop k;rw[CS]at this;exact this.1
  have NQ:¬a∈L.take k:=by
   intro hm;obtain⟨j,hj⟩:=List.getElem?_of_mem hm;have hjl:=(aC.1 hj).1;rw[dg]at hjl;rw[List.getElem?_take_of_lt M]at hj;have:=(List.getElem?_inj M qC).1 (hj.trans qa.symm);omega
  have xm:(L.drop k).headD 0=a:=by rw[CS];rfl
  have xj:=sY a har;have sh:L.take (k+1)=L.take k++[a]:=by rw[qy,qa];rfl
  have qR:(L.take k).length=k:=by rw[dg];omega
  rw[xm];obtain⟨nx,oV⟩:=nM (nodeAt l a 0);rw[oV]at xj;have IE:0<=a/\a<=1000:=M;have LB:=N oV;have v:=N (al qa (al CO (al sh (al qR NQ))));have HO:=N Q;go_wp2_with (refine aM Z 34 (.tmp 3) Z w.heap.size Z 34 (lyC l) (0,0) _ k1 aK Z zK ?_);(with_reducible refine(dE l a 0 _ F.out M).mono ?_);rintro e w6 ⟨rfl,i⟩;rw[LB.out];have g1:decide ((0:Int)<=nx)=O:=zP;have k2:=k1.aw i;have ql:=uL.aw i;have kD2:=kD1.aw i;have kW:=aE b i;have qe:=aY HO.out i;have NU:=kD2.look IE.1 M;rw[show decide (a∈L.take k)=X from decide_eq_false v.out.2.2.2.2]at NU;obtain⟨qm,qg,qj⟩:=kD2;unfold aX at qe;rw[v.out.2.2.2.1]at qe;obtain⟨i0,yx,sf,tP,sW⟩:=info_parts iM;go_wp2_with (at_mapUpdate;refine wpList_mapUpdate_own _ rfl _ _ _ 114 rfl 3 4 qY underlying114 _ gD k qm rfl qg (by simp only[sV];omega) _ _ (.int .i64 a) rfl rfl (vz IE.1 M) (.lit (.bool O)) [] (plainElem_bool underlying4 O) ?_);intro w7 hD7 qb;have NR:J w.heap.size≠J gD/\J (w.heap.size+1)≠J gD:=by
   have h1:=nT (dS.of qg qj) k2;have h2:=nT (dS.of qg qj) ql;exact⟨λe=>h1 (by injection e),λe=>h2 (by injection e)⟩
  have k3:Bk w7 w.heap.size 34 (lyC l):=(qb.block _ k2.lt NR.1).trans k2;have kM3:Bk w7 (w.heap.size+1) 37 #[.slice A n c]:=(qb.block _ ql.lt NR.2).trans ql;have zQ:=W.ownsRow.kept qe qb (mI (dS.of qg qj) qe);have A4:D w.heap.size w w7:=kW.grown qb kW.size (λk hk=>by injection hk with hk;have:=HGD.out;omega);have kD3:dS w7 gD (k+1) (L.take (k+1)):=by
   rw[v.out.2.2.1];exact dS.of hD7 (qj.put IE.1 M)
  have qi:=W.ownsRow.alloc zQ (.cells #[.int .i64 a] 3);have oQ:=aA A4 (.cells #[.int .i64 a] 3);have t:=bA w7 (.cells #[.int .i64 a] 3);go_upto_region 10 with (at_builtin;go_must (refine dI _ Z (.tmp 34) (.tmp 36) _ Z w.heap.size 3 i0 _ 1 8 lI yx sf tP sW Z M (.slice G k cg) k (ints (L.take k)) Z qi ⟨w7.heap.size,0,Y⟩ 1 1 [.int .i64 a] Z Z (lN _) (by simp[aB]) (by simp only[sV];omega) M (by simp;have:=A4.size;omega) ?_;intro v9 qk I hgrow4 _ _));have CP:=cV qi hgrow4;have qf:=(k3.aw t).dy CP zD;have qh:=(kM3.aw t).dy CP zD;have kD6:=(kD3.aw t).grown hgrow4 (λe=>by
   have h:=mI (kD3.aw t) qi;rcases h with h|h
   ·rw[h]at e;cases e
   exact h e.symm)
  have i:=bO oQ qi hgrow4 oQ.size (aq _);obtain⟨G9,c9,rfl⟩:=bJ I;refine aH (S:=λw'=>D qk.drew.heap.size qk.drew w') (E:=λ_=>X) zK ?_;have C:=bD qk;replace qf:=qf.aw C;replace qh:=qh.aw C;replace kD6:=kD6.aw C;replace I:=aY I C;replace i:=aE i C;generalize qk.drew=w9 at *;refine wTq 2 [(0,38,.agg #[.slice A n c]),(2,40,.int .i64 a)] ?_ bS ?_
  ·intro w' P;have c0:=(qh.aw P).cell 0;simp at c0;exact zT
  refine wTq 1 [(1,39,lyV l)] ?_ bS ?_
  ·intro w' P;have kE:(cL 34 ⟨w.heap.size,0,Y⟩).run ao w'= .ok (lyV l) w':=a7 w' w.heap.size 34 34 (lyC l) (0,0) _ (qf.aw P) aK Z zK
   (repeat' (first|exact bd|refine al ⟨_,Z,.inl ⟨Z,?_⟩⟩ ?_))
   all_goals exact list.dp Z Z kE
  refine wOq 3 (λK hK=>?_);go_simp;(with_reducible refine(dE l a 0 _ F.out M).mono ?_);rintro e wa ⟨rfl,t⟩;rw[LB.out];refine sO hK (λ_=>t) ?_;refine wOq 4 (λK hK=>?_);go_simp;(with_reducible refine(AJ A c zs n nx _ qc.out.2 (by have:=qc.out.1.below (aE i t);exact this.more (aE i t).size) xj.1 xj.2).mono ?_);rintro e wb ⟨rfl,CV⟩;have x:=aE t CV;refine sO hK (λ_=>x) ?_;have hv:zs.getD nx.toNat 0=(L.drop (k+1)).headD 0:=by rw[<- v.out.2.1,<- LB.out]
  rw[hv];refine wTq 1 [(5,10,.int .i64 ((L.drop (k+1)).headD 0))] ?_ x ?_
  ·intro w' P;exact zT
  refine aG zK ?_ _;go_wp2_with fail;refine⟨⟨k+1,fH,Z,aE i x,qf.aw x,qh.aw x,kD6.aw x,?_⟩,by have:=v.out.2.2.2.1;simp only[lenOf];omega⟩;unfold aX;rw[v.out.2.2.1,bE,v.out.2.2.2.1];have h:=aY I x
  simpa[ints] using h
end
namespace list
open Go.RowKit
attribute [local go_sem ↓] aQ aR
theorem Kx(l:Ly)(s:Int)(A:Option Addr)(c n:Nat)(zs L:List Int)(w:W)(f:eu l)(h:eT w w.heap.size A zs)(hn:zs.length=n)(hN:l.c.nodes<=1000)(C:0<=s/\s<n)(sY:∀a,1<=a/\a<=l.c.nodes->0<=nodeAt l a 0/\nodeAt l a 0<n)(ry:idxOf (zs.getD s.toNat 0)=L.headD 0)(DG:kV (λa=>idxOf (zs.getD (nodeAt l a 0).toNat 0)) L)(yv:∀a∈L,1<=a/\a<=l.c.nodes)(qC:L.Nodup)(CY:L.length<=1000):
  U ao 26 #[lyV l,.agg #[.slice A n c],.int .i64 s] w λe w'=>∃B d,e= .returned (.slice B L.length d)/\aX w' w.heap.size (.slice B L.length d) L/\D w.heap.size w w':=by
 have v:=(Bk.made w 34 (lyC l)).alloc (.cells #[.slice A n c] 37);have t:=Bk.new (w.alloc (.cells (lyC l) 34)) (g:=w.heap.size+1) zS 37 #[.slice A n c];have o:=aA (bA w (.cells (lyC l) 34)) (.cells #[.slice A n c] 37);have F:=N f;have qb:=N (al h hn);have HP:=N (al sY (al DG (al yv (al qC ry))));have hneg:nodeAt l 0 0= -1:=by unfold nodeAt;rw[if_pos M]
 have HNEG:=N hneg;have HT:=N C;have q0:((w.alloc (.cells (lyC l) 34)).alloc (.cells #[.slice A n c] 37)).cell? ⟨w.heap.size+1,0,Y⟩=J (.slice A n c):=by rw[t.cell];rfl
 go_enter func26,ntmps26;obtain⟨qf,C⟩:=nM (s);have HTP:=N C;have HT2:Hid (0<=qf/\qf<n):=N (by rw[<- C];exact HT.out);rw[C];go_upto_region 2 with fail;generalize (w.alloc (.cells (lyC l) 34)).alloc (.cells #[.slice A n c] 37)=y at *;have uC:(Instr.makeMap 114 Y).run ao y= .ok (.map (J y.heap.size)) (y.alloc (.map #[] 0)):=zK;go_wp2_with (refine aM Z 37 (.tmp 4) Z (w.heap.size+1) Z 37 #[.slice A n c] (0,0) _ (t.alloc (.map #[] 0)) underlying37 Z zK ?_);have I:=yL y;replace v:=v.alloc (.map #[] 0);replace t:=t.alloc (.map #[] 0);have z2:w.heap.size<=y.heap.size:=o.size;replace o:=aA o (.map #[] 0);generalize y.alloc (.map #[] 0)=w3 at *;generalize y.heap.size=gD at *;(try clear q0);have HGD:=N z2;refine(AJ A c zs n qf _ qb.out.2 (by have:=qb.out.1.below o;exact this.more o.size) HT2.out.1 HT2.out.2).mono ?_;rintro e w4 ⟨rfl,i⟩;replace v:=v.aw i;replace t:=t.aw i;replace I:=I.aw i;replace o:=aE o i;obtain⟨qi,N1⟩:=nM (zs.getD qf.toNat 0);rw[N1];go_wp2_with fail;refine(gL qi _).mono ?_;rintro e w5 ⟨rfl,i⟩;replace v:=v.aw i;replace t:=t.aw i;replace I:=I.aw i;replace o:=aE o i;have hx:qi%65536=L.headD 0:=by rw[<- N1,<- HTP.out];exact HP.out.2.2.2.2
 rw[hx];generalize (qi / 65536%2==1)=z1;generalize qi / 131072%268435456=z2;obtain⟨hd,zR⟩:=nM (L.headD 0);rw[zR];have HHD:=N zR;have KW:∀w:W,(Instr.field 81 (.agg #[.int .i64 hd,.bool z1,.int .i64 z2]) 0).run ao w= .ok (.int .i64 hd) w:=λw=>by kernel_rfl
 go_wp2_with fail;go_loopw [7,9] (λv8 v10 wr=>∃k:Nat,k<=L.length/\v10= .int .i64 ((L.drop k).headD 0)/\D w.heap.size w wr/\Bk wr w.heap.size 34 (lyC l)/\Bk wr (w.heap.size+1) 37 #[.slice A n c]/\dS wr gD k (L.take k)/\aX wr w.heap.size v8 (L.take k)) (λv8 _ _=>L.length-lenOf v8)
 case atStart=>exact⟨0,aN _,by rw[<- HHD.out];rfl,o,v,t,I,bW _ _ _ _⟩
 obtain⟨k,hk,rfl,i,k1,uL,kD1,qh⟩:=hrel;obtain⟨G,cg,rfl⟩:=bJ qh;by_cases fH:k<L.length;rotate_left
 ·have hkL:k=L.length:=M;subst hkL;have e0:(L.drop L.length).headD 0=0:=zS;rw[e0];rw[nP]at qh ⊢;go_wp2_with (refine aM Z 34 (.tmp 3) Z w.heap.size Z 34 (lyC l) (0,0) _ k1 aK Z zK ?_);refine(dE l 0 0 _ F.out M).mono ?_;rintro e w6 ⟨rfl,b⟩;rw[HNEG.out];go_wp2_with fail;go_ret;exact⟨G,cg,rfl,aY qh b,aE i b⟩
 obtain⟨a,qa⟩:∃a,L[k]? =J a:=⟨_,aD fH⟩;obtain⟨sY,DG,yv,qC,-⟩:=HP.out;have CS:L.drop k=a :: L.drop (k+1):=sB qa;have har:=yv a (aU qa);have CO:(λa=>idxOf (zs.getD (nodeAt l a 0).toNat 0)) a=(L.drop (k+1)).headD 0:=by
  have:=DG.drop k;rw[CS]at this;exact this.1
 have NQ:¬a∈L.take k:=by
  intro hm;obtain⟨j,hj⟩:=List.getElem?_of_mem hm;have hjl:=(aC.1 hj).1;rw[dg]at hjl;rw[List.getElem?_take_of_lt M]at hj;have:=(List.getElem?_inj M qC).1 (hj.trans qa.symm);omega
 have xm:(L.drop k).headD 0=a:=by rw[CS];rfl
 have xj:=sY a har;have sh:L.take (k+1)=L.take k++[a]:=by rw[qy,qa];rfl
 have qR:(L.take k).length=k:=by rw[dg];omega
 rw[xm];obtain⟨nx,oV⟩:=nM (nodeAt l a 0);rw[oV]at xj;have IE:0<=a/\a<=1000:=M;have LB:=N oV;have x:=N (al qa (al CO (al sh (al qR NQ))));have HO:=N qh;go_wp2_with (refine aM Z 34 (.tmp 3) Z w.heap.size Z 34 (lyC l) (0,0) _ k1 aK Z zK ?_);refine(dE l a 0 _ F.out M).mono ?_;rintro e w6 ⟨rfl,b⟩;rw[LB.out];have g1:decide ((0:Int)<=nx)=O:=zP;have k2:=k1.aw b;have kM2:=uL.aw b;have kD2:=kD1.aw b;have kW:=aE i b;have P:=aY HO.out b;have NU:=kD2.look IE.1 M;rw[show decide (a∈L.take k)=X from decide_eq_false x.out.2.2.2.2]at NU;obtain⟨qm,Q,ql⟩:=kD2;unfold aX at P;rw[x.out.2.2.2.1]at P;obtain⟨i0,yx,sf,tP,sW⟩:=info_parts iM;go_wp2_with (at_mapUpdate;refine wpList_mapUpdate_own _ rfl _ _ _ 114 rfl 3 4 qY underlying114 _ gD k qm rfl Q (by simp only[sV];omega) _ _ (.int .i64 a) rfl rfl (vz IE.1 M) (.lit (.bool O)) [] (plainElem_bool underlying4 O) ?_);intro w7 hD7 hg7;have NR:J w.heap.size≠J gD/\J (w.heap.size+1)≠J gD:=by
  have h1:=nT (dS.of Q ql) k2;have h2:=nT (dS.of Q ql) kM2;exact⟨λe=>h1 (by injection e),λe=>h2 (by injection e)⟩
 have k3:Bk w7 w.heap.size 34 (lyC l):=(hg7.block _ k2.lt NR.1).trans k2;have kM3:Bk w7 (w.heap.size+1) 37 #[.slice A n c]:=(hg7.block _ kM2.lt NR.2).trans kM2;have zQ:=W.ownsRow.kept P hg7 (mI (dS.of Q ql) P);have A4:D w.heap.size w w7:=kW.grown hg7 kW.size (λk hk=>by injection hk with hk;have:=HGD.out;omega);have kD3:dS w7 gD (k+1) (L.take (k+1)):=by
  rw[x.out.2.2.1];exact dS.of hD7 (ql.put IE.1 M)
 have ho5:=W.ownsRow.alloc zQ (.cells #[.int .i64 a] 3);have oQ:=aA A4 (.cells #[.int .i64 a] 3);have q:=bA w7 (.cells #[.int .i64 a] 3);go_upto_region 7 with (at_builtin;go_must (refine dI _ Z (.tmp 28) (.tmp 30) _ Z w.heap.size 3 i0 _ 1 8 lI yx sf tP sW Z M (.slice G k cg) k (ints (L.take k)) Z ho5 ⟨w7.heap.size,0,Y⟩ 1 1 [.int .i64 a] Z Z (lN _) (by simp[aB]) (by simp only[sV];omega) M (by simp;have:=A4.size;omega) ?_;intro v9 qd qk hgrow4 _ _));have CP:=cV ho5 hgrow4;have qe:=(k3.aw q).dy CP zD;have T:=(kM3.aw q).dy CP zD;have kD6:=(kD3.aw q).grown hgrow4 (λe=>by
  have h:=mI (kD3.aw q) ho5;rcases h with h|h
  ·rw[h]at e;cases e
  exact h e.symm)
 have b:=bO oQ ho5 hgrow4 oQ.size (aq _);obtain⟨G9,c9,rfl⟩:=bJ qk;refine aH (S:=λw'=>D qd.drew.heap.size qd.drew w') (E:=λ_=>X) zK ?_;have u:=bD qd;replace qe:=qe.aw u;replace T:=T.aw u;replace kD6:=kD6.aw u;replace qk:=aY qk u;replace b:=aE b u;generalize qd.drew=w9 at *;refine wTq 2 [(0,32,.agg #[.slice A n c]),(2,34,.int .i64 a)] ?_ bS ?_
 ·intro w' qg;have c0:=(T.aw qg).cell 0;simp at c0;exact zT
 refine wTq 1 [(1,33,lyV l)] ?_ bS ?_
 ·intro w' qg;have kE:(cL 34 ⟨w.heap.size,0,Y⟩).run ao w'= .ok (lyV l) w':=a7 w' w.heap.size 34 34 (lyC l) (0,0) _ (qe.aw qg) aK Z zK;exact zL
 refine wOq 3 (λK z=>?_);go_simp;refine(dE l a 0 _ F.out M).mono ?_;rintro e wa ⟨rfl,q⟩;rw[LB.out];refine sO z (λ_=>q) ?_;refine wOq 4 (λK z=>?_);go_simp;refine(AJ A c zs n nx _ qb.out.2 (by have:=qb.out.1.below (aE b q);exact this.more (aE b q).size) xj.1 xj.2).mono ?_;rintro e wb ⟨rfl,CV⟩;have m:=aE q CV;refine sO z (λ_=>m) ?_;obtain⟨qc,hfx⟩:=nM (zs.getD nx.toNat 0);rw[hfx];refine wOq 5 (λK z=>?_);go_simp;refine(gL qc _).mono ?_;rintro e wd ⟨rfl,u⟩;replace m:=aE m u;refine sO z (λ_=>m) ?_;have hv:qc%65536=(L.drop (k+1)).headD 0:=by rw[<- x.out.2.1,<- hfx,<- LB.out];rfl
 rw[hv];generalize (qc / 65536%2==1)=z3;generalize qc / 131072%268435456=z4;obtain⟨qj,LI⟩:=nM ((L.drop (k+1)).headD 0);rw[LI];have hf1:∀w:W,(Instr.field 81 (.agg #[.int .i64 qj,.bool z3,.int .i64 z4]) 0).run ao w= .ok (.int .i64 qj) w:=λw=>by kernel_rfl
 refine wTq 2 [(6,38,.int .i64 qj),(7,9,.int .i64 qj)] ?_ m ?_
 ·intro w' qg;exact zT
 refine aG zK ?_ _;go_wp2_with fail;subst LI;refine⟨⟨k+1,fH,Z,aE b m,qe.aw m,T.aw m,kD6.aw m,?_⟩,by have:=x.out.2.2.2.1;simp only[lenOf];omega⟩;unfold aX;rw[x.out.2.2.1,bE,x.out.2.2.2.1];have h:=aY qk m
 simpa[ints] using h
end list
def Pl.gn:Pl->Option Nat
 | .dli s=>J s
 | .dsk s=>J s
 | _=>Y
section
variable {S N:Nat} {m:List Int} {sm:Sm} {g:Gh}
structure NdOk (l:Ly) (zs ls sk sg:List Int):Prop where
 nd:∀a,1<=a/\a<=l.c.nodes->0<=nodeAt l a 0/\nodeAt l a 0<zs.length
 b0:0<=dM l 0 0/\dM l 0 0<zs.length
 b1:idxOf (zs.getD (dM l 0 0).toNat 0)=1
 t0:0<=fj l 0/\fj l 0<zs.length
 t1:idxOf (zs.getD (fj l 0).toNat 0)=sk.headD 0
 h0:0<=et l 0/\et l 0<zs.length
 h1:idxOf (zs.getD (et l 0).toNat 0)=sg.headD 0
 l1:idxOf (zs.getD (nodeAt l 1 0).toNat 0)=ls.headD 0
 lc:kV (λa=>idxOf (zs.getD (nodeAt l a 0).toNat 0)) ls
 sc:kV (λa=>zs.getD (nodeAt l a 0).toNat 0) sk
 cc:kV (λa=>zs.getD (nodeAt l a 0).toNat 0) sg
 li:∀a∈ls,1<=a/\a<=l.c.nodes
 si:∀a∈sk,1<=a/\a<=l.c.nodes
 ci:∀a∈sg,1<=a/\a<=l.c.nodes
 ln:ls.Nodup
 sn:sk.Nodup
 cn:sg.Nodup
 ll:ls.length<=40
 sl:sk.length<=40
 cl:sg.length<=40
end
section
open Go.RowKit
attribute [local go_sem ↓] aQ aR
variable {o:Oper} {a:Act} {w:W} {Q:Exit->Act->W->Prop}
theorem CF(L M:List Int):ints L++ints M=ints (L++M):=by simp[ints]
end
section
open Go.RowKit
attribute [local go_sem ↓] aQ aR
variable {w:W} {B c i n:Nat} {o:Oper} {a:Act} {l zs:List Int} {x:Int} {A:Option Addr} {rest:List Oper} {Q:Exit->Act->W->Prop}
def JV(v:I)(w:W)(e:jK)(a:W):Prop:=e= .returned v/\∃m,a=w.drewN m
theorem Kl(a:List Int)(A:Option Addr)(n c:Nat)(w:W)(h:eT w w.heap.size A a)(F:a.length=n)(C:n<=10000)(j:a.Pairwise (· < ·)):U ao 106 #[.slice A n c] w (JV (ah O) w):=by
 go_enter func106,ntmps106;go_wp2_with fail;go_loopw [3] (λd wr=>∃k m:Nat,1<=k/\d=V H (k:Nat)/\k<=n+1/\wr=w.drewN m) (λd _=>n+1-(intOf d).toNat)
 case atStart=>exact⟨1,0,M,Z,M,Z⟩
 obtain⟨k,m,v,rfl,B,rfl⟩:=hrel;by_cases E:k<n;rotate_left
 ·have t:decide ((k:Int)<n)=X:=zP;go_wp2_with fail;go_ret;exact⟨Z,m,Z⟩
 have t:decide ((k:Int)<n)=O:=zP;obtain⟨b,o,rfl,L,g⟩:=h M;obtain⟨x,f⟩:∃x,a[k]? =J x:=⟨_,aD M⟩;obtain⟨y,e⟩:∃y,a[k-1]? =J y:=⟨_,aD M⟩;have P:=g _ _ f;have K:=g _ _ e;have s:y<x:=by
  obtain⟨l,i⟩:=aC.1 f;obtain⟨q,u⟩:=aC.1 e;have:=List.pairwise_iff_getElem.1 j (k-1) k q l M;rw[i,u]at this;exact this
 have z:decide (x<=y)=X:=zP;have I:(k:Int)<n:=M;have D:((k-1:Nat):Int)<n:=M;have i:IntKind.i64.wrap ((k:Int)-1)=((k-1:Nat):Int):=by rw[dh _ M];omega
 clear f e s g;go_wp2_with fail;go_quiet (fail);go_wp2_with fail;exact⟨⟨k+1,m+nq,M,by go_num,M,Z⟩,by simp[intOf];omega⟩
theorem lb_at{a:List Int}{z:Int}{j:Nat}(b:a.Pairwise (· < ·))(h:a[j]? =J z):z<x ↔ j<lb a x:=by
 have c:=(aC.1 h).1;constructor
 ·intro d;by_cases e:j<lb a x
  ·exact e
  have:z∈a.drop (lb a x):=aU (i:=j-lb a x) (by rw[List.getElem?_drop,show lb a x+(j-lb a x)=j by omega];exact h);have:=AQ b z this;omega
 intro e;exact Im a x z (aU (i:=j) (by rw[List.getElem?_take,if_pos e];exact h))
theorem lb_le(b:List Int)(x:Int):lb b x<=b.length:=by
 induction b with
 | nil=>exact aq _
 | cons a r c=>
  unfold lb at c ⊢;rw[List.takeWhile_cons];split
  ·simp only[ku];omega
  exact aN _
theorem kF(a:List Int)(x:Int)(A:Option Addr)(n c:Nat)(w:W)(h:eT w w.heap.size A a)(qa:a.length=n)(M:n<=10000)(v:a.Pairwise (· < ·)):U ao 158 #[.slice A n c,V H x] w (JV (.tuple #[V H (lb a x:Nat),ah (isK a x)]) w):=by
 have L:=lb_le a x;go_enter func158,ntmps158;go_wp2_with fail;go_loopw [6,7] (λq s wr=>∃i j m:Nat,q=V H (i:Nat)/\s=V H (j:Nat)/\i<=lb a x/\lb a x<=j/\j<=n/\wr=w.drewN m) (λq s _=>(intOf s).toNat-(intOf q).toNat)
 case atStart=>exact⟨0,n,0,Z,Z,aN _,zO,aq _,Z⟩
 obtain⟨i,j,m,rfl,rfl,y,B,E,rfl⟩:=hrel;by_cases N:i<j
 ·have D:decide ((i:Int)<j)=O:=zP;have qb:IntKind.i64.wrap ((j:Int)-i)=((j-i:Nat):Int):=by rw[dh _ zO];omega
  obtain⟨b,o,rfl,S,g⟩:=h zO;obtain⟨z,d⟩:∃z,a[i+(j-i) / 2]? =J z:=⟨_,aD zO⟩;have I:=g _ _ d;have k:=lb_at (x:=x) v d;have P:(i:Int)+((j-i:Nat):Int) / 2<n:=zO;clear d g;by_cases u:z<x
  ·have F:=k.1 u;clear k;go_wp2_with fail;exact⟨⟨i+(j-i) / 2+1,j,m,zS,Z,zO,B,E,Z⟩,by simp[intOf];omega⟩
  have F:¬i+(j-i) / 2<lb a x:=λe=>u (k.2 e);clear k;go_wp2_with fail;exact⟨⟨i,i+(j-i) / 2,m,Z,zS,y,zO,zO,Z⟩,by simp[intOf];omega⟩
 obtain rfl:i=lb a x:=zO;have D:decide (((lb a x:Nat):Int)<j)=X:=zP;by_cases K:lb a x<n
 ·have C:decide (((lb a x:Nat):Int)<n)=O:=zP;have P:((lb a x:Nat):Int)<n:=zO;obtain⟨b,o,rfl,S,g⟩:=h zO;obtain⟨z,d⟩:∃z,a[lb a x]? =J z:=⟨_,aD zO⟩;have I:=g _ _ d;have f:isK a x=(z==x):=by unfold isK;rw[d];rfl
  have t:=aj f;clear d g f;generalize l:lb a x=p at *;clear l;go_wp2_with fail;go_quiet (fail);go_wp2_with fail;go_ret2;rw[t.out];exact⟨Z,_,W.drewN_drewN ..⟩
 have C:decide (((lb a x:Nat):Int)<n)=X:=zP;have f:isK a x=X:=by unfold isK;rw[List.getElem?_eq_none zO];rfl
 have t:=aj f;clear f;generalize l:lb a x=p at *;clear l;go_wp2_with fail;go_quiet (fail);go_wp2_with fail;go_ret2;rw[t.out];exact⟨Z,_,W.drewN_drewN ..⟩
theorem zW(x:vn)(lo hi:Option vn)(ho:o.op= .slice 35 x lo hi Y)(s:a.eval x= .slice A n c)(l:Src w B 1 A n c (ints zs))(F:n<=c)(i j:Nat)(D:lo.map a.eval=J (V H (i:Nat))\/lo=Y/\i=0)(m:hi.map a.eval=J (V H (j:Nat))\/hi=Y/\j=n)(G:i<=j)(E:j<=n):
  (nO a.eval o).run ao w= .ok (.value (.slice (if c=i then A else A.map (·.add (i*1))) (j-i) (c-i))) w/\Src w B 1 (if c=i then A else A.map (·.add (i*1))) (j-i) (c-i) (ints ((zs.take j).drop i)):=by
 have v:(Instr.sliceBound (V H (j:Nat)) c .sliceAcap).run ao w= .ok j w:=by
  have:0<=(j:Int)/\(j:Int)<=c:=M;simp[Instr.sliceBound,asIntOf,cD,this.2]
 have C:(Instr.sliceBound (V H (i:Nat)) j .sliceB).run ao w= .ok i w:=by
  have:0<=(i:Int)/\(i:Int)<=j:=M;simp[Instr.sliceBound,asIntOf,cD,this.2]
 have z:(sizeOf 3).run ao w= .ok 1 w:=zK;have t:(Instr.slice 35 (.slice A n c) (lo.map a.eval) (hi.map a.eval) Y).run ao w= .ok (.slice (if c=i then A else A.map (·.add (i*1))) (j-i) (c-i)) w:=by
  rcases D with d|⟨d,rfl⟩<;>rcases m with f|⟨f,rfl⟩<;>(try subst d)<;>(try subst f)<;>(try rw[d])<;>(try rw[f])<;>simp[Instr.slice,Instr.sliceBounds,cD,run_underlying lI w,v,C,z]
 refine⟨?_,by simp[ints];have:=l.1;simp[ints]at this;omega,?_⟩
 ·unfold nO;simp only[ho,s,Instr.sliceAt,Option.map_none,cD,dF,run_underlying lI w,bC,t]
 rcases l.2 with⟨rfl,rfl,rfl⟩|⟨g,of,rfl,h,q⟩
 ·left;refine⟨by split<;>rfl,M,M⟩
 right;have y:∀(k:Nat) (u:I),(ints ((zs.take j).drop i))[k]? =J u->w.cell? ⟨g,of+i+k,Y⟩=J u:=λk u b=>by
  rw[ints,List.getElem?_map,List.getElem?_drop,List.getElem?_take]at b;split at b
  ·rw[Nat.add_assoc];refine q (i+k) u ?_;rw[ints,List.getElem?_map];exact b
  cases b
 by_cases e:c=i
 ·refine⟨g,of,by rw[if_pos e],h,λk u b=>?_⟩;have:=(aC.1 b).1;simp[ints]at this;omega
 refine⟨g,of+i,by rw[if_neg e,Nat.mul_one];exact congrArg J (gZ ..),h,y⟩
theorem mH{b:Array Oper}(f:o.guard=Y)(x:vn)(lo hi:Option vn)(ho:o.op= .slice 35 x lo hi Y)(e:a.eval x= .slice A n c)(l:Src w B 1 A n c (ints zs))(q:n<=c)(i j:Nat)(u:lo.map a.eval=J (V H (i:Nat))\/lo=Y/\i=0)(t:hi.map a.eval=J (V H (j:Nat))\/hi=Y/\j=n)(d:i<=j)(g:j<=n)(h:∀U,Src w B 1 U (j-i) (c-i) (ints ((zs.take j).drop i))->wpList ao b Q rest (a.put o.dst (.slice U (j-i) (c-i))) w):wpList ao b Q (o :: rest) a w:=by
 obtain⟨s,k⟩:=zW x lo hi ho e l q i j u t d g;refine wpList_plain f λK m=>?_;unfold Oper.wp;rw[s];exact m _ _ (h _ k)
theorem rX{G:Option Addr}(h:aX w B (.slice G n c) zs)(a:zs.length=n):n<=c/\Src w w.heap.size 1 G n c (ints zs):=by
 subst a;refine⟨?_,Src.own h (aq _)⟩;rcases h.2 with⟨e,b⟩|⟨g,i,d,e,-,-,f,-⟩
 ·injection e with _ _ e;omega
 injection e with _ _ e;omega
theorem jl{k:Array Oper}(D:o.guard=Y)(s x:vn)(ho:o.op= .call { callee:=.builtin .append,args:=#[s,x],argTypes:=#[35,35] })(base:Nat)(v:I)(i:Nat)(b:List Int)(l:a.eval s=v)(E:aX w base v b)(y:b.length=i)(U:Option Addr)(n c:Nat)(d:List Int)(q:a.eval x= .slice U n c)(j:Src w B 1 U n c (ints d))(C:i+n<=100000)(t:base<=w.heap.size)(h:∀f e,aX e base f (b++d)->w.grownBy e v.ownBlock->wpList ao k Q rest (a.put o.dst f) e):wpList ao k Q (o :: rest) a w:=by
 subst y;obtain⟨F,z⟩:=nB;refine wpList_plain D λK m=>?_;refine dX z s x ho base v b.length (ints b) l E U n c (ints d) q j (CE d) M C t λf e g A=>m _ _ (h f e ?_ A);have u:d.length=n:=by have:=j.1;simp[ints]at this;exact this
 rw[CF]at g;show e.ownsRow base 3 1 f (b++d).length (ints (b++d));rw[bE,u];exact g
theorem rM(zs:List Int)(i:Nat)(x:Int)(G:Option Addr)(n c:Nat)(w:World)(h:aX w 0 (.slice G n c) zs)(X:zs.length=n)(hl:n<=10000)(hi:i<=n):Calls ao 159 #[.slice G n c,V H (i:Nat),V H x] w λe w'=>∃v,e= .returned v/\aX w' w.heap.size v (gE zs i x)/\Below w.heap.size w w':=by
 obtain⟨Q,qb,qf,D,N⟩:=info_parts iM;have e1:IntKind.i64.wrap ((n:Int)+1)=((n+1:Nat):Int):=by rw[dh _ zO];omega
 obtain⟨o,g⟩:=rX h X;go_enter func159,ntmps159;go_upto_region 2 with (refine wpList_make_own w Z (.const (V H 0)) (.tmp 10) 35 Z w.heap.size 3 Q _ 1 lI qb qf D .i64 .i64 _ (n+1) Z Z zO (by rw[N];omega) (by simp only[sV];omega) (aq _) ?_;intro W d P);have a:=(bR w).grown P (aq _) (λk e=>by cases e);have M:=g.below a;have d:aX W w.heap.size (af (J ⟨w.heap.size,0,Y⟩) 0 (n+1)) []:=d;generalize (I.slice (J ⟨w.heap.size,0,Y⟩) 0 (n+1))=qd at *;go_upto_region 3 with (first
  | (refine mH Z (.tmp 13) Y (J (.tmp 14)) Z Z M o 0 i (.inr ⟨Z,Z⟩) (.inl Z) (aN _) hi ?_;intro qa E)
  | (at_builtin;go_must (refine jl Z (.tmp 12) (.tmp 15) Z w.heap.size qd 0 [] Z d Z qa (i-0) (c-0) _ Z E zO a.size ?_;intro qc j z T)))
 have f:=bO a d T a.size (aq _);rw[List.nil_append,List.drop_zero]at z;have sj:=g.below f;have m:=bA j (ag #[V H x] 3);have K:=Bk.made j 3 #[V H x];have t:=aY z m;have A:=aF f.size m.size;obtain⟨ri,O⟩:=nB;have s:(zs.take i).length=i:=by rw[dg];omega
 go_upto_region 4 with (at_builtin;go_must (refine hZ O Z (.tmp 17) (.tmp 19) Z w.heap.size qc i (ints (zs.take i)) Z (by have:=t;rwa [s]at this) j.heap.size #[V H x] Z K Z (by simp[aB]) zO zO A ?_;intro l y C S));have b:=bO (aE f m) t S A (aq _);have u:aX y w.heap.size l (zs.take i++[x]):=by
  show y.ownsRow w.heap.size 3 1 l (zs.take i++[x]).length (ints (zs.take i++[x]));rw[<- CF,bE,s];exact C
 have F:=g.below b;go_wp2_with (first
  | (refine mH Z (.tmp 22) (J (.tmp 23)) Y Z Z F o i n (.inl Z) (.inr ⟨Z,Z⟩) hi (aq _) ?_;intro L U)
  | (at_builtin;go_must (refine jl Z (.tmp 21) (.tmp 24) Z w.heap.size l (i+1) _ Z u zP L (n-i) (c-i) _ Z U zO b.size ?_;intro qe w7 q B)))
 have R:=bO b u B b.size (aq _);go_ret;refine⟨qe,Z,?_,R⟩;rw[show zs.take n=zs from List.take_of_length_le zO,List.append_assoc]at q;exact q
theorem uo(zs:List Int)(i:Nat)(G:Option Addr)(n c:Nat)(w:W)(h:aX w 0 (.slice G n c) zs)(qa:zs.length=n)(O:n<=10000)(hi:i<n):U ao 160 #[.slice G n c,V ab (i:Nat)] w λe w'=>∃v,e= .returned v/\aX w' w.heap.size v (lx zs i)/\D w.heap.size w w':=by
 obtain⟨L,K,x,o,A⟩:=info_parts iM;obtain⟨g,l⟩:=rX h qa;go_enter func160,ntmps160;go_upto_region 2 with (refine wpList_make_own w Z (.const (V ab 0)) (.tmp 7) 35 Z w.heap.size 3 L _ 1 lI K x o .i64 .i64 _ n Z Z zO (by rw[A];omega) (by simp only[sV];omega) (aq _) ?_;intro I d B);have b:=(bR w).grown B (aq _) (λk e=>by cases e);have z:=l.below b;have d:aX I w.heap.size (af (J ⟨w.heap.size,0,Y⟩) 0 n) []:=d;generalize (Value.slice (J ⟨w.heap.size,0,Y⟩) 0 n)=H at *;go_upto_region 3 with (first
  | (refine mH Z (.tmp 10) Y (J (.tmp 11)) Z Z z g 0 i (.inr ⟨Z,Z⟩) (.inl Z) (aN _) zO ?_;intro u q)
  | (at_builtin;go_must (refine jl Z (.tmp 9) (.tmp 12) Z w.heap.size H 0 [] Z d Z u (i-0) (c-0) _ Z q zO b.size ?_;intro M P f F)))
 have a:=bO b d F b.size (aq _);rw[List.nil_append,List.drop_zero]at f;have s:=l.below a;have E:(zs.take i).length=i:=by rw[dg];omega
 go_wp2_with (first
  | (refine mH Z (.tmp 15) (J (.tmp 17)) Y Z Z s g (i+1) n (.inl (by go_num)) (.inr ⟨Z,Z⟩) hi (aq _) ?_;intro y S)
  | (at_builtin;go_must (refine jl Z (.tmp 14) (.tmp 18) Z w.heap.size M i _ Z f E y (n-(i+1)) (c-(i+1)) _ Z S zO a.size ?_;intro t N j m)))
 have C:=bO a f m a.size (aq _);go_ret;refine⟨t,Z,?_,C⟩;rw[show zs.take n=zs from List.take_of_length_le zO]at j;exact j
end
section
open Go.RowKit
attribute [local go_sem ↓] aQ aR
variable {B base g n:Nat} {x y:I} {U:Option Addr} {xs:List I}
abbrev ctC(κ:Int)(b a:I):Array I:=#[V H κ,b,a]
def RdI(w:W)(ok:Nat->Prop)(v:I)(zs:List Int):Prop:=aX w 0 v zs/\∀b,v.ownBlock=J b->ok b
def hY(w:W)(ok:Nat->Prop)(κ:Int)(c:Ct)(v:I):Prop:=∃b a,v= .agg (ctC κ b a)/\RdI w ok b c.ks/\RdI w ok a c.vs
def pK(w:W)(ok:Nat->Prop)(κ:Int)(op:Opr)(c:Ct)(e:jK)(w':W):Prop:=∃a,e=ai (.tuple #[a,V H (doS op c).2.1,ah (doS op c).2.2])/\hY w' ok κ (doS op c).1 a/\D w.heap.size w w'
section
variable {w w':W} {ok:Nat->Prop} {v:I} {zs:List Int} {κ:Int} {c:Ct}
theorem RdI.new(h:aX w B v zs)(d:∀b,B<=b->ok b):RdI w ok v zs:=⟨dt h (aN _),λb a=>d b (W.ownsRow.lt h b a).1⟩
theorem RdI.aw(h:RdI w ok v zs)(a:D w.heap.size w w'):RdI w' ok v zs:=⟨aY h.1 a,h.2⟩
theorem hY.aw(h:hY w ok κ c v)(a:D w.heap.size w w'):hY w' ok κ c v:=by
 obtain⟨b,f,e,d,g⟩:=h;exact⟨b,f,e,d.aw a,g.aw a⟩
theorem RdI.below{W:World}(h:RdI W ok v zs)(a:D W.heap.size W w'):RdI w' ok v zs:=h.aw a
theorem RdI.own(h:RdI w ok v zs):aX w 0 v zs:=h.1
theorem RdI.slice(h:RdI w ok v zs)(a:zs.length=n):∃G d,v= .slice G n d:=a ▸ bJ h.1
theorem RdI.sl{G:Option Addr}{d:Nat}(h:RdI w ok (.slice G n d) zs)(a:zs.length=n):eT w w.heap.size G zs:=by
 subst a;exact fg h.1
end
theorem Ho(κ:Int)(c:Ct)(ok:Nat->Prop)(v:I)(w:W)(h:hY w ok κ c v)(x:gS κ c)(l:c.vs.length<=10000):Calls ao 75 #[v] w (fI O w):=by
 obtain⟨o,q,rfl,d,u⟩:=h;have A:=Bk.made w 61 (ctC κ o q);have b:=bA w (ag (ctC κ o q) 61);have j:=d.aw b;have D:=j;obtain⟨n,a⟩:=nM (c.vs.length);obtain⟨B,C,rfl⟩:=u.slice a;rw[a]at l;rcases x with⟨rfl,g,i⟩|⟨t,g⟩
 ·rw[a]at i;obtain⟨k,s,rfl⟩:=d.slice i;have f:=N (al g i);have z:=N a;go_enter func75,ntmps75;go_wp2_with fail;refine(Kl c.ks k n s _ (j.sl f.out.2) f.out.2 l f.out.1).mono ?_;rintro e E ⟨rfl,m,rfl⟩;go_wp2_with fail;go_ret;exact⟨rfl,kJ b _⟩
 have y:c.ks.length=0:=by rw[g];rfl
 obtain⟨k,s,rfl⟩:=d.slice y;rcases t with rfl|rfl
 ·go_enter func75,ntmps75;go_wp2_with fail;go_ret;exact⟨Z,b⟩
 go_enter func75,ntmps75;go_wp2_with fail;go_ret;exact⟨Z,b⟩
theorem Cd{P:J4}{fn:Func}{p t u:Tmp}{ty:bM}(h:fn.results=#[.cell p ty,.tmp t,.tmp u])(a:Array I)(w:W)(g:Nat)(e:bM)(b:Array I)(f:Nat × Nat)(d:TypeDesc)(v x:I)(j:a.getD p undef=ae (J ⟨g,0,Y⟩))(k:a.getD t undef=v)(l:a.getD u undef=x)(i:w.heap[g]? =J (ag b e f))(n:P.underlying ty=J d)(hd:(match d with|.struct _|.array _ _=>O|_=>X)=O)(hi:(P.info? ty).map (·.size)=J b.size):
  (jE fn a).run P w= .ok (.tuple #[.agg b,v,x]) w:=by
 subst k l;have m:a[p]?.getD undef=ae (J ⟨g,0,Y⟩):=by simpa using j
 simp[jE,h,m,asAddr,a7 w g e ty b f d i n hd hi]
abbrev frW(w:W)(κ:Int)(b a:I)(op:Opr):W:=((w.alloc (ag (ctC κ b a) 61)).alloc (ag (di op) 54)).alloc (ag (ctC 0 (af Y 0 0) (af Y 0 0)) 61)
structure Fr (w w':W) (κ:Int) (vk vs:I) (op:Opr):Prop where
 k0:Bk w' w.heap.size 61 (ctC κ vk vs)
 k1:Bk w' (w.heap.size+1) 54 (di op)
 k2:Bk w' (w.heap.size+1+1) 61 (ctC 0 (af Y 0 0) (af Y 0 0))
 hb:D w.heap.size w w'
theorem rB(w:W)(κ:Int)(b a:I)(op:Opr):Fr w (frW w κ b a op) κ b a op:=
 ⟨((Bk.made w 61 (ctC κ b a)).alloc _).alloc _,(Bk.new (w.alloc (ag (ctC κ b a) 61)) (g:=w.heap.size+1) zS 54 (di op)).alloc _,Bk.new _ zS _ _,aA (aA (aA bS _) _) _⟩
theorem Fr.aw{w b e:W}{κ:Int}{d f:I}{op:Opr}(h:Fr w b κ d f op)(a:D b.heap.size b e):Fr w e κ d f op:=
 ⟨h.k0.aw a,h.k1.aw a,h.k2.aw a,aE h.hb a⟩
abbrev iK(w:W)(g:Nat)(a b c:I):W:=((w.setCell ⟨g,0,Y⟩ a).setCell ⟨g,1,Y⟩ b).setCell ⟨g,2,Y⟩ c
theorem fW{w:W}{t:bM}{z:I}(h:Bk w g t #[x,y,z])(a b c:I):Bk (iK w g a b c) g t #[a,b,c]:=((h.stored 0 a).stored 1 b).stored 2 c
theorem dW{a w:W}(h:D a.heap.size a w)(b:a.heap.size<=g)(x y z:I):D a.heap.size a (iK w g x y z):=bu (bu (bu h b _) b _) b _
theorem mo{f:Func}{d:jK->W->Prop}{a:Act}{w':W}{b:Array I}(i:f.results=#[.cell 4 61,.tmp 5,.tmp 6])(hd:a.defers=[])(e:a.tmps.getD 4 undef=ae (J ⟨g,0,Y⟩))(j:a.tmps.getD 5 undef=x)(k:a.tmps.getD 6 undef=y)(m:Bk w' g 61 b)(l:b.size=3)(h:d (ai (.tuple #[.agg b,x,y])) w'):bodyPost ao f d Exit.ret a w':=
 aS (Cd i a.tmps w' g 61 b (0,0) _ x y e j k m Bz Z (by rw[l];kernel_rfl)) hd h
def efR(base a:Nat)(L M:List Int)(i:Nat)(_:Nat->Option I)(v:I)(w:W):Prop:=aX w base v (if i=a then L else M)
theorem ps(base d:Nat)(L M:List Int)(i:Nat)(val b:Nat->Option I)(v:I)(a w2:W)(_:∀j u,val j=J u->b j=J u)(e:D a.heap.size a w2)(h:efR base d L M i val v a):efR base d L M i b v w2:=aY h e
theorem mg{w:W}{v a b c:I}{L:List Int}(h:aX w base v L)(d:g<base):aX (iK w g a b c) base v L:=((h.uZ (p:=⟨g,0,Y⟩) d a).uZ (p:=⟨g,1,Y⟩) d b).uZ (p:=⟨g,2,Y⟩) d c
theorem dR{w:W}{v:I}{zs:List Int}(h:aX w base v zs):∃G m d,v= .slice G m d:=by
 obtain⟨G,d,e⟩:=bJ h;exact⟨G,_,d,e⟩
theorem AA(w:W)(ok:Nat->Prop):RdI w ok (af Y 0 0) []:=⟨bW _ _ _ _,λb h=>by cases h⟩
theorem src_up{w:W}{a c:Nat}(h:Src w B 1 U n c xs)(d:B<=a):Src w a 1 U n c xs:=
 ⟨h.1,h.2.imp id λ⟨g,o,e,b,f⟩=>⟨g,o,e,aZ b d,f⟩⟩
theorem sl_src{w:W}{c:Nat}(h:Src w B 1 U n c xs):Sl w B U n xs:=by
 refine⟨by have:=h.1;omega,λf=>?_⟩;rcases h.2 with⟨_,d,_⟩|⟨g,o,e,a,b⟩
 ·omega
 exact⟨g,o,e,a,b⟩
theorem Le(A:Option Addr)(c m:Nat)(zs:List Int)(w:W)(b:zs.length=m)(h:Src w w.heap.size 1 A m c (ints zs))(a:m<=1000000):Calls ao 49 #[.slice A m c] w (O4 zs w):=by
 subst b;exact tZ A c zs w (sl_src h) a
theorem A5(c:Ct)(op:Opr)(ok:Nat->Prop)(v:Value)(w:World)(fC:∀b,w.heap.size<=b->ok b)(h:hY w ok 1 c v)(hR:gS 1 c)(X:c.vs.length<=10000)(N:op.kind=1):Calls ao 107 #[v,.agg (di op)] w (pK w ok 1 op c):=by
 have qg:doS op c=if isK c.ks op.a then(c,c.vs.getD (lb c.ks op.a) 0,O)else(c,0,false):=by unfold doS;rw[if_pos N]
 obtain⟨vk,vs,rfl,z,A⟩:=h;obtain⟨n,t⟩:=nM (c.vs.length);rw[t]at X;obtain⟨I,d,rfl⟩:=A.slice t;rcases hR with⟨-,P,s⟩|⟨hκ,-⟩;rotate_left
 ·omega
 rw[t]at s;obtain⟨a,i,rfl⟩:=z.slice s;have F:=rB w 1 (.slice a n i) (.slice I n d) op;have j:=aj (al qg (al N (al t (al P s))));go_enter func107,ntmps107;go_wp2_with fail;obtain⟨qg,N,t,P,s⟩:=j.out;refine(kF c.ks op.a a n i _ ((z.aw F.hb).sl s) s X P).mono ?_;rintro e w2 ⟨rfl,m,rfl⟩;replace F:=F.aw (kJ bS m);generalize (frW w 1 (.slice a n i) (.slice I n d) op).drewN m=f at *;have l0:=F.k0.lt;have l2:=F.k2.lt;have qe:w.heap.size<w.heap.size+1+1:=zO;have lB:w.heap.size+1<w.heap.size+1+1:=zO;obtain⟨qa,qb,G⟩:=cE F.k0;have u:=F.k1.cell 2;have B:=F.k1.cell 3;simp at qa qb G u B;cases hi:isK c.ks op.a with
 | false=>
  have Q:=aj hi;obtain⟨f0,f1,f2⟩:=fE F.k2;obtain⟨qc,qd,L⟩:=cE F.k2;simp at qc qd L;have T:=aj F;go_wp2_with fail;have F:=T.out;have C:doS op c=(c,0,false):=by rw[j.out.1,if_neg (by rw[Q.out];decide)]
  have k:=dW F.hb (g:=w.heap.size+1+1) zO (V H 1) (.slice a n i) (.slice I n d);refine mo (x:=V H 0) (y:=ah false) Z Z Z Z Z (fW F.k2 _ _ _) Z ⟨_,by rw[C],?_,k⟩;rw[C];exact⟨_,_,Z,z.aw k,A.aw k⟩
 | true=>
  have Q:=aj hi;have hm:lb c.ks op.a<n:=by
   unfold isK at hi;rw[beq_iff_eq]at hi;have:=(aC.1 hi).1;have:=j.out.2.2.2.2;omega
  obtain⟨x,qh⟩:∃x,c.vs[lb c.ks op.a]? =J x:=⟨_,aD (by have:=j.out.2.2.1;omega)⟩;obtain⟨b,o,rfl,M,hcc⟩:=(A.sl j.out.2.2.1) (by have:=j.out.2.2.1;omega);have M:b<w.heap.size:=M;have q:=(F.hb.cell (p:=⟨b,o+lb c.ks op.a,Y⟩) M).trans (hcc _ _ qh);have i1:((lb c.ks op.a:Nat):Int)<n:=zO;have lC:b<w.heap.size+1+1:=zO;have C:doS op c=(c,x,O):=by rw[j.out.1,if_pos Q.out,dJ,qh];rfl
  have U:=aj C;generalize lb c.ks op.a=p at *;go_wp2_with fail;replace F:=F.aw (bZ bS);replace qa:f.drew.cell? _=_:=qa;replace qb:f.drew.cell? _=_:=qb;replace G:f.drew.cell? _=_:=G;replace u:f.drew.cell? _=_:=u;replace B:f.drew.cell? _=_:=B;replace q:f.drew.cell? _=_:=q;refine aH (S:=λw'=>D (w.heap.size+1+1) f.drew w') (E:=λ_=>false) zK ?_;generalize f.drew=w4 at *;have W:D (w.heap.size+1+1) w4 w4:=bS;refine wTq 6 [(0,20,.agg (ctC 1 (.slice a n i) (af (J ⟨b,o,Y⟩) n d))),(1,21,ae (J ⟨w.heap.size,2,Y⟩)),(2,22,af (J ⟨b,o,Y⟩) n d),(3,23,V H (p:Nat)),(4,24,ae (J ⟨b,o+p,Y⟩)),(5,25,V H x)] ?_ W ?_
  ·intro w' l;have e0:=(l.cell (p:=⟨w.heap.size,0,Y⟩) qe).trans qa;have e1:=(l.cell (p:=⟨w.heap.size,1,Y⟩) qe).trans qb;have e2:=(l.cell (p:=⟨w.heap.size,2,Y⟩) qe).trans G;have e3:=(l.cell (p:=⟨w.heap.size+1,2,Y⟩) lB).trans u;have e4:=(l.cell (p:=⟨w.heap.size+1,3,Y⟩) lB).trans B;have eq:=(l.cell (p:=⟨b,o+p,Y⟩) lC).trans q;exact zT
  have l2:=F.k2.lt;obtain⟨f0,f1,f2⟩:=fE F.k2;obtain⟨qc,qd,L⟩:=cE F.k2;simp at qc qd L;have T:=aj F;refine wOq 6 (λK hK=>?_);go_simp;have F:=T.out;have kS:=fW F.k2 (V H 1) (.slice a n i) (af (J ⟨b,o,Y⟩) n d);have qf:D (w.heap.size+1+1) w4 (iK w4 (w.heap.size+1+1) (V H 1) (.slice a n i) (af (J ⟨b,o,Y⟩) n d)):=((W.setCell (p:=⟨w.heap.size+1+1,0,Y⟩) (aq _) _).setCell (p:=⟨w.heap.size+1+1,1,Y⟩) (aq _) _).setCell (p:=⟨w.heap.size+1+1,2,Y⟩) (aq _) _;have k:=dW F.hb (g:=w.heap.size+1+1) zO (V H 1) (.slice a n i) (af (J ⟨b,o,Y⟩) n d);refine sO hK (λ_=>qf) ?_;refine wTq 2 [(7,5,V H x),(8,6,ah O)] ?_ qf ?_
  ·intro w' l;exact zT
  refine aG zK ?_ _;go_wp2_with fail;refine mo (x:=V H x) (y:=ah O) Z Z Z Z Z kS Z ⟨_,by rw[U.out],?_,k⟩;rw[U.out];exact⟨_,_,Z,z.aw k,A.aw k⟩
theorem AD(c:Ct)(op:Opr)(ok:Nat->Prop)(v:Value)(w:World)(fC:∀b,w.heap.size<=b->ok b)(h:hY w ok 1 c v)(hR:gS 1 c)(qd:c.vs.length<=10000)(qg:op.kind=2):Calls ao 108 #[v,.agg (di op)] w (pK w ok 1 op c):=by
 have CR:doS op c=if isK c.ks op.a then(c,0,X)else(⟨gE c.ks (lb c.ks op.a) op.a,gE c.vs (lb c.ks op.a) op.b⟩,0,O):=by unfold doS;rw[if_neg zO,if_pos qg]
 obtain⟨vk,vs,rfl,qb,W⟩:=h;obtain⟨n,z⟩:=nM (c.vs.length);rw[z]at qd;obtain⟨q,s,rfl⟩:=W.slice z;rcases hR with⟨-,s1,o⟩|⟨hκ,-⟩;rotate_left
 ·omega
 rw[z]at o;obtain⟨j,l,rfl⟩:=qb.slice o;have F:=rB w 1 (.slice j n l) (.slice q n s) op;have k:=aj (al CR (al qg (al z (al s1 o))));go_enter func108,ntmps108;go_wp2_with fail;obtain⟨CR,qg,z,s1,o⟩:=k.out;refine(kF c.ks op.a j n l _ ((qb.aw F.hb).sl o) o qd s1).mono ?_;rintro e w2 ⟨rfl,m,rfl⟩;replace F:=F.aw (kJ bS m);generalize (frW w 1 (.slice j n l) (.slice q n s) op).drewN m=d at *;have l0:=F.k0.lt;have l2:=F.k2.lt;have lA:w.heap.size<w.heap.size+1+1:=zO;have lB:w.heap.size+1<w.heap.size+1+1:=zO;obtain⟨M,T,N⟩:=cE F.k0;have C:=F.k1.cell 2;have L:=F.k1.cell 3;simp at M T N C L;cases hi:isK c.ks op.a with
 | true=>
  have HI:=aj hi;obtain⟨f0,f1,f2⟩:=fE F.k2;obtain⟨d0,qe,qf⟩:=cE F.k2;simp at d0 qe qf;have HF:=aj F;go_wp2_with fail;have F:=HF.out;have qc:doS op c=(c,0,X):=by rw[k.out.1,if_pos HI.out]
  have t:=dW F.hb (g:=w.heap.size+1+1) zO (aa H 1) (.slice j n l) (.slice q n s);refine mo (x:=aa H 0) (y:=ah X) Z Z Z Z Z (fW F.k2 _ _ _) Z ⟨_,by rw[qc],?_,t⟩;rw[qc];exact⟨_,_,Z,qb.aw t,W.aw t⟩
 | false=>
  have HI:=aj hi;have hmi:lb c.ks op.a<=n:=by
   have:=lb_le c.ks op.a;have:=k.out.2.2.2.2;omega
  have qc:doS op c=(⟨gE c.ks (lb c.ks op.a) op.a,gE c.vs (lb c.ks op.a) op.b⟩,0,O):=by rw[k.out.1,if_neg (by rw[HI.out];decide)]
  have HX:=aj qc;have HN:=aj (al k.out.2.2.1 k.out.2.2.2.2);generalize lb c.ks op.a=p at *;go_wp2_with fail;replace F:=F.aw (bZ bS);replace M:d.drew.cell? _=_:=M;replace T:d.drew.cell? _=_:=T;replace N:d.drew.cell? _=_:=N;replace C:d.drew.cell? _=_:=C;replace L:d.drew.cell? _=_:=L;refine aH (S:=λw'=>D (w.heap.size+1+1) d.drew w') (E:=λ_=>X) zK ?_;generalize d.drew=w4 at *;have rz:D (w.heap.size+1+1) w4 w4:=bS;have V:=F.k2.lt;refine wTq 12 [(0,19,ae (J ⟨w.heap.size,0,Y⟩)),(1,20,aa H 1),(2,21,ae (J ⟨w.heap.size,1,Y⟩)),(3,22,.slice j n l),(4,23,aa H (p:Nat)),(5,24,ae (J ⟨w.heap.size+1,2,Y⟩)),(6,25,aa H op.a),(8,27,ae (J ⟨w.heap.size,2,Y⟩)),(9,28,.slice q n s),(10,29,aa H (p:Nat)),(11,30,ae (J ⟨w.heap.size+1,3,Y⟩)),(12,31,aa H op.b)] ?_ rz ?_
  ·intro w' f;have e0:=(f.cell (p:=⟨w.heap.size,0,Y⟩) lA).trans M;have e1:=(f.cell (p:=⟨w.heap.size,1,Y⟩) lA).trans T;have e2:=(f.cell (p:=⟨w.heap.size,2,Y⟩) lA).trans N;have e3:=(f.cell (p:=⟨w.heap.size+1,2,Y⟩) lB).trans C;have e4:=(f.cell (p:=⟨w.heap.size+1,3,Y⟩) lB).trans L;exact zT
  refine eh (U:=[7,13]) (tmp:=λi=>if i=7 then 26 else 32) (pre:=λ_=>[]) (R:=efR w4.heap.size 7 (gE c.ks p op.a) (gE c.vs p op.b)) zK (λ_ _=>Z) (λw2 h=>h.mono (ed V)) (ps _ _ _ _) (λi hi=>?_) 4 (λval w5 eI hbo=>?_)
  ·simp only[aL,be,or_false]at hi;rcases hi with rfl|rfl
   ·refine⟨_,Z,λval wq K u fA a=>?_⟩;simp only[ba]at a ⊢;go_simp;refine(rM c.ks p op.a j n l wq ((qb.aw F.hb).aw u).own HN.out.2 qd hmi).mono ?_;rintro e wp ⟨v,rfl,ho,yz⟩;exact a _ _ (dt ho u.size) yz
   refine⟨_,Z,λval wq K u fA a=>?_⟩;simp only[ba]at a ⊢;go_simp;refine(rM c.vs p op.b q n s wq ((W.aw F.hb).aw u).own HN.out.1 qd hmi).mono ?_;rintro e wp ⟨v,rfl,ho,yz⟩;exact a _ _ (dt ho u.size) yz
  obtain⟨v0,x0,I⟩:=eI 7 zS;obtain⟨v1,x1,G⟩:=eI 13 zS;have I:aX w5 w4.heap.size v0 _:=I;have G:aX w5 w4.heap.size v1 _:=G;simp only[ba,dj,x0,x1,cZ,if_true];(try simp only[Act.put,ak,ay,az,eM]);replace F:=F.aw hbo;have Oa:D (w.heap.size+1+1) w4 w5:=hbo.mono (ed V);obtain⟨qa,m0,Q,rfl⟩:=dR I;obtain⟨B,P,A,rfl⟩:=dR G;refine wTq 1 [(14,33,.agg (ctC 1 (.slice qa m0 Q) (.slice B P A)))] ?_ Oa ?_
  ·intro w' f;exact zT
  have l2:=F.k2.lt;obtain⟨f0,f1,f2⟩:=fE F.k2;obtain⟨d0,qe,qf⟩:=cE F.k2;simp at d0 qe qf;have HF:=aj F;refine wOq 15 (λK a=>?_);go_simp;have F:=HF.out;have kS:=fW F.k2 (aa H 1) (.slice qa m0 Q) (.slice B P A);have hS5:D (w.heap.size+1+1) w4 (iK w5 (w.heap.size+1+1) (aa H 1) (.slice qa m0 Q) (.slice B P A)):=((Oa.setCell (p:=⟨w.heap.size+1+1,0,Y⟩) (aq _) _).setCell (p:=⟨w.heap.size+1+1,1,Y⟩) (aq _) _).setCell (p:=⟨w.heap.size+1+1,2,Y⟩) (aq _) _;have t:=dW F.hb (g:=w.heap.size+1+1) zO (aa H 1) (.slice qa m0 Q) (.slice B P A);refine sO a (λ_=>hS5) ?_;refine wTq 2 [(16,5,aa H 0),(17,6,ah O)] ?_ hS5 ?_
  ·intro w' f;exact zT
  refine aG zK ?_ _;go_wp2_with fail;refine mo (x:=aa H 0) (y:=ah O) Z Z Z Z Z kS Z ⟨_,by rw[HX.out],?_,t⟩;rw[HX.out];have NC:w.heap.size<=w4.heap.size:=zO;exact⟨_,_,Z,RdI.new (mg I V) (λb hb=>fC b (aF NC hb)),RdI.new (mg G V) (λb hb=>fC b (aF NC hb))⟩
theorem Ba(c:Ct)(op:Opr)(ok:Nat->Prop)(v:Value)(w:World)(fC:∀b,w.heap.size<=b->ok b)(h:hY w ok 1 c v)(hR:gS 1 c)(qd:c.vs.length<=10000)(qg:op.kind=3):Calls ao 109 #[v,.agg (di op)] w (pK w ok 1 op c):=by
 have CR:doS op c=if isK c.ks op.a then(⟨lx c.ks (lb c.ks op.a),lx c.vs (lb c.ks op.a)⟩,0,O)else(c,0,X):=by unfold doS;rw[if_neg zO,if_neg zO,if_pos qg]
 obtain⟨vk,vs,rfl,qb,W⟩:=h;obtain⟨n,z⟩:=nM (c.vs.length);rw[z]at qd;obtain⟨q,s,rfl⟩:=W.slice z;rcases hR with⟨-,s1,o⟩|⟨hκ,-⟩;rotate_left
 ·omega
 rw[z]at o;obtain⟨j,l,rfl⟩:=qb.slice o;have F:=rB w 1 (.slice j n l) (.slice q n s) op;have k:=aj (al CR (al qg (al z (al s1 o))));go_enter func109,ntmps109;go_wp2_with fail;obtain⟨CR,qg,z,s1,o⟩:=k.out;refine(kF c.ks op.a j n l _ ((qb.aw F.hb).sl o) o qd s1).mono ?_;rintro e w2 ⟨rfl,m,rfl⟩;replace F:=F.aw (kJ bS m);generalize (frW w 1 (.slice j n l) (.slice q n s) op).drewN m=d at *;have l0:=F.k0.lt;have l2:=F.k2.lt;have lA:w.heap.size<w.heap.size+1+1:=zO;have lB:w.heap.size+1<w.heap.size+1+1:=zO;obtain⟨M,T,N⟩:=cE F.k0;have C:=F.k1.cell 2;have L:=F.k1.cell 3;simp at M T N C L;cases hi:isK c.ks op.a with
 | false=>
  have HI:=aj hi;obtain⟨f0,f1,f2⟩:=fE F.k2;obtain⟨d0,qe,qf⟩:=cE F.k2;simp at d0 qe qf;have HF:=aj F;go_wp2_with fail;have F:=HF.out;have qc:doS op c=(c,0,X):=by rw[k.out.1,if_neg (by rw[HI.out];decide)]
  have t:=dW F.hb (g:=w.heap.size+1+1) zO (aa H 1) (.slice j n l) (.slice q n s);refine mo (x:=aa H 0) (y:=ah X) Z Z Z Z Z (fW F.k2 _ _ _) Z ⟨_,by rw[qc],?_,t⟩;rw[qc];exact⟨_,_,Z,qb.aw t,W.aw t⟩
 | true=>
  have HI:=aj hi;have hmi:lb c.ks op.a<n:=by
   unfold isK at hi;rw[beq_iff_eq]at hi;have:=(aC.1 hi).1;have:=k.out.2.2.2.2;omega
  have qc:doS op c=(⟨lx c.ks (lb c.ks op.a),lx c.vs (lb c.ks op.a)⟩,0,O):=by rw[k.out.1,if_pos HI.out]
  have HX:=aj qc;have HN:=aj (al k.out.2.2.1 k.out.2.2.2.2);generalize lb c.ks op.a=p at *;go_wp2_with fail;replace F:=F.aw (bZ bS);replace M:d.drew.cell? _=_:=M;replace T:d.drew.cell? _=_:=T;replace N:d.drew.cell? _=_:=N;replace C:d.drew.cell? _=_:=C;replace L:d.drew.cell? _=_:=L;refine aH (S:=λw'=>D (w.heap.size+1+1) d.drew w') (E:=λ_=>X) zK ?_;generalize d.drew=w4 at *;have rz:D (w.heap.size+1+1) w4 w4:=bS;have V:=F.k2.lt;refine wTq 8 [(0,20,ae (J ⟨w.heap.size,0,Y⟩)),(1,21,aa H 1),(2,22,ae (J ⟨w.heap.size,1,Y⟩)),(3,23,.slice j n l),(4,24,aa H (p:Nat)),(6,26,ae (J ⟨w.heap.size,2,Y⟩)),(7,27,.slice q n s),(8,28,aa H (p:Nat))] ?_ rz ?_
  ·intro w' f;have e0:=(f.cell (p:=⟨w.heap.size,0,Y⟩) lA).trans M;have e1:=(f.cell (p:=⟨w.heap.size,1,Y⟩) lA).trans T;have e2:=(f.cell (p:=⟨w.heap.size,2,Y⟩) lA).trans N;have e3:=(f.cell (p:=⟨w.heap.size+1,2,Y⟩) lB).trans C;have e4:=(f.cell (p:=⟨w.heap.size+1,3,Y⟩) lB).trans L;exact zT
  refine eh (U:=[5,9]) (tmp:=λi=>if i=5 then 25 else 29) (pre:=λ_=>[]) (R:=efR w4.heap.size 5 (lx c.ks p) (lx c.vs p)) zK (λ_ _=>Z) (λw2 h=>h.mono (ed V)) (ps _ _ _ _) (λi hi=>?_) 4 (λval w5 eI hbo=>?_)
  ·simp only[aL,be,or_false]at hi;rcases hi with rfl|rfl
   ·refine⟨_,Z,λval wq K u fA a=>?_⟩;simp only[ba]at a ⊢;go_simp;refine(uo c.ks p j n l wq ((qb.aw F.hb).aw u).own HN.out.2 qd hmi).mono ?_;rintro e wp ⟨v,rfl,ho,yz⟩;exact a _ _ (dt ho u.size) yz
   refine⟨_,Z,λval wq K u fA a=>?_⟩;simp only[ba]at a ⊢;go_simp;refine(uo c.vs p q n s wq ((W.aw F.hb).aw u).own HN.out.1 qd hmi).mono ?_;rintro e wp ⟨v,rfl,ho,yz⟩;exact a _ _ (dt ho u.size) yz
  obtain⟨v0,x0,I⟩:=eI 5 zS;obtain⟨v1,x1,G⟩:=eI 9 zS;have I:aX w5 w4.heap.size v0 _:=I;have G:aX w5 w4.heap.size v1 _:=G;simp only[ba,dj,x0,x1,cZ,if_true];(try simp only[Act.put,ak,ay,az,eM]);replace F:=F.aw hbo;have Oa:D (w.heap.size+1+1) w4 w5:=hbo.mono (ed V);obtain⟨qa,m0,Q,rfl⟩:=dR I;obtain⟨B,P,A,rfl⟩:=dR G;refine wTq 1 [(10,30,.agg (ctC 1 (.slice qa m0 Q) (.slice B P A)))] ?_ Oa ?_
  ·intro w' f;exact zT
  have l2:=F.k2.lt;obtain⟨f0,f1,f2⟩:=fE F.k2;obtain⟨d0,qe,qf⟩:=cE F.k2;simp at d0 qe qf;have HF:=aj F;refine wOq 11 (λK a=>?_);go_simp;have F:=HF.out;have kS:=fW F.k2 (aa H 1) (.slice qa m0 Q) (.slice B P A);have hS5:D (w.heap.size+1+1) w4 (iK w5 (w.heap.size+1+1) (aa H 1) (.slice qa m0 Q) (.slice B P A)):=((Oa.setCell (p:=⟨w.heap.size+1+1,0,Y⟩) (aq _) _).setCell (p:=⟨w.heap.size+1+1,1,Y⟩) (aq _) _).setCell (p:=⟨w.heap.size+1+1,2,Y⟩) (aq _) _;have t:=dW F.hb (g:=w.heap.size+1+1) zO (aa H 1) (.slice qa m0 Q) (.slice B P A);refine sO a (λ_=>hS5) ?_;refine wTq 2 [(12,5,aa H 0),(13,6,ah O)] ?_ hS5 ?_
  ·intro w' f;exact zT
  refine aG zK ?_ _;go_wp2_with fail;refine mo (x:=aa H 0) (y:=ah O) Z Z Z Z Z kS Z ⟨_,by rw[HX.out],?_,t⟩;rw[HX.out];have NC:w.heap.size<=w4.heap.size:=zO;exact⟨_,_,Z,RdI.new (mg I V) (λb hb=>fC b (aF NC hb)),RdI.new (mg G V) (λb hb=>fC b (aF NC hb))⟩
theorem Kc(κ:Int)(c:Ct)(op:Opr)(ok:Nat->Prop)(v:Value)(w:W)(fC:∀b,w.heap.size<=b->ok b)(h:hY w ok κ c v)(qd:c.ks=[])(M:c.vs.length<=10000)(hk:op.kind=4):Calls ao 110 #[v,.agg (di op)] w (pK w ok κ op c):=by
 have CR:doS op c=(⟨c.ks,gE c.vs 0 op.a⟩,0,O):=by unfold doS;rw[if_neg zO,if_neg zO,if_neg zO,if_pos hk]
 obtain⟨vk,vs,rfl,qf,I⟩:=h;obtain⟨n,qc⟩:=nM (c.vs.length);rw[qc]at M;obtain⟨a,d,rfl⟩:=I.slice qc;obtain⟨s,C,rfl⟩:=qf.slice (n:=0) (by rw[qd];rfl);have F:Fr w (((w.alloc (ag (ctC κ (.slice s 0 C) (.slice a n d)) 61)).alloc (ag (di op) 54)).alloc (ag #[V H 0,af Y 0 0,af Y 0 0] 61)) κ (.slice s 0 C) (.slice a n d) op:=rB w κ (.slice s 0 C) (.slice a n d) op;have u:=aj (al CR (al qc qd));go_enter func110,ntmps110;go_wp2_with fail;generalize ((w.alloc (ag (ctC κ (.slice s 0 C) (.slice a n d)) 61)).alloc (ag (di op) 54)).alloc (ag #[V H 0,af Y 0 0,af Y 0 0] 61)=f at *;have l0:=F.k0.lt;have qg:=F.k2.lt;have qa:w.heap.size<w.heap.size+1+1:=zO;have P:w.heap.size+1<w.heap.size+1+1:=zO;obtain⟨t,B,z⟩:=cE F.k0;have k:=F.k1.cell 2;have q:=F.k1.cell 3;simp at t B z k q;replace F:=F.aw (bZ bS);replace t:f.drew.cell? _=_:=t;replace B:f.drew.cell? _=_:=B;replace z:f.drew.cell? _=_:=z;replace k:f.drew.cell? _=_:=k;replace q:f.drew.cell? _=_:=q;refine aH (S:=λw'=>D (w.heap.size+1+1) f.drew w') (E:=λ_=>false) zK ?_;generalize f.drew=w4 at *;have rz:D (w.heap.size+1+1) w4 w4:=bS;have qb:=F.k2.lt;refine wTq 6 [(0,7,ae (J ⟨w.heap.size,0,Y⟩)),(1,8,V H κ),(2,9,ae (J ⟨w.heap.size,2,Y⟩)),(3,10,.slice a n d),(4,11,ae (J ⟨w.heap.size+1,2,Y⟩)),(5,12,V H op.a)] ?_ rz ?_
 ·intro w' j;have e0:=(j.cell (p:=⟨w.heap.size,0,Y⟩) qa).trans t;have e1:=(j.cell (p:=⟨w.heap.size,1,Y⟩) qa).trans B;have e2:=(j.cell (p:=⟨w.heap.size,2,Y⟩) qa).trans z;have e3:=(j.cell (p:=⟨w.heap.size+1,2,Y⟩) P).trans k;have e4:=(j.cell (p:=⟨w.heap.size+1,3,Y⟩) P).trans q;exact zT
 refine eh (U:=[6]) (tmp:=λ_=>13) (pre:=λ_=>[]) (R:=efR w4.heap.size 6 (gE c.vs 0 op.a) []) zK (λ_ _=>Z) (λw2 h=>h.mono (ed qb)) (ps _ _ _ _) (λi hi=>?_) 4 (λval w5 qh L=>?_)
 ·simp only[aL,be,or_false]at hi;subst hi;refine⟨_,Z,λval T K N fA m=>?_⟩;simp only[ba]at m ⊢;go_simp;refine(show Calls ao 159 #[.slice a n d,V H 0,V H op.a] T _ from rM c.vs 0 op.a a n d T ((I.aw F.hb).aw N).own u.out.2.1 M (aN _)).mono ?_;rintro e wp ⟨v,rfl,ho,yz⟩;exact m _ _ (dt ho N.size) yz
 obtain⟨X,qi,o⟩:=qh 6 zS;have o:aX w5 w4.heap.size X _:=o;simp only[ba,dj,qi,cZ,if_true];(try simp only[Act.put,ak,ay,az,eM]);replace F:=F.aw L;have Q:D (w.heap.size+1+1) w4 w5:=L.mono (ed qb);obtain⟨l,m0,A,rfl⟩:=dR o;refine wTq 1 [(7,14,.agg (ctC κ (af Y 0 0) (.slice l m0 A)))] ?_ Q ?_
 ·intro w' j;exact zT
 have qg:=F.k2.lt;obtain⟨f0,f1,f2⟩:=fE F.k2;obtain⟨d0,d1,d2⟩:=cE F.k2;simp at d0 d1 d2;have HF:=aj F;refine wOq 8 (λK m=>?_);go_simp;have F:=HF.out;have kS:=fW F.k2 (V H κ) (af Y 0 0) (.slice l m0 A);have qe:D (w.heap.size+1+1) w4 (iK w5 (w.heap.size+1+1) (V H κ) (af Y 0 0) (.slice l m0 A)):=((Q.setCell (p:=⟨w.heap.size+1+1,0,Y⟩) (aq _) _).setCell (p:=⟨w.heap.size+1+1,1,Y⟩) (aq _) _).setCell (p:=⟨w.heap.size+1+1,2,Y⟩) (aq _) _;have hbS:=dW F.hb (g:=w.heap.size+1+1) zO (V H κ) (af Y 0 0) (.slice l m0 A);refine sO m (λ_=>qe) ?_;refine wTq 2 [(9,5,V H 0),(10,6,ah O)] ?_ qe ?_
 ·intro w' j;exact zT
 refine aG zK ?_ _;go_wp2_with fail;refine mo (x:=V H 0) (y:=ah O) Z Z Z Z Z kS Z ⟨_,by rw[u.out.1],?_,hbS⟩;rw[u.out.1];have NC:w.heap.size<=w4.heap.size:=zO;exact⟨_,_,Z,by rw[u.out.2.2];exact AA _ _,RdI.new (mg o qb) (λb hb=>fC b (aF NC hb))⟩
theorem Ka(κ:Int)(c:Ct)(op:Opr)(ok:Nat->Prop)(v:Value)(w:W)(fC:∀b,w.heap.size<=b->ok b)(h:hY w ok κ c v)(qc:c.ks=[])(M:c.vs.length<=10000)(hk:op.kind=6):Calls ao 112 #[v,.agg (di op)] w (pK w ok κ op c):=by
 obtain⟨n,qa⟩:=nM (c.vs.length);have CR:doS op c=(⟨c.ks,gE c.vs n op.a⟩,0,O):=by subst qa;unfold doS;rw[if_neg zO,if_neg zO,if_neg zO,if_neg zO,if_pos hk]
 obtain⟨vk,vs,rfl,qh,I⟩:=h;rw[qa]at M;obtain⟨a,d,rfl⟩:=I.slice qa;obtain⟨s,C,rfl⟩:=qh.slice (n:=0) (by rw[qc];rfl);have F:Fr w (((w.alloc (ag (ctC κ (.slice s 0 C) (.slice a n d)) 61)).alloc (ag (di op) 54)).alloc (ag #[V H 0,af Y 0 0,af Y 0 0] 61)) κ (.slice s 0 C) (.slice a n d) op:=rB w κ (.slice s 0 C) (.slice a n d) op;have u:=aj (al CR (al qa qc));go_enter func112,ntmps112;go_wp2_with fail;generalize ((w.alloc (ag (ctC κ (.slice s 0 C) (.slice a n d)) 61)).alloc (ag (di op) 54)).alloc (ag #[V H 0,af Y 0 0,af Y 0 0] 61)=f at *;have l0:=F.k0.lt;have X:=F.k2.lt;have G:w.heap.size<w.heap.size+1+1:=zO;have P:w.heap.size+1<w.heap.size+1+1:=zO;obtain⟨t,B,z⟩:=cE F.k0;have k:=F.k1.cell 2;have q:=F.k1.cell 3;simp at t B z k q;replace F:=F.aw (bZ bS);replace t:f.drew.cell? _=_:=t;replace B:f.drew.cell? _=_:=B;replace z:f.drew.cell? _=_:=z;replace k:f.drew.cell? _=_:=k;replace q:f.drew.cell? _=_:=q;refine aH (S:=λw'=>D (w.heap.size+1+1) f.drew w') (E:=λ_=>false) zK ?_;generalize f.drew=w4 at *;have rz:D (w.heap.size+1+1) w4 w4:=bS;have qb:=F.k2.lt;refine wTq 9 [(0,7,ae (J ⟨w.heap.size,0,Y⟩)),(1,8,V H κ),(2,9,ae (J ⟨w.heap.size,2,Y⟩)),(3,10,.slice a n d),(4,11,ae (J ⟨w.heap.size,2,Y⟩)),(5,12,.slice a n d),(6,13,V H (n:Nat)),(7,14,ae (J ⟨w.heap.size+1,2,Y⟩)),(8,15,V H op.a)] ?_ rz ?_
 ·intro w' j;have e0:=(j.cell (p:=⟨w.heap.size,0,Y⟩) G).trans t;have e1:=(j.cell (p:=⟨w.heap.size,1,Y⟩) G).trans B;have e2:=(j.cell (p:=⟨w.heap.size,2,Y⟩) G).trans z;have e3:=(j.cell (p:=⟨w.heap.size+1,2,Y⟩) P).trans k;have e4:=(j.cell (p:=⟨w.heap.size+1,3,Y⟩) P).trans q;exact zT
 refine eh (U:=[9]) (tmp:=λ_=>16) (pre:=λ_=>[]) (R:=efR w4.heap.size 9 (gE c.vs n op.a) []) zK (λ_ _=>Z) (λw2 h=>h.mono (ed qb)) (ps _ _ _ _) (λi hi=>?_) 4 (λval w5 qf L=>?_)
 ·simp only[aL,be,or_false]at hi;subst hi;refine⟨_,Z,λval wq K N fA m=>?_⟩;simp only[ba]at m ⊢;go_simp;refine(rM c.vs n op.a a n d wq ((I.aw F.hb).aw N).own u.out.2.1 M (aq _)).mono ?_;rintro e wp ⟨v,rfl,ho,yz⟩;exact m _ _ (dt ho N.size) yz
 obtain⟨qe,T,o⟩:=qf 9 zS;have o:aX w5 w4.heap.size qe _:=o;simp only[ba,dj,T,cZ,if_true];(try simp only[Act.put,ak,ay,az,eM]);replace F:=F.aw L;have Q:D (w.heap.size+1+1) w4 w5:=L.mono (ed qb);obtain⟨l,m0,A,rfl⟩:=dR o;refine wTq 1 [(10,17,.agg (ctC κ (af Y 0 0) (.slice l m0 A)))] ?_ Q ?_
 ·intro w' j;exact zT
 have X:=F.k2.lt;obtain⟨f0,f1,f2⟩:=fE F.k2;obtain⟨d0,qg,d2⟩:=cE F.k2;simp at d0 qg d2;have HF:=aj F;refine wOq 11 (λK m=>?_);go_simp;have F:=HF.out;have kS:=fW F.k2 (V H κ) (af Y 0 0) (.slice l m0 A);have qd:D (w.heap.size+1+1) w4 (iK w5 (w.heap.size+1+1) (V H κ) (af Y 0 0) (.slice l m0 A)):=((Q.setCell (p:=⟨w.heap.size+1+1,0,Y⟩) (aq _) _).setCell (p:=⟨w.heap.size+1+1,1,Y⟩) (aq _) _).setCell (p:=⟨w.heap.size+1+1,2,Y⟩) (aq _) _;have hbS:=dW F.hb (g:=w.heap.size+1+1) zO (V H κ) (af Y 0 0) (.slice l m0 A);refine sO m (λ_=>qd) ?_;refine wTq 2 [(12,5,V H 0),(13,6,ah O)] ?_ qd ?_
 ·intro w' j;exact zT
 refine aG zK ?_ _;go_wp2_with fail;refine mo (x:=V H 0) (y:=ah O) Z Z Z Z Z kS Z ⟨_,by rw[u.out.1],?_,hbS⟩;rw[u.out.1];have NC:w.heap.size<=w4.heap.size:=zO;exact⟨_,_,Z,by rw[u.out.2.2];exact AA _ _,RdI.new (mg o qb) (λb hb=>fC b (aF NC hb))⟩
theorem Ht(κ:Int)(c:Ct)(op:Opr)(ok:Nat->Prop)(v:Value)(w:W)(fC:∀b,w.heap.size<=b->ok b)(h:hY w ok κ c v)(hks:c.ks=[])(hl:c.vs.length<=10000)(hk:op.kind=5\/op.kind=7):Calls ao 111 #[v,.agg (di op)] w (pK w ok κ op c):=by
 have CR:doS op c=xt c:=by unfold doS;rw[if_neg zO,if_neg zO,if_neg zO,if_neg zO,if_neg zO]
 obtain⟨vk,vs,rfl,h1,L⟩:=h;obtain⟨n,j⟩:=nM (c.vs.length);rw[j]at hl;obtain⟨qa,d,rfl⟩:=L.slice j;obtain⟨t,A,rfl⟩:=h1.slice (n:=0) (by rw[hks];rfl);have F:Fr w (((w.alloc (ag (ctC κ (.slice t 0 A) (.slice qa n d)) 61)).alloc (ag (di op) 54)).alloc (ag #[V H 0,af Y 0 0,af Y 0 0] 61)) κ (.slice t 0 A) (.slice qa n d) op:=rB w κ (.slice t 0 A) (.slice qa n d) op;by_cases h0:n=0
 ·subst h0;have T:doS op c=(c,0,X):=by
   rw[CR];unfold xt;cases Q:c.vs with
   | nil=>rfl
   | cons a r=>rw[Q]at j;cases j
  have l:=aj T;go_enter func111,ntmps111;go_upto_region 2 with fail;generalize ((w.alloc (ag (ctC κ (.slice t 0 A) (.slice qa 0 d)) 61)).alloc (ag (di op) 54)).alloc (ag #[V H 0,af Y 0 0,af Y 0 0] 61)=f at *;have l0:=F.k0.lt;have l2:=F.k2.lt;have qc:w.heap.size<w.heap.size+1+1:=zO;have lB:w.heap.size+1<w.heap.size+1+1:=zO;obtain⟨C,u,s⟩:=cE F.k0;have m:=F.k1.cell 2;have B:=F.k1.cell 3;simp at C u s m B;obtain⟨f0,f1,f2⟩:=fE F.k2;obtain⟨qe,qh,qi⟩:=cE F.k2;simp at qe qh qi;have qg:=aj F;go_wp2_with fail;have F:=qg.out;have G:=dW F.hb (g:=w.heap.size+1+1) zO (V H κ) (.slice t 0 A) (.slice qa 0 d);refine mo (x:=V H 0) (y:=ah X) Z Z Z Z Z (fW F.k2 _ _ _) Z ⟨_,by rw[l.out],?_,G⟩;rw[l.out];exact⟨_,_,Z,h1.aw G,L.aw G⟩
 have su:1<=n:=zO;obtain⟨x,r,M⟩:∃x r,c.vs=x :: r:=by
  cases Q:c.vs with
  | nil=>rw[Q]at j;simp at j;omega
  | cons a r=>exact⟨a,r,Z⟩
 have T:doS op c=(⟨c.ks,r⟩,x,O):=by rw[CR];unfold xt;rw[M]
 obtain⟨b,o,rfl,qf,hcc⟩:=(L.sl j) zO;have qf:b<w.heap.size:=qf;have q:=hcc 0 x (by rw[M];rfl);obtain⟨hnc,z⟩:=rX (L.aw F.hb).own j;have hrl:r.length=n-1:=by rw[M]at j;simp at j;omega
 have hdr:(c.vs.take n).drop 1=r:=by rw[List.take_of_length_le zO,M];rfl
 have l:=aj (al T (al hrl hks));have HR:=aj hdr;replace q:=(F.hb.cell (p:=⟨b,o+0,Y⟩) qf).trans q;have lC:b<w.heap.size+1+1:=zO;have i1:(0:Int)<n:=zO;have n0:((n:Int)==0)=X:=zP;go_enter func111,ntmps111;go_wp2_with fail;generalize ((w.alloc (ag (ctC κ (.slice t 0 A) (af (J ⟨b,o,Y⟩) n d)) 61)).alloc (ag (di op) 54)).alloc (ag #[V H 0,af Y 0 0,af Y 0 0] 61)=f at *;have l0:=F.k0.lt;have l2:=F.k2.lt;have qc:w.heap.size<w.heap.size+1+1:=zO;have lB:w.heap.size+1<w.heap.size+1+1:=zO;obtain⟨C,u,s⟩:=cE F.k0;have m:=F.k1.cell 2;have B:=F.k1.cell 3;simp at C u s m B;replace q:f.drew.cell? _=_:=q;replace z:Src f.drew f.heap.size 1 _ n d _:=z.below (bZ bS);replace F:=F.aw (bZ bS);replace C:f.drew.cell? _=_:=C;replace u:f.drew.cell? _=_:=u;replace s:f.drew.cell? _=_:=s;replace m:f.drew.cell? _=_:=m;replace B:f.drew.cell? _=_:=B;refine aH (S:=λw'=>D (w.heap.size+1+1) f.drew w') (E:=λ_=>X) zK ?_;generalize f.drew=w4 at *;have rz:D (w.heap.size+1+1) w4 w4:=bS;have qb:=F.k2.lt;have z:Src w4 (w.heap.size+1+1) 1 (J ⟨b,o,Y⟩) n d (ints c.vs):=by
  refine⟨z.1,?_⟩;rcases z.2 with⟨e,-,-⟩|⟨g2,o2,e,-,hc⟩
  ·cases e
  injection e with e;injection e with e1 e2;subst e1 e2;exact .inr ⟨b,o,Z,lC,hc⟩
 obtain⟨U,hU⟩:=nM ((if d=1 then J (⟨b,o,Y⟩:Addr)else J ⟨b,o+1,Y⟩));have hsU:Src w4 (w.heap.size+1+1) 1 U (n-1) (d-1) (ints r):=by
  have hP:=(zW (o:=⟨Y,.slice 35 (.tmp 0) (J (.const (V H 1))) Y Y,0, "",#[],Y⟩) (a:=⟨#[af (J ⟨b,o,Y⟩) n d],[]⟩) (.tmp 0) (J (.const (V H 1))) Y Z Z z hnc 1 n (.inl Z) (.inr ⟨Z,Z⟩) su (aq _)).2;rw[HR.out]at hP;rw[<- hU];exact hP
 have i2:(1:Int)<=n:=zO;refine wTq 9 [(0,12,ae (J ⟨w.heap.size,0,Y⟩)),(1,13,V H κ),(2,14,ae (J ⟨w.heap.size,2,Y⟩)),(3,15,af (J ⟨b,o,Y⟩) n d),(4,16,.slice U (n-1) (d-1)),(7,19,ae (J ⟨w.heap.size,2,Y⟩)),(8,20,af (J ⟨b,o,Y⟩) n d),(9,21,ae (J ⟨b,o,Y⟩)),(10,22,V H x)] ?_ rz ?_
 ·intro w' k;have e0:=(k.cell (p:=⟨w.heap.size,0,Y⟩) qc).trans C;have e1:=(k.cell (p:=⟨w.heap.size,1,Y⟩) qc).trans u;have e2:=(k.cell (p:=⟨w.heap.size,2,Y⟩) qc).trans s;have e3:=(k.cell (p:=⟨w.heap.size+1,2,Y⟩) lB).trans m;have e4:=(k.cell (p:=⟨w.heap.size+1,3,Y⟩) lB).trans B;have eq:=(k.cell (p:=⟨b,o+0,Y⟩) lC).trans q;rw[Nat.add_zero]at eq;exact zT
 refine eh (U:=[5]) (tmp:=λ_=>17) (pre:=λ_=>[]) (R:=efR w4.heap.size 5 r []) zK (λ_ _=>Z) (λw2 h=>h.mono (ed qb)) (ps _ _ _ _) (λi hi=>?_) 4 (λval w5 eI hbo=>?_)
 ·simp only[aL,be,or_false]at hi;subst hi;refine⟨_,Z,λval wq K hbq fA I=>?_⟩;simp only[ba]at I ⊢;go_simp;refine(Le U (d-1) (n-1) r wq l.out.2.1 (src_up (hsU.below (hbq.mono (ed qb))) (aF (ed qb) hbq.size)) zO).mono ?_;rintro e wp ⟨v,rfl,ho,yz⟩;exact I _ _ (dt ho hbq.size) yz
 obtain⟨v0,x0,qd⟩:=eI 5 zS;have qd:aX w5 w4.heap.size v0 _:=qd;simp only[ba,dj,x0,cZ,if_true];(try simp only[Act.put,ak,ay,az,eM]);replace F:=F.aw hbo;have Oa:D (w.heap.size+1+1) w4 w5:=hbo.mono (ed qb);obtain⟨N,m0,P,rfl⟩:=dR qd;refine wTq 1 [(6,18,.agg (ctC κ (af Y 0 0) (.slice N m0 P)))] ?_ Oa ?_
 ·intro w' k;exact zT
 have l2:=F.k2.lt;obtain⟨f0,f1,f2⟩:=fE F.k2;obtain⟨qe,qh,qi⟩:=cE F.k2;simp at qe qh qi;have qg:=aj F;refine wOq 11 (λK I=>?_);go_simp;have F:=qg.out;have kS:=fW F.k2 (V H κ) (af Y 0 0) (.slice N m0 P);have hS5:D (w.heap.size+1+1) w4 (iK w5 (w.heap.size+1+1) (V H κ) (af Y 0 0) (.slice N m0 P)):=((Oa.setCell (p:=⟨w.heap.size+1+1,0,Y⟩) (aq _) _).setCell (p:=⟨w.heap.size+1+1,1,Y⟩) (aq _) _).setCell (p:=⟨w.heap.size+1+1,2,Y⟩) (aq _) _;have G:=dW F.hb (g:=w.heap.size+1+1) zO (V H κ) (af Y 0 0) (.slice N m0 P);refine sO I (λ_=>hS5) ?_;refine wTq 2 [(12,5,V H x),(13,6,ah O)] ?_ hS5 ?_
 ·intro w' k;exact zT
 refine aG zK ?_ _;go_wp2_with fail;refine mo (x:=V H x) (y:=ah O) Z Z Z Z Z kS Z ⟨_,by rw[l.out.1],?_,G⟩;rw[l.out.1];have NC:w.heap.size<=w4.heap.size:=zO;exact⟨_,_,Z,by rw[l.out.2.2];exact AA _ _,RdI.new (mg qd qb) (λb hb=>fC b (aF NC hb))⟩
end
section
open Go.RowKit
attribute [local go_sem ↓] aQ aR
variable {d:W} {v0 v1 v2:I} {x:cd}
theorem yY{P:J4}{fn:Func}{p:Tmp}{ty:bM}(h:fn.results=#[.cell p ty])(b:Array I)(w:W)(g:Nat)(e:bM)(a:Array I)(f:Nat × Nat)(d:TypeDesc)(j:b.getD p undef=ae (J ⟨g,0,Y⟩))(i:w.heap[g]? =J (ag a e f))(l:P.underlying ty=J d)(hd:(match d with|.struct _|.array _ _=>O|_=>X)=O)(hi:(P.info? ty).map (·.size)=J a.size):
  (jE fn b).run P w= .ok (.agg a) w:=by
 have k:b[p]?.getD undef=ae (J ⟨g,0,Y⟩):=by simpa using j
 simp[jE,h,k,asAddr,a7 w g e ty a f d i l hd hi]
theorem B4(κ:Int)(w:W):U ao 15 #[V H κ] w λe w'=>e=ai (.agg (ctC κ (af Y 0 0) (af Y 0 0)))/\D w.heap.size w w':=by
 have k:=Bk.made w 61 (ctC κ (af Y 0 0) (af Y 0 0));have a:=bA w (ag (ctC κ (af Y 0 0) (af Y 0 0)) 61);go_enter func15,ntmps15;go_wp2_with fail;exact aS (yY Z _ _ _ _ _ _ _ Z k Bz Z zK) Z ⟨Z,a⟩
abbrev fnV(f:FuncId):I:=.func (.func f) #[] #[]
def effC:Array I:=#[.nilFunc,fnV 107,fnV 108,fnV 109,fnV 110,fnV 111,fnV 112,fnV 111]
theorem C5(w:W):U ao 76 #[] w λe w'=>e=ai (.agg effC)/\D w.heap.size w w':=by
 have k:=Bk.made w 130 effC;have a:=bA w (ag effC 130);go_enter func76,ntmps76;go_wp2_with fail;exact aS (yY Z _ _ _ _ _ _ _ Z k underlying130 Z zK) Z ⟨Z,a⟩
def C6(k:Int):FuncId:=if k=1 then 107 else if k=2 then 108 else if k=3 then 109 else if k=4 then 110 else if k=6 then 112 else 111
theorem Ol{o:Oper}{a:Act}{x y:vn}{k:Int}(e:1<=k/\k<=7)(ho:o.op= .index 130 x y)(d:a.eval x= .agg effC)(b:a.eval y=V H k)(w:W):(nO a.eval o).run ao w= .ok (.value (fnV (C6 k))) w:=by
 unfold nO;simp only[ho,d,b];rcases (show k=1\/k=2\/k=3\/k=4\/k=5\/k=6\/k=7 by omega)with rfl|rfl|rfl|rfl|rfl|rfl|rfl<;>kernel_rfl
theorem OB(k:Int)(args:Array I)(w:W):(callFunc (C6 k) args).run ao w= .ok (.enter (C6 k) args) w:=by
 unfold C6
 (repeat' split)<;>kernel_rfl
theorem eff_any{κ:Int}{c:Ct}{op:Opr}{ok:Nat->Prop}{v:I}{w:W}(t:1<=op.kind/\op.kind<=7)(q:kof op=κ)(f:gS κ c)(a:c.vs.length<=10000)(d:∀b,w.heap.size<=b->ok b)(h:hY w ok κ c v):U ao (C6 op.kind) #[v,.agg (di op)] w (pK w ok κ op c):=by
 obtain⟨s,y,u⟩:=CB t;have i:op.kind>=4->c.ks=[]:=by
  intro x;rcases f with⟨e,-⟩|⟨-,e⟩
  ·have:=s.1 (q.trans e);omega
  exact e
 have m:op.kind<=3->κ=1:=λe=>q.symm.trans (s.2 e);unfold C6;by_cases k:op.kind=1
 ·rw[if_pos k];obtain rfl:=m M;exact A5 c op ok v w d h f a k
 rw[if_neg k];by_cases j:op.kind=2
 ·rw[if_pos j];obtain rfl:=m M;exact AD c op ok v w d h f a j
 rw[if_neg j];by_cases n:op.kind=3
 ·rw[if_pos n];obtain rfl:=m M;exact Ba c op ok v w d h f a n
 rw[if_neg n];by_cases o:op.kind=4
 ·rw[if_pos o];exact Kc κ c op ok v w d h (i M) a o
 rw[if_neg o];by_cases l:op.kind=6
 ·rw[if_pos l];exact Ka κ c op ok v w d h (i M) a l
 rw[if_neg l];exact Ht κ c op ok v w d h (i M) a M
theorem tE{w:W}{base g i:Nat}{v u:I}{L:List Int}(h:aX w base v L)(a:v.ownBlock≠J g):aX (w.setCell ⟨g,i,Y⟩ u) base v L:=by
 refine⟨h.1,?_⟩;rcases h.2 with k|⟨b,j,d,e,f,l,r⟩
 ·exact .inl k
 subst e;exact .inr ⟨b,j,d,Z,f,(jL w ⟨g,i,Y⟩ u b (by rintro rfl;exact a rfl)).trans l,r⟩
section
variable {w:W} {ok:Nat->Prop} {v:I} {zs:List Int} {κ:Int} {c:Ct} {g:Nat}
theorem RdI.off(h:RdI w ok v zs)(d:w.heap.size<=g):RdI w (λb=>ok b/\b≠g) v zs:=⟨h.1,λb a=>⟨h.2 b a,by have:=(W.ownsRow.lt h.1 b a).2;omega⟩⟩
theorem hY.off(h:hY w ok κ c v)(a:w.heap.size<=g):hY w (λb=>ok b/\b≠g) κ c v:=by
 obtain⟨d,i,e,f,j⟩:=h;exact⟨d,i,e,f.off a,j.off a⟩
theorem RdI.iK(h:RdI w (λb=>ok b/\b≠g) v zs)(x y z:I):RdI (iK w g x y z) ok v zs:=by
 have a:v.ownBlock≠J g:=λe=>(h.2 g e).2 Z;exact⟨tE (tE (tE h.1 a) a) a,λb d=>(h.2 b d).1⟩
end
theorem do_any(κ:Int)(c:Ct)(op:Opr)(ok:Nat->Prop)(v:Value)(w:W)(fC:∀b,w.heap.size<=b->ok b)(h:hY w ok κ c v)(hR:gS κ c)(hl:c.vs.length<=10000)(O:1<=op.kind/\op.kind<=7)(qg:kof op=κ):Calls ao 57 #[v,.agg (di op)] w (pK w ok κ op c):=by
 have hof:ofK op.kind=κ:=(uX O).trans qg;have qh:=h;obtain⟨qb,qc,rfl,h1,h2⟩:=h;have F:Fr w (((w.alloc (ag (ctC κ qb qc) 61)).alloc (ag (di op) 54)).alloc (ag #[V H 0,af Y 0 0,af Y 0 0] 61)) κ qb qc op:=rB w κ qb qc op;obtain⟨qe,P,qd,rfl⟩:=dR h1.own;obtain⟨L,T,M,rfl⟩:=dR h2.own;go_enter func57,ntmps57;go_wp2_with fail;generalize ((w.alloc (ag (ctC κ (.slice qe P qd) (.slice L T M)) 61)).alloc (ag (di op) 54)).alloc (ag #[V H 0,af Y 0 0,af Y 0 0] 61)=w3 at *;replace F:=F.aw (bZ bS);refine aH (S:=λf=>D (w.heap.size+1+1) w3.drew f) (E:=λ_=>X) zK ?_;generalize w3.drew=w4 at *;have I:=F.k2.lt;have i:w.heap.size<w.heap.size+1+1:=zO;have d:w.heap.size+1<w.heap.size+1+1:=zO;obtain⟨o,u,s⟩:=cE F.k0;have n:=F.k1.cell 0;have m:=F.k1.cell 1;have q:=F.k1.cell 2;have t:=F.k1.cell 3;simp at o u s n m q t;have N:D (w.heap.size+1+1) w4 w4:=bS;refine wTq 1 [(0,7,.agg (ctC κ (.slice qe P qd) (.slice L T M)))] ?_ N ?_
 ·intro f a;have e0:=(a.cell (p:=⟨w.heap.size,0,Y⟩) i).trans o;have U:=(a.cell (p:=⟨w.heap.size,1,Y⟩) i).trans u;have e2:=(a.cell (p:=⟨w.heap.size,2,Y⟩) i).trans s;have e3:=(a.cell (p:=⟨w.heap.size+1,0,Y⟩) d).trans n;have e4:=(a.cell (p:=⟨w.heap.size+1,1,Y⟩) d).trans m;have qf:=(a.cell (p:=⟨w.heap.size+1,2,Y⟩) d).trans q;have qj:=(a.cell (p:=⟨w.heap.size+1,3,Y⟩) d).trans t;exact zT
 refine wOq 1 (λK j=>?_);go_simp;refine(Ho κ c ok _ _ (qh.aw F.hb) hR hl).mono ?_;rintro e w5 ⟨rfl,l⟩;replace F:=F.aw l;have k:D (w.heap.size+1+1) w4 w5:=l.mono (ed I);refine sO j (λ_=>k) ?_;refine wTq 2 [(2,9,ah X),(3,10,ah X)] ?_ k ?_
 ·intro f a;exact zT
 refine wTq 4 [(4,11,ae (J ⟨w.heap.size+1,0,Y⟩)),(5,12,V H op.kind),(7,14,ae (J ⟨w.heap.size,0,Y⟩)),(8,15,V H κ)] ?_ k ?_
 ·intro f a;have e0:=(a.cell (p:=⟨w.heap.size,0,Y⟩) i).trans o;have U:=(a.cell (p:=⟨w.heap.size,1,Y⟩) i).trans u;have e2:=(a.cell (p:=⟨w.heap.size,2,Y⟩) i).trans s;have e3:=(a.cell (p:=⟨w.heap.size+1,0,Y⟩) d).trans n;have e4:=(a.cell (p:=⟨w.heap.size+1,1,Y⟩) d).trans m;have qf:=(a.cell (p:=⟨w.heap.size+1,2,Y⟩) d).trans q;have qj:=(a.cell (p:=⟨w.heap.size+1,3,Y⟩) d).trans t;exact zT
 refine wOq 6 (λK j=>?_);go_simp;refine(ra op.kind _).mono ?_;rintro e w6 ⟨rfl,rfl⟩;rw[hof];refine sO j (λ_=>k) ?_;refine wTq 2 [(9,16,ah X),(10,17,ah X)] ?_ k ?_
 ·intro f a;exact zT
 refine aG zK ?_ _;go_wp2_with fail;replace F:=F.aw (bZ bS);refine aH (S:=λf=>D (w.heap.size+1+1) w6.drew f) (E:=λ_=>X) zK ?_;generalize w6.drew=w4 at *;have I:=F.k2.lt;have i:w.heap.size<w.heap.size+1+1:=zO;have d:w.heap.size+1<w.heap.size+1+1:=zO;obtain⟨o,u,s⟩:=cE F.k0;have n:=F.k1.cell 0;have m:=F.k1.cell 1;have q:=F.k1.cell 2;have t:=F.k1.cell 3;simp at o u s n m q t;have N:D (w.heap.size+1+1) w4 w4:=bS;refine wTq 4 [(1,20,ae (J ⟨w.heap.size+1,0,Y⟩)),(2,21,V H op.kind),(4,23,.agg (ctC κ (.slice qe P qd) (.slice L T M))),(5,24,.agg (di op))] ?_ N ?_
 ·intro f a;have e0:=(a.cell (p:=⟨w.heap.size,0,Y⟩) i).trans o;have U:=(a.cell (p:=⟨w.heap.size,1,Y⟩) i).trans u;have e2:=(a.cell (p:=⟨w.heap.size,2,Y⟩) i).trans s;have e3:=(a.cell (p:=⟨w.heap.size+1,0,Y⟩) d).trans n;have e4:=(a.cell (p:=⟨w.heap.size+1,1,Y⟩) d).trans m;have qf:=(a.cell (p:=⟨w.heap.size+1,2,Y⟩) d).trans q;have qj:=(a.cell (p:=⟨w.heap.size+1,3,Y⟩) d).trans t;exact zT
 refine wOq 0 (λK j=>?_);go_simp;refine(C5 _).mono ?_;rintro e w5 ⟨rfl,l⟩;replace F:=F.aw l;have k:D (w.heap.size+1+1) w4 w5:=l.mono (ed I);refine sO j (λ_=>k) ?_;refine wTq 1 [(3,22,fnV (C6 op.kind))] ?_ k ?_
 ·intro f a
  (repeat' (first|exact bd|refine al ⟨_,Z,.inl ⟨Z,?_⟩⟩ ?_))
  exact Ol O Z Z Z f
 refine wOq 6 (λK j=>?_);go_simp;rw[OB];refine Calls.mono (show Calls ao (C6 op.kind) _ _ _ from eff_any O qg hR hl (λb hb=>⟨fC b (aF F.hb.size hb),by have:=l.size;omega⟩) ((qh.off (g:=w.heap.size+1+1) zO).aw F.hb)) ?_;rintro e w6 ⟨v',rfl,hC,yA⟩;replace F:=F.aw yA;have Q:D (w.heap.size+1+1) w4 w6:=k.trans (yA.mono (ed (aZ I l.size)));obtain⟨qb,qc,rfl,g1,qi⟩:=hC;obtain⟨B,m0,qa,rfl⟩:=dR g1.own;obtain⟨A,C,z,rfl⟩:=dR qi.own;refine sO j (λ_=>Q) ?_;refine wTq 3 [(7,26,.agg (ctC κ (.slice B m0 qa) (.slice A C z))),(8,27,V H (doS op c).2.1),(9,28,ah (doS op c).2.2)] ?_ Q ?_
 ·intro f a;exact zT
 have l2:=F.k2.lt;obtain⟨f0,f1,f2⟩:=fE F.k2;obtain⟨d0,d1,d2⟩:=cE F.k2;simp at d0 d1 d2;have HF:=aj F;refine wOq 10 (λK j=>?_);go_simp;have F:=HF.out;have kS:=fW F.k2 (V H κ) (.slice B m0 qa) (.slice A C z);have hS7:D (w.heap.size+1+1) w4 (iK w6 (w.heap.size+1+1) (V H κ) (.slice B m0 qa) (.slice A C z)):=((Q.setCell (p:=⟨w.heap.size+1+1,0,Y⟩) (aq _) _).setCell (p:=⟨w.heap.size+1+1,1,Y⟩) (aq _) _).setCell (p:=⟨w.heap.size+1+1,2,Y⟩) (aq _) _;have hbS:=dW F.hb (g:=w.heap.size+1+1) zO (V H κ) (.slice B m0 qa) (.slice A C z);refine sO j (λ_=>hS7) ?_;refine wTq 2 [(11,5,V H (doS op c).2.1),(12,6,ah (doS op c).2.2)] ?_ hS7 ?_
 ·intro f a;exact zT
 refine aG zK ?_ _;go_wp2_with fail;exact mo (x:=V H (doS op c).2.1) (y:=ah (doS op c).2.2) Z Z Z Z Z kS Z ⟨_,Z,⟨_,_,Z,g1.iK _ _ _,qi.iK _ _ _⟩,hbS⟩
structure FrD (w w':W) (v0 v1 v2:I) (x:cd):Prop where
 k0:Bk w' w.heap.size 61 #[v0,v1,v2]
 k1:Bk w' (w.heap.size+1) 56 (cB x)
 k2:Bk w' (w.heap.size+1+1) 61 (ctC 0 (af Y 0 0) (af Y 0 0))
 hb:D w.heap.size w w'
theorem frD_ok(w:W)(κ:Int)(b a:I)(x:cd):FrD w (((w.alloc (ag (ctC κ b a) 61)).alloc (ag (cB x) 56)).alloc (ag #[V H 0,af Y 0 0,af Y 0 0] 61)) (V H κ) b a x:=
 ⟨((Bk.made w 61 (ctC κ b a)).alloc _).alloc _,(Bk.new (w.alloc (ag (ctC κ b a) 61)) (g:=w.heap.size+1) zS 56 (cB x)).alloc _,Bk.new _ zS _ _,aA (aA (aA bS _) _) _⟩
theorem FrD.aw{w b:W}(h:FrD w b v0 v1 v2 x)(a:D b.heap.size b d):FrD w d v0 v1 v2 x:=
 ⟨h.k0.aw a,h.k1.aw a,h.k2.aw a,aE h.hb a⟩
theorem JM{w:W}{g g':Nat}{t:bM}{cs:Array I}(h:Bk w g t cs)(d:g≠g')(a b c:I):Bk (iK w g' a b c) g t cs:=((h.other (p:=⟨g',0,Y⟩) d a).other (p:=⟨g',1,Y⟩) d b).other (p:=⟨g',2,Y⟩) d c
theorem FrD.set{w:W}(h:FrD w d v0 v1 v2 x)(a b c:I):FrD w (iK d w.heap.size a b c) a b c x:=
 ⟨fW h.k0 a b c,JM h.k1 M _ _ _,JM h.k2 M _ _ _,dW h.hb (aq _) _ _ _⟩
theorem C8(κ:Int)(c:Ct)(x:cd)(ok:Nat->Prop)(v:Value)(w:World)(fC:∀b,w.heap.size<=b->ok b)(h:hY w ok κ c v)(hR:gS κ c)(hl:c.vs.length<=10000)(hk:1<=x.op.kind/\x.op.kind<=7)(hκ:kof x.op=κ):
  Calls ao 36 #[v,z8 x] w λe w'=>∃v',e=ai (.tuple #[v',ah (jT x c)])/\hY w' ok κ (doS x.op c).1 v'/\D w.heap.size w w':=by
 have h0:=(h.off (g:=w.heap.size+1+1) zO).off (g:=w.heap.size) (aq _);obtain⟨vk,vs,rfl,h1,h2⟩:=h;have F:=frD_ok w κ vk vs x;obtain⟨Gk,nk,dk,rfl⟩:=dR h1.own;obtain⟨Gs,ns,ds,rfl⟩:=dR h2.own;go_enter func36,ntmps36;go_wp2_with fail;generalize ((w.alloc (ag (ctC κ (.slice Gk nk dk) (.slice Gs ns ds)) 61)).alloc (ag (cB x) 56)).alloc (ag #[aa H 0,af Y 0 0,af Y 0 0] 61)=w3 at *;have lW:=F.k2.lt;refine(do_any κ c x.op _ _ w3 (λb hb=>⟨⟨fC b (aF F.hb.size hb),zO⟩,zO⟩) (h0.aw F.hb) hR hl hk hκ).mono ?_;rintro e w4 ⟨v',rfl,hC,tT⟩;replace F:=F.aw tT;obtain⟨vk,vs,rfl,y,t⟩:=hC;obtain⟨j,m0,l,rfl⟩:=dR y.own;obtain⟨i,k,f,rfl⟩:=dR t.own;clear h0 tT lW;generalize hd:doS x.op c=d at *;obtain⟨c',M,Q⟩:=d;have HT:jT x c=(decide (M=x.val)&&(Q==x.is)):=by unfold jT;rw[hd]
 have P:=aj (al HT hd);clear hd HT;obtain⟨s,z,u⟩:=cE F.k0;obtain⟨I,qb,qc⟩:=fE F.k0;have l0:=F.k0.lt;simp at s z u;go_wp2_with fail;clear s z u I qb qc l0;replace F:=F.set (aa H κ) (.slice j m0 l) (.slice i k f);replace y:=y.iK (aa H κ) (.slice j m0 l) (.slice i k f);replace t:=t.iK (aa H κ) (.slice j m0 l) (.slice i k f);replace F:=F.aw (bZ bS);replace y:=y.aw (bZ bS);replace t:=t.aw (bZ bS);simp only[iK]at F y t;generalize hWW:((w4.setCell ⟨w.heap.size,0,Y⟩ (aa H κ)).setCell ⟨w.heap.size,1,Y⟩ (.slice j m0 l)).setCell ⟨w.heap.size,2,Y⟩ (.slice i k f)=WW at *;refine aH (S:=λw'=>D (w.heap.size+1+1) WW.drew w') (E:=λ_=>X) zK ?_;clear hWW;generalize WW.drew=w4 at *;have lW:=F.k2.lt;have m:w.heap.size<w.heap.size+1+1:=zO;have q:w.heap.size+1<w.heap.size+1+1:=zO;obtain⟨s,z,u⟩:=cE F.k0;have qd:=F.k1.cell 5;have N:=F.k1.cell 6;simp at s z u qd N;have n:D (w.heap.size+1+1) w4 w4:=bS;by_cases L:M=x.val;rotate_left
 ·have gv:(M==x.val)=X:=by simp[L]
  have o:jT x c=X:=by rw[P.out.1,decide_eq_false L,Bool.false_and]
  replace o:=aj o;clear L;refine wTq 6 [(0,16,.agg (ctC κ (.slice j m0 l) (.slice i k f))),(1,17,aa H M),(2,18,ae (J ⟨w.heap.size+1,5,Y⟩)),(3,19,aa H x.val),(4,20,ah X),(5,21,ah X)] ?_ n ?_
  ·intro w' a;have e0:=(a.cell (p:=⟨w.heap.size,0,Y⟩) m).trans s;have W:=(a.cell (p:=⟨w.heap.size,1,Y⟩) m).trans z;have qf:=(a.cell (p:=⟨w.heap.size,2,Y⟩) m).trans u;have qg:=(a.cell (p:=⟨w.heap.size+1,5,Y⟩) q).trans qd;have qh:=(a.cell (p:=⟨w.heap.size+1,6,Y⟩) q).trans N;exact zT
  refine wTq 4 [(6,22,undef),(7,23,undef),(8,24,undef),(9,25,undef)] ?_ n ?_
  ·intro w' a
   (repeat' (first|exact bd|refine al ⟨_,Z,.inr ⟨Z,Z⟩⟩ ?_))
  refine wTq 1 [(10,26,ah X)] ?_ n ?_
  ·intro w' a;exact zT
  have qe:=F.k2.lt;obtain⟨I,qb,qc⟩:=fE F.k2;obtain⟨G,B,C⟩:=cE F.k2;simp at G B C;have V:=aj F;clear F;refine wOq 11 (λK A=>?_);go_simp;have F:=V.out;have U:=fW F.k2 (aa H κ) (.slice j m0 l) (.slice i k f);have qa:D (w.heap.size+1+1) w4 (iK w4 (w.heap.size+1+1) (aa H κ) (.slice j m0 l) (.slice i k f)):=((n.setCell (p:=⟨w.heap.size+1+1,0,Y⟩) (aq _) _).setCell (p:=⟨w.heap.size+1+1,1,Y⟩) (aq _) _).setCell (p:=⟨w.heap.size+1+1,2,Y⟩) (aq _) _;have T:=dW F.hb (g:=w.heap.size+1+1) zO (aa H κ) (.slice j m0 l) (.slice i k f);refine sO A (λ_=>qa) ?_;clear A K qe I qb qc G B C;refine wTq 1 [(12,5,ah X)] ?_ qa ?_
  ·intro w' a;exact zT
  refine aG zK ?_ _;go_wp2_with fail;exact aS (v:=.tuple #[_,ah X]) (results_cell_tmp Z _ _ _ _ _ _ _ _ Z Z U Bz Z zK) Z ⟨_,by rw[o.out],by rw[P.out.2];exact⟨_,_,Z,y.iK _ _ _,t.iK _ _ _⟩,T⟩
 have gv:(M==x.val)=O:=by simp[L]
 by_cases hi:Q=x.is
 ·have gi:(Q==x.is)=O:=by simp[hi]
  have o:jT x c=O:=by rw[P.out.1,decide_eq_true L,gi];rfl
  replace o:=aj o;clear L hi;refine wTq 6 [(0,16,.agg (ctC κ (.slice j m0 l) (.slice i k f))),(1,17,aa H M),(2,18,ae (J ⟨w.heap.size+1,5,Y⟩)),(3,19,aa H x.val),(4,20,ah O),(5,21,ah O)] ?_ n ?_
  ·intro w' a;have e0:=(a.cell (p:=⟨w.heap.size,0,Y⟩) m).trans s;have W:=(a.cell (p:=⟨w.heap.size,1,Y⟩) m).trans z;have qf:=(a.cell (p:=⟨w.heap.size,2,Y⟩) m).trans u;have qg:=(a.cell (p:=⟨w.heap.size+1,5,Y⟩) q).trans qd;have qh:=(a.cell (p:=⟨w.heap.size+1,6,Y⟩) q).trans N;exact zT
  refine wTq 4 [(6,22,.bool Q),(7,23,ae (J ⟨w.heap.size+1,6,Y⟩)),(8,24,.bool x.is),(9,25,ah O)] ?_ n ?_
  ·intro w' a;have e0:=(a.cell (p:=⟨w.heap.size,0,Y⟩) m).trans s;have W:=(a.cell (p:=⟨w.heap.size,1,Y⟩) m).trans z;have qf:=(a.cell (p:=⟨w.heap.size,2,Y⟩) m).trans u;have qg:=(a.cell (p:=⟨w.heap.size+1,5,Y⟩) q).trans qd;have qh:=(a.cell (p:=⟨w.heap.size+1,6,Y⟩) q).trans N;exact zT
  refine wTq 1 [(10,26,ah O)] ?_ n ?_
  ·intro w' a;exact zT
  have qe:=F.k2.lt;obtain⟨I,qb,qc⟩:=fE F.k2;obtain⟨G,B,C⟩:=cE F.k2;simp at G B C;have V:=aj F;clear F;refine wOq 11 (λK A=>?_);go_simp;have F:=V.out;have U:=fW F.k2 (aa H κ) (.slice j m0 l) (.slice i k f);have qa:D (w.heap.size+1+1) w4 (iK w4 (w.heap.size+1+1) (aa H κ) (.slice j m0 l) (.slice i k f)):=((n.setCell (p:=⟨w.heap.size+1+1,0,Y⟩) (aq _) _).setCell (p:=⟨w.heap.size+1+1,1,Y⟩) (aq _) _).setCell (p:=⟨w.heap.size+1+1,2,Y⟩) (aq _) _;have T:=dW F.hb (g:=w.heap.size+1+1) zO (aa H κ) (.slice j m0 l) (.slice i k f);refine sO A (λ_=>qa) ?_;clear A K qe I qb qc G B C;refine wTq 1 [(12,5,ah O)] ?_ qa ?_
  ·intro w' a;exact zT
  refine aG zK ?_ _;go_wp2_with fail;exact aS (v:=.tuple #[_,ah O]) (results_cell_tmp Z _ _ _ _ _ _ _ _ Z Z U Bz Z zK) Z ⟨_,by rw[o.out],by rw[P.out.2];exact⟨_,_,Z,y.iK _ _ _,t.iK _ _ _⟩,T⟩
 have gi:(Q==x.is)=X:=by simp[hi]
 have o:jT x c=X:=by rw[P.out.1,gi,Bool.and_false]
 replace o:=aj o;clear L hi;refine wTq 6 [(0,16,.agg (ctC κ (.slice j m0 l) (.slice i k f))),(1,17,aa H M),(2,18,ae (J ⟨w.heap.size+1,5,Y⟩)),(3,19,aa H x.val),(4,20,ah O),(5,21,ah O)] ?_ n ?_
 ·intro w' a;have e0:=(a.cell (p:=⟨w.heap.size,0,Y⟩) m).trans s;have W:=(a.cell (p:=⟨w.heap.size,1,Y⟩) m).trans z;have qf:=(a.cell (p:=⟨w.heap.size,2,Y⟩) m).trans u;have qg:=(a.cell (p:=⟨w.heap.size+1,5,Y⟩) q).trans qd;have qh:=(a.cell (p:=⟨w.heap.size+1,6,Y⟩) q).trans N;exact zT
 refine wTq 4 [(6,22,.bool Q),(7,23,ae (J ⟨w.heap.size+1,6,Y⟩)),(8,24,.bool x.is),(9,25,ah X)] ?_ n ?_
 ·intro w' a;have e0:=(a.cell (p:=⟨w.heap.size,0,Y⟩) m).trans s;have W:=(a.cell (p:=⟨w.heap.size,1,Y⟩) m).trans z;have qf:=(a.cell (p:=⟨w.heap.size,2,Y⟩) m).trans u;have qg:=(a.cell (p:=⟨w.heap.size+1,5,Y⟩) q).trans qd;have qh:=(a.cell (p:=⟨w.heap.size+1,6,Y⟩) q).trans N;exact zT
 refine wTq 1 [(10,26,ah X)] ?_ n ?_
 ·intro w' a;exact zT
 have qe:=F.k2.lt;obtain⟨I,qb,qc⟩:=fE F.k2;obtain⟨G,B,C⟩:=cE F.k2;simp at G B C;have V:=aj F;clear F;refine wOq 11 (λK A=>?_);go_simp;have F:=V.out;have U:=fW F.k2 (aa H κ) (.slice j m0 l) (.slice i k f);have qa:D (w.heap.size+1+1) w4 (iK w4 (w.heap.size+1+1) (aa H κ) (.slice j m0 l) (.slice i k f)):=((n.setCell (p:=⟨w.heap.size+1+1,0,Y⟩) (aq _) _).setCell (p:=⟨w.heap.size+1+1,1,Y⟩) (aq _) _).setCell (p:=⟨w.heap.size+1+1,2,Y⟩) (aq _) _;have T:=dW F.hb (g:=w.heap.size+1+1) zO (aa H κ) (.slice j m0 l) (.slice i k f);refine sO A (λ_=>qa) ?_;clear A K qe I qb qc G B C;refine wTq 1 [(12,5,ah X)] ?_ qa ?_
 ·intro w' a;exact zT
 refine aG zK ?_ _;go_wp2_with fail;exact aS (v:=.tuple #[_,ah X]) (results_cell_tmp Z _ _ _ _ _ _ _ _ Z Z U Bz Z zK) Z ⟨_,by rw[o.out],by rw[P.out.2];exact⟨_,_,Z,y.iK _ _ _,t.iK _ _ _⟩,T⟩
end
section
open Go.RowKit
attribute [local go_sem ↓] aQ aR
theorem Hs(L:List Int)(x:Int)(A:Option Addr)(n c:Nat)(w:W)(h:eT w w.heap.size A L)(s:L.length=n)(j:n<=10000)(g:x∉L):U ao 58 #[.slice A n c,V H x] w (JV (V H (-1)) w):=by
 go_enter func58,ntmps58;go_wp2_with fail;go_loopw [8] (λd wr=>∃k m:Nat,d=V H (k:Nat)/\k<=n/\wr=w.drewN m) (λd _=>n-(intOf d).toNat)
 case atStart=>exact⟨0,0,Z,aN _,Z⟩
 obtain⟨k,m,rfl,v,rfl⟩:=hrel;by_cases q:k<n
 ·have i:decide ((k:Int)<n)=O:=zP;obtain⟨b,o,rfl,t,f⟩:=h M;obtain⟨z,a⟩:∃z,L[k]? =J z:=⟨_,aD M⟩;have y:=f _ _ a;have l:(x==z)=X:=by
   simp;intro e;exact g (e ▸ aU a)
  have u:(k:Int)<n:=M;clear a f;go_wp2_with fail;exact⟨⟨k+1,m,by go_num,M,Z⟩,by simp[intOf];omega⟩
 have i:decide ((k:Int)<n)=X:=zP;go_wp2_with fail;go_ret;exact⟨Z,m,Z⟩
theorem yh(L:List Int)(x:Int)(A:Option Addr)(n c:Nat)(w:W)(h:eT w w.heap.size A L)(d:L.length=n)(b:n<=10000)(a:x∉L):U ao 37 #[.slice A n c,V H x] w (JV (ah X) w):=by
 go_enter func37,ntmps37;go_wp2_with fail;refine(Hs L x A n c w h d b a).mono ?_;rintro e f ⟨rfl,m,rfl⟩;go_wp2_with fail;go_ret;exact⟨rfl,m,rfl⟩
theorem Mh{w:W}{B k:Nat}{A:Option Addr}{L:List Int}(h:eT w B A L):eT w B A (L.take k):=λc=>by
 obtain⟨b,o,e,d,f⟩:=h (by rw[dg]at c;omega);refine⟨b,o,e,d,λj r a=>f j r ?_⟩;rw[List.getElem?_take]at a;split at a
 ·exact a
 cases a
theorem B9(b of len cap n:Nat)(h:n<=cap)(a:0<cap)(w:W):(Instr.sliceAt 35 (af (J ⟨b,of,Y⟩) len cap) Y (J (V H (n:Int))) Y).run ao w= .ok (af (J ⟨b,of,Y⟩) n cap) w:=by
 refine(run_sliceAt_slice (P:=ao) (w:=w) 35 _ _ _ _ zK).trans ?_;refine(run_slice_h (P:=ao) (w:=w) 35 _ len cap zK .i64 n M M).trans ?_;rw[show (sizeOf (Tryz.prog.elem 35)).run ao w= .ok 1 w by kernel_rfl];simp only[bC,sliced,BA,Nat.sub_zero];rw[if_neg M];rfl
variable {g i left m:Nat} {x:cd} {o:Oper} {a:Act}
structure dN (go:Nat) (ga:Option Nat) (w w':W):Prop where
 os:w'.os=w.os
 tape:w'.tape=w.tape
 output:w'.output=w.output
 size:w.heap.size<=w'.heap.size
 block:∀i,i<w.heap.size->i≠go->ga≠J i->w'.heap[i]? =w.heap[i]?
section
variable {w w' w2:W} {go gl gs B:Nat} {ga gb:Option Nat} {own:List cd} {G:Option Addr} {n cc:Nat} {v v':I} {L L':List Int} {κ:Int} {c:Ct} {ok ok':Nat->Prop} {cv:I}
theorem dN.refl(go:Nat)(ga:Option Nat)(w:W):dN go ga w w:=⟨Z,Z,Z,aq _,λ_ _ _ _=>Z⟩
theorem dN.of(h:D w.heap.size w w'):dN go ga w w':=⟨h.os,h.tape,h.output,h.size,λi hi _ _=>h.block i hi⟩
theorem dN.trans(h:dN go ga w w')(a:dN go gb w' w2)(g:∀k,gb=J k->ga=J k\/w.heap.size<=k):dN go ga w w2:=
 ⟨a.os.trans h.os,a.tape.trans h.tape,a.output.trans h.output,aF h.size a.size,λi hi b d=>(a.block i (aZ hi h.size) b (λe=>by
  rcases g i e with f|f
  ·exact d f
  omega)).trans (h.block i hi b d)⟩
theorem dN.bk{t:bM}{cs:Array I}(h:dN go ga w w')(k:Bk w g t cs)(a:g≠go)(b:ga≠J g):Bk w' g t cs:=(h.block g k.lt a b).trans k
structure SkW (gl go gs B:Nat) (own:List cd) (G:Option Addr) (n cc:Nat) (w:W) (v:I) (L:List Int):Prop where
 kl:Bk w gl 40 #[.slice G n cc]
 oc:dA w 0 (.slice G n cc) own
 ks:Bk w gs 90 #[.func (.func 34) #[] #[ptr gl,ptr go,ptr gs]]
 ko:Bk w go 35 #[v]
 ov:aX w B v L
theorem SkW.aw(h:SkW gl go gs B own G n cc w v L)(a:D w.heap.size w w'):SkW gl go gs B own G n cc w' v L:=⟨h.kl.aw a,h.oc.aw a,h.ks.aw a,h.ko.aw a,aY h.ov a⟩
structure SkB (gl go gs B:Nat) (G:Option Addr) (n cc:Nat):Prop where
 lo:gl≠go
 so:gs≠go
 lb:gl<B
 sb:gs<B
 ob:go<B
 cb:∀b,(I.slice G n cc).ownBlock=J b->b<B/\b≠go
end
theorem gF{x:vn}{w:W}{ty:bM}{of:Nat}{v:I}(ho:o.op= .load ty x)(b:a.eval x=ae (J ⟨g,of,Y⟩))(d:(cL ty ⟨g,of,Y⟩).run ao w= .ok v w):(nO a.eval o).run ao w= .ok (.value v) w:=by
 unfold nO;simp only[ho,b,Instr.loadAt,uS,cD,dF,bC,d]
def py(own:List cd)(left i:Nat)(x:cd)(j:Nat):Bool:=decide (j≠i)&&left.testBit j&&xO own j x
theorem JN:∀(m:Fin 512) (i:Fin 9),((bits .and .u64 ((m.val:Int) / 2 ^ i.val) 1==0)=!m.val.testBit i.val)/\((bits .and .u64 ((m.val:Int) / 2 ^ i.val) 1==1)=m.val.testBit i.val):=by decide+kernel
theorem OI(a:m<512)(hi:i<9):(bits .and .u64 ((m:Int) / 2 ^ i) 1==0)=!m.testBit i:=(JN ⟨m,a⟩ ⟨i,hi⟩).1
theorem bit_one(a:m<512)(hi:i<9):(bits .and .u64 ((m:Int) / 2 ^ i) 1==1)=m.testBit i:=(JN ⟨m,a⟩ ⟨i,hi⟩).2
def SkPost(gl go gs B:Nat)(own:List cd)(G:Option Addr)(n cc:Nat)(w:W)(v:I)(L:List Int)(r:Option (List Nat))(e:jK)(w':W):Prop:=
 ∃v' L',e=ai (.bool r.isSome)/\SkW gl go gs B own G n cc w' v' L'/\dN go v.ownBlock w w'/\(∀k,v'.ownBlock=J k->v.ownBlock=J k\/w.heap.size<=k)/\L'=L++(r.getD []).map (λ(i:Nat)=>(i:Int))
section
variable {w w':W} {go gl gs B:Nat} {ga gb:Option Nat} {own:List cd} {G:Option Addr} {n cc:Nat} {v v':I} {L L':List Int} {κ:Int} {c:Ct} {ok ok':Nat->Prop} {cv:I}
theorem dN.grown(h:w.grownBy w' gb):dN go gb w w':=⟨h.os,h.tape,h.output,h.size,λi hi _ a=>h.block i hi λe=>a e.symm⟩
theorem dN.set(h:dN go ga w w')(i:Nat)(u:I):dN go ga w (w'.setCell ⟨go,i,Y⟩ u):=
 ⟨h.os,h.tape,h.output,by simpa using h.size,λj d a b=>(jL w' ⟨go,i,Y⟩ u j a).trans (h.block j d a b)⟩
theorem nr{base sz:Nat}{e:bM}{xs:List I}(h:w.ownsRow base e sz v m xs)(K:dN go ga w w')(i:∀b,v.ownBlock=J b->b≠go/\ga≠J b):w'.ownsRow base e sz v m xs:=by
 refine⟨h.1,?_⟩;rcases h.2 with l|⟨b,k,g,e,j,a,r⟩
 ·exact .inl l
 subst e;obtain⟨d,f⟩:=i b Z;exact .inr ⟨b,k,g,Z,j,(K.block b (a9.1 a).1 d f).trans a,r⟩
theorem RdI.move{zs:List Int}(h:RdI w ok v zs)(K:dN go ga w w')(d:∀b,b<w.heap.size->ok b->b≠go/\ga≠J b)(e:∀b,b<w.heap.size->ok b->ok' b):RdI w' ok' v zs:=
 ⟨nr h.1 K λb a=>d b (W.ownsRow.lt h.1 b a).2 (h.2 b a),λb a=>e b (W.ownsRow.lt h.1 b a).2 (h.2 b a)⟩
theorem hY.move(h:hY w ok κ c cv)(K:dN go ga w w')(d:∀b,b<w.heap.size->ok b->b≠go/\ga≠J b)(f:∀b,b<w.heap.size->ok b->ok' b):hY w' ok' κ c cv:=by
 obtain⟨i,g,e,a,b⟩:=h;exact⟨i,g,e,a.move K d f,b.move K d f⟩
theorem SkW.move(S:SkW gl go gs B own G n cc w v L)(a:SkB gl go gs B G n cc)(K:dN go v.ownBlock w w')(g:Bk w' go 35 #[v'])(h:aX w' B v' L'):SkW gl go gs B own G n cc w' v' L':=by
 have d:∀b,b<B->v.ownBlock≠J b:=λb f e=>by
  have:=(W.ownsRow.lt S.ov b e).1;omega
 exact⟨K.bk S.kl a.lo (d _ a.lb),nr S.oc K λb f=>⟨(a.cb b f).2,d b (a.cb b f).1⟩,K.bk S.ks a.so (d _ a.sb),g,h⟩
theorem own_cut{y:Nat}{z:Int}(h:aX w y (.slice G (m+1) cc) (L++[z]))(b:L.length=m):aX w y (.slice G m cc) L/\m+1<=cc/\∃g,G=J ⟨g,0,Y⟩:=by
 subst b;rcases h.2 with⟨e,a⟩|⟨g,u,d,e,k,s,l,o,i,j⟩
 ·simp at a
 injection e with f t q;subst f q;refine⟨⟨by simp[ints],.inr ⟨g,cc,d,Z,k,s,M,o,i,?_⟩⟩,by simp at l;omega,g,Z⟩;have:=congrArg (List.take (L.length*1)) j;rw[List.take_take]at this;simp[ints]at this ⊢;rw[<- this]
end
theorem uJ{f:Array Oper}{rest:List Oper}{w:W}{Q:Exit->Act->W->Prop}(t:o.guard=Y)(s x:vn)(ho:o.op= .call { callee:=.builtin .append,args:=#[s,x],argTypes:=#[35,35] })(base:Nat)(v:I)(m:Nat)(L:List Int)(A:a.eval s=v)(D:aX w base v L)(k:L.length=m)(g:Nat)(z:Int)(l:a.eval x=af (J ⟨g,0,Y⟩) 1 1)(F:Bk w g 3 #[V H z])(K:m<=10000)(q:base<=w.heap.size)(h:∀b c' w',aX w' base (.slice b (m+1) c') (L++[z])->w.grownBy w' v.ownBlock->((I.slice b (m+1) c').ownBlock=v.ownBlock\/(I.slice b (m+1) c').ownBlock=J w.heap.size)->wpList ao f Q rest (a.put o.dst (.slice b (m+1) c')) w'):wpList ao f Q (o :: rest) a w:=by
 obtain⟨i,T⟩:=nB;subst k;refine dI w t s x 35 ho base 3 i (V H 0) 1 8 T.und T.info T.zero T.hsize T.hbytes T.hzs T.pos v L.length (ints L) A D ⟨g,0,Y⟩ 1 1 [V H z] l Z (λj u C=>by rw[gZ,ea,F.cell j];simpa using C) (by simp[aB]) (by simp only[sV];omega) M q ?_;intro v' w' d E _ y;have d:aX w' base v' (L++[z]):=by
  unfold aX;rw[bE]
  simpa[ints] using d
 obtain⟨b,c',e⟩:=bJ d;rw[bE]at e;have e:v'= .slice b (L.length+1) c':=e;subst e;exact h _ _ _ d E y
theorem ua{w w':W}{k:Nat}(a:g<w.heap.size)(h:∀(j:Nat) (v:I),(cB x)[j]? =J v->w.cell? ⟨g,k*10+j,Y⟩=J v)(d:D w.heap.size w w'):(cL 56 ⟨g,k*10,Y⟩).run ao w'= .ok (z8 x) w':=
 de w' g (k*10) 56 (cB x) _ (λj v b=>(d.cell (p:=⟨g,k*10+j,Y⟩) a).trans (h j v b)) underlying56 Z zK
theorem C2{f:Nat->Option (List Nat)}{n:Nat}{o:List Nat}(hi:i<n)(b:∀j,j<i->f j=Y)(h:f i=J o):(eF n).findSome? f=J o:=by
 refine List.findSome?_eq_some_iff.2 ⟨eF i,i,List.range' (i+1) (n-i-1),?_,h,λx a=>b x (lK.1 a)⟩;rw[List.range_eq_range',List.range_eq_range',<- List.range'_succ,show n=i+(n-i-1+1)by omega,<- List.range'_append_1];congr 1;simp
theorem KA{own:List cd}(h:∀j,j<own.length->py own left i x j=X):yo own left i x=O:=by
 unfold yo;rw[cJ];intro j a;have:=h j (lK.1 a);unfold py at this;rw[this];rfl
theorem Ii{own:List cd}{j:Nat}(b:j<own.length)(h:py own left i x j=O):yo own left i x=X:=by
 cases a:yo own left i x with
 | false=>rfl
 | true=>
  unfold yo at a;have:=cJ.1 a j (lK.2 b);unfold py at h;rw[h]at this;cases this
theorem Bj:∀(m:Fin 512) (i:Fin 9),m.val.testBit i.val=O->bits .andNot .u64 (m.val:Int) ((2:Int) ^ i.val)=((m.val-2 ^ i.val:Nat):Int):=by decide+kernel
theorem OJ(a:m<512)(hi:i<9)(h:m.testBit i=O):bits .andNot .u64 (m:Int) ((2:Int) ^ i)=((m-2 ^ i:Nat):Int):=Bj ⟨m,a⟩ ⟨i,hi⟩ h
theorem Af:∀i:Fin 10,IntKind.u64.wrap ((2:Int) ^ i.val)=(2:Int) ^ i.val:=by decide+kernel
theorem BJ(hi:i<10):IntKind.u64.wrap ((2:Int) ^ i)=(2:Int) ^ i:=Af ⟨i,hi⟩
end
section
open Go.RowKit
attribute [local go_sem ↓] aQ aR
theorem Mm(κ:Int)(own:List cd)(G:Option Addr)(n cc Q go qj B:Nat)(hn:own.length=n)(hn9:n<=9)(hB:SkB Q go qj B G n cc)(hko:∀x∈own,kof x.op=κ/\1<=x.op.kind/\x.op.kind<=7):
  ∀(left:Nat) (c:Ct) (cv:I) (w:W) (v:I) (L:List Int),left<512->gS κ c->c.vs.length+left<=1000->SkW Q go qj B own G n cc w v L->B<=w.heap.size->L.length+left<=1000->hY w (λi=>i≠go/\v.ownBlock≠J i) κ c cv->
  U ao 34 #[cv,.int .u64 (left:Nat),ptr Q,ptr go,ptr qj] w (SkPost Q go qj B own G n cc w v L (im own c left)):=by
 intro left;induction left using Nat.strongRecOn with
 | _ left ih=>
 intro c cv w v L h512 hR tR S JA hL hC;obtain⟨vk,vs,rfl,h1,h2⟩:=hC;have hvo:v.ownBlock≠J w.heap.size:=λe=>by
  have:=(W.ownsRow.lt S.ov _ e).2;omega
 have k0:=Bk.made w 61 (ctC κ vk vs);have q:=bA w (ag (ctC κ vk vs) 61);replace S:=S.aw q;have h0:hY (w.alloc (ag (ctC κ vk vs) 61)) (λi=>i≠go/\v.ownBlock≠J i) κ c (.agg (ctC κ vk vs)):=⟨vk,vs,Z,h1.aw q,h2.aw q⟩;obtain⟨Gk,nk,dk,rfl⟩:=dR h1.own;obtain⟨Gs,ns,ds,rfl⟩:=dR h2.own;clear h1 h2;by_cases hz:left=0
 ·subst hz;have hsk:im own c 0=J []:=by rw[lZ,if_pos Z]
  rw[hsk];go_enter func34,ntmps34;go_wp2_with fail;go_step3;go_wp2_with fail;rw[Exit.noGoto_ret];go_ret;exact⟨v,L,Z,S,dN.of q,λk e=>.inl e,zS⟩
 have g0:((left:Int)==0)=X:=zP;go_enter func34,ntmps34;go_wp2_with fail;generalize w.alloc (ag (ctC κ (.slice Gk nk dk) (.slice Gs ns ds)) 61)=qi at *;have d:=S.kl.cell 0;simp at d;go_step3;go_wp2_with fail;go_step3;go_wp2_with fail;clear d;have u:=N S;have hB1:B<=qi.heap.size:=aF JA q.size;have m:=N (al q (al k0 (al h0 (al hvo (al hL (al tR (al JA hz)))))));clear q k0 h0 hvo hL tR JA hz;go_loopw [8,18] (λv8 v18 wr=>v8=ah X/\∃i:Nat,i<=n/\v18=V H (i:Nat)/\(∀j,j<i->jX (im own) own c left j=Y)/\∃l,SkW Q go qj B own G n cc wr l L/\dN go v.ownBlock qi wr/\(∀k,l.ownBlock=J k->v.ownBlock=J k\/qi.heap.size<=k)) (λ_ v18 _=>n-(intOf v18).toNat)
 case atStart=>exact⟨Z,0,aN _,Z,λj hj=>absurd hj M,v,u.out,dN.refl _ _ _,λk e=>.inl e⟩
 obtain⟨rfl,i,hi,rfl,CN,l,S',K',hv'⟩:=hrel;clear u S;by_cases fH:i<n
 ·have g1:decide ((i:Int)<n)=O:=zP;have i1:(i:Int)<n:=M;obtain⟨x,hx⟩:∃x,own[i]? =J x:=⟨_,aD M⟩;obtain⟨g,rfl,-,hg,hc⟩:=S'.oc.at_ hx;go_upto_region 7 with (refine fG Z 56 (.tmp 21) Z g (i*10) Z (cB x) _ hc underlying56 Z zK ?_);have hbi:=OI h512 (i:=i) M;have hx0:=hx;clear hx hc;have S2:=S'.aw (bA wr (ag (cB x) 56));have kx:=Bk.made wr 56 (cB x);have kW:=bA wr (ag (cB x) 56);have z:jX (im own) own c left i=if left.testBit i&&yo own left i x&&jT x c then(im own (doS x.op c).1 (left-2 ^ i)).map (i :: ·)else Y:=by unfold jX;rw[hx0]
  have HX:=N (al hx0 z);clear hx0 z;cases A3:left.testBit i with
  | false=>
   rw[A3]at hbi;go_wp2_with fail;refine⟨⟨Z,i+1,M,by go_num,λj hj=>?_,l,S2,K'.trans (gb:=Y) (dN.of kW) (λk e=>by cases e),hv'⟩,by simp[intOf];omega⟩;by_cases e:j=i
   ·subst e;rw[HX.out.2,A3];rfl
   exact CN j M
  | true=>
   rw[A3]at hbi;have d:=S2.kl.cell 0;simp at d;go_wp2_with fail;clear d hbi;have hB2:B<=(wr.alloc (ag (cB x) 56)).heap.size:=aF hB1 (aF K'.size kW.size);have K2:dN go v.ownBlock qi (wr.alloc (ag (cB x) 56)):=K'.trans (gb:=Y) (dN.of kW) (λk e=>by cases e);have qc:=N (al K2 (al hv' CN));clear K2 hv' CN K' S' kW;generalize wr.heap.size=gx at *;generalize wr.alloc (ag (cB x) 56)=w2 at *;go_loopw [30] (λv30 w3=>∃j:Nat,j<=n/\v30=V H (j:Nat)/\D w2.heap.size w2 w3/\∀a,a<j->py own left i x a=X) (λv30 _=>n-(intOf v30).toNat)
   case atStart=>exact⟨0,aN _,Z,bS,λa T=>absurd T M⟩
   obtain⟨j,hj,rfl,f,KS⟩:=hrel;generalize wr=w3 at *;have d:=(S2.kl.aw f).cell 0;simp at d;by_cases hjn:j<n
   ·have g1:decide ((j:Int)<n)=O:=zP;have j1:(j:Int)<n:=M;have hjb:=bit_one h512 (i:=j) M;go_upto_region 11 with fail;by_cases hji:j=i
    ·have g2:((j:Int) != i)=X:=by simp[hji]
     have P:=N (show py own left i x j=X by unfold py;rw[decide_eq_false M];rfl);have hji2:(j:Int)=i:=M;refine aH (S:=λw'=>D w3.drew.heap.size w3.drew w') (E:=λ_=>X) zK ?_;replace f:=aE f (bD w3);clear d;generalize w3.drew=w4 at *;have rz:D w4.heap.size w4 w4:=bS;refine wTq 18 [(0,33,V H (j:Nat)),(1,34,V H (i:Nat)),(2,35,ah X),(3,36,ah X),(4,37,undef),(5,38,undef),(6,39,undef),(7,40,undef),(8,41,undef),(9,42,ah X),(10,43,ah X),(11,44,undef),(12,45,undef),(13,46,undef),(14,47,undef),(15,48,undef),(16,49,undef),(17,50,ah X)] ?_ rz ?_
     ·intro w' u;refine⟨⟨_,Z,.inl ⟨zK,?_⟩⟩,⟨_,Z,.inl ⟨zK,?_⟩⟩,⟨_,Z,.inl ⟨zK,?_⟩⟩,⟨_,Z,.inl ⟨zK,?_⟩⟩,⟨_,Z,.inr ⟨zK,Z⟩⟩,⟨_,Z,.inr ⟨zK,Z⟩⟩,⟨_,Z,.inr ⟨zK,Z⟩⟩,⟨_,Z,.inr ⟨zK,Z⟩⟩,⟨_,Z,.inr ⟨zK,Z⟩⟩,⟨_,Z,.inl ⟨zK,?_⟩⟩,⟨_,Z,.inl ⟨zK,?_⟩⟩,⟨_,Z,.inr ⟨zK,Z⟩⟩,⟨_,Z,.inr ⟨zK,Z⟩⟩,⟨_,Z,.inr ⟨zK,Z⟩⟩,⟨_,Z,.inr ⟨zK,Z⟩⟩,⟨_,Z,.inr ⟨zK,Z⟩⟩,⟨_,Z,.inr ⟨zK,Z⟩⟩,⟨_,Z,.inl ⟨zK,?_⟩⟩,bd⟩;all_goals exact zG
     refine aG zK ?_ _;go_wp2_with fail;refine⟨⟨j+1,M,by go_num,f,λa T=>?_⟩,by simp[intOf];omega⟩;by_cases e:a=j
     ·subst e;exact P.out
     exact KS a M
    have g2:((j:Int) != i)=O:=zP;have hji2:¬(j:Int)=i:=M;cases hbj:left.testBit j with
    | false=>
     rw[hbj]at hjb;have P:=N (show py own left i x j=X by unfold py;rw[hbj,Bool.and_false,Bool.false_and]);refine aH (S:=λw'=>D w3.drew.heap.size w3.drew w') (E:=λ_=>X) zK ?_;replace f:=aE f (bD w3);clear d;generalize w3.drew=w4 at *;have rz:D w4.heap.size w4 w4:=bS;refine wTq 18 [(0,33,V H (j:Nat)),(1,34,V H (i:Nat)),(2,35,ah O),(3,36,ah O),(4,37,.int .u64 (left:Nat)),(5,38,V H (j:Nat)),(6,39,.int .u64 ((left:Int) / 2 ^ j)),(7,40,.int .u64 (bits .and .u64 ((left:Int) / 2 ^ j) 1)),(8,41,ah X),(9,42,ah X),(10,43,ah X),(11,44,undef),(12,45,undef),(13,46,undef),(14,47,undef),(15,48,undef),(16,49,undef),(17,50,ah X)] ?_ rz ?_
     ·intro w' u;refine⟨⟨_,Z,.inl ⟨zK,?_⟩⟩,⟨_,Z,.inl ⟨zK,?_⟩⟩,⟨_,Z,.inl ⟨zK,?_⟩⟩,⟨_,Z,.inl ⟨zK,?_⟩⟩,⟨_,Z,.inl ⟨zK,?_⟩⟩,⟨_,Z,.inl ⟨zK,?_⟩⟩,⟨_,Z,.inl ⟨zK,?_⟩⟩,⟨_,Z,.inl ⟨zK,?_⟩⟩,⟨_,Z,.inl ⟨zK,?_⟩⟩,⟨_,Z,.inl ⟨zK,?_⟩⟩,⟨_,Z,.inl ⟨zK,?_⟩⟩,⟨_,Z,.inr ⟨zK,Z⟩⟩,⟨_,Z,.inr ⟨zK,Z⟩⟩,⟨_,Z,.inr ⟨zK,Z⟩⟩,⟨_,Z,.inr ⟨zK,Z⟩⟩,⟨_,Z,.inr ⟨zK,Z⟩⟩,⟨_,Z,.inr ⟨zK,Z⟩⟩,⟨_,Z,.inl ⟨zK,?_⟩⟩,bd⟩;all_goals exact zG
     refine aG zK ?_ _;go_wp2_with fail;refine⟨⟨j+1,M,by go_num,f,λa T=>?_⟩,by simp[intOf];omega⟩;by_cases e:a=j
     ·subst e;exact P.out
     exact KS a M
    | true=>
     rw[hbj]at hjb;obtain⟨y,hy⟩:∃y,own[j]? =J y:=⟨_,aD M⟩;obtain⟨g',BG,-,hgy,hcy⟩:=(S2.oc.aw f).at_ hy;injection BG with BG;injection BG with BG;subst BG;have P:=N (show py own left i x j=decide (y.last<x.first)by unfold py xO;rw[hbj,hy,decide_eq_true hji];rfl);have ql:=kx.aw f;replace hcy:∀(k:Nat) (v:I),(cB y)[k]? =J v->w3.drew.cell? ⟨g,j*10+k,Y⟩=J v:=hcy;replace ql:=ql.aw (bZ bS);replace d:w3.drew.cell? ⟨Q,0,Y⟩=J (af (J ⟨g,0,Y⟩) n cc):=d;replace hgy:g<w3.drew.heap.size:=hgy;clear hy;refine aH (S:=λw'=>D w3.drew.heap.size w3.drew w') (E:=λ_=>X) zK ?_;replace f:=aE f (bD w3);generalize w3.drew=w4 at *;have rz:D w4.heap.size w4 w4:=bS;refine wTq 16 [(0,33,V H (j:Nat)),(1,34,V H (i:Nat)),(2,35,ah O),(3,36,ah O),(4,37,.int .u64 (left:Nat)),(5,38,V H (j:Nat)),(6,39,.int .u64 ((left:Int) / 2 ^ j)),(7,40,.int .u64 (bits .and .u64 ((left:Int) / 2 ^ j) 1)),(8,41,ah O),(9,42,ah O),(10,43,ah O),(11,44,af (J ⟨g,0,Y⟩) n cc),(12,45,V H (j:Nat)),(13,46,ae (J ⟨g,j*10,Y⟩)),(14,47,.agg (cB y)),(15,48,.agg (cB x))] ?_ rz ?_
     ·intro w' u;have e1:=(u.cell (p:=⟨Q,0,Y⟩) (aZ hB.lb (aF hB2 f.size))).trans d;have kE:(cL 56 ⟨g,j*10,Y⟩).run ao w'= .ok (.agg (cB y)) w':=de w' g (j*10) 56 (cB y) _ (λk v hv=>(u.cell (p:=⟨g,j*10+k,Y⟩) hgy).trans (hcy k v hv)) underlying56 Z zK;have hlx:(cL 56 ⟨gx,0,Y⟩).run ao w'= .ok (.agg (cB x)) w':=a7 w' gx 56 56 (cB x) (0,0) _ (ql.aw u) underlying56 Z zK;refine⟨⟨_,Z,.inl ⟨zK,?_⟩⟩,⟨_,Z,.inl ⟨zK,?_⟩⟩,⟨_,Z,.inl ⟨zK,?_⟩⟩,⟨_,Z,.inl ⟨zK,?_⟩⟩,⟨_,Z,.inl ⟨zK,?_⟩⟩,⟨_,Z,.inl ⟨zK,?_⟩⟩,⟨_,Z,.inl ⟨zK,?_⟩⟩,⟨_,Z,.inl ⟨zK,?_⟩⟩,⟨_,Z,.inl ⟨zK,?_⟩⟩,⟨_,Z,.inl ⟨zK,?_⟩⟩,⟨_,Z,.inl ⟨zK,?_⟩⟩,⟨_,Z,.inl ⟨zK,?_⟩⟩,⟨_,Z,.inl ⟨zK,?_⟩⟩,⟨_,Z,.inl ⟨zK,?_⟩⟩,⟨_,Z,.inl ⟨zK,gF (x:=.tmp 46) zK zK kE⟩⟩,⟨_,Z,.inl ⟨zK,gF (x:=.tmp 10) zK zK hlx⟩⟩,bd⟩;all_goals exact zG
     clear hcy d ql hgy;refine wOq 16 (λK hK=>?_);go_simp;refine(xr y x _).mono ?_;rintro e w5 ⟨rfl,C⟩;refine sO hK (λ_=>C) ?_;clear hK K;replace f:=aE f C;have P:=P.out;generalize hp:decide (y.last<x.first)=p at *;clear hp;have P:=N P;refine wTq 1 [(17,50,.bool p)] ?_ C ?_
     ·intro w' u;refine⟨⟨_,Z,.inl ⟨zK,?_⟩⟩,bd⟩;all_goals exact zG
     refine aG zK ?_ _;cases p with
     | true=>
      go_wp2_with fail;refine⟨⟨Z,i+1,M,by go_num,λa T=>?_,l,S2.aw f,qc.out.1.trans (gb:=Y) (dN.of f) (λk e=>by cases e),qc.out.2.1⟩,by simp[intOf];omega⟩;by_cases e:a=i
      ·subst e;rw[HX.out.2,Ii M P.out,Bool.and_false,Bool.false_and];rfl
      exact qc.out.2.2 a M
     | false=>
      go_wp2_with fail;refine⟨⟨j+1,M,by go_num,f,λa T=>?_⟩,by simp[intOf];omega⟩;by_cases e:a=j
      ·subst e;exact P.out
      exact KS a M
   have g1:decide ((j:Int)<n)=X:=zP;have HM:=N (KA (own:=own) (left:=left) (i:=i) (x:=x) (λa T=>KS a M));have S3:=S2.aw f;have ql:=kx.aw f;have K3:dN go v.ownBlock qi w3:=qc.out.1.trans (gb:=Y) (dN.of f) (λk e=>by cases e);have hB3:B<=w3.heap.size:=aF hB2 f.size;have Jw:=hB.ob;have kc:Bk w3 w.heap.size 61 (ctC κ (.slice Gk nk dk) (.slice Gs ns ds)):=K3.bk m.out.2.1 (by have:=m.out.2.2.2.2.2.2.1;omega) m.out.2.2.2.1;have hv3:∀b,l.ownBlock=J b->B<=b/\b<w3.heap.size:=λb e=>W.ownsRow.lt S3.ov b e;have hC3:hY w3 (λi=>i≠go/\l.ownBlock≠J i) κ c (.agg (ctC κ (.slice Gk nk dk) (.slice Gs ns ds))):=m.out.2.2.1.move K3 (λb _ h=>⟨h.1,h.2⟩) (λb hb1 h=>⟨h.1,λe=>by
    rcases qc.out.2.1 b e with h1|h1
    ·exact h.2 h1
    omega⟩)
   have NV:=hko x (aU HX.out.1);clear KS f d;have qk:=N (al hko (al NV (al hR K3)));have HIH:=N ih;clear hko NV hR ih K3;go_wp2_with (first|(refine aM Z 61 (.tmp 5) Z w.heap.size Z 61 (ctC κ (.slice Gk nk dk) (.slice Gs ns ds)) (0,0) _ kc Bz Z zK ?_)|(refine aM Z 56 (.tmp 10) Z gx Z 56 (cB x) (0,0) _ ql underlying56 Z zK ?_));refine(C8 κ c x (λi=>i≠go/\l.ownBlock≠J i) _ w3 (λb q=>⟨M,λe=>by have:=(hv3 b e).2;omega⟩) hC3 qk.out.2.2.1 (by have:=m.out.2.2.2.2.2.1;omega) qk.out.2.1.2 qk.out.2.1.1).mono ?_;rintro e w4 ⟨cv',rfl,hC4,tT⟩;obtain⟨vk',vs',rfl,d,q2⟩:=hC4;obtain⟨qe,A,qb,rfl⟩:=dR d.own;obtain⟨qa,qd,qf,rfl⟩:=dR q2.own;have hC4:hY w4 (λi=>i≠go/\l.ownBlock≠J i) κ (doS x.op c).1 (.agg (ctC κ (.slice qe A qb) (.slice qa qd qf))):=⟨_,_,rfl,d,q2⟩;have S4:=S3.aw tT;have K4:dN go v.ownBlock qi w4:=qk.out.2.2.2.trans (gb:=Y) (dN.of tT) (λk e=>by cases e);have hB4:=aF hB3 tT.size;have hv4:∀b,l.ownBlock=J b->B<=b/\b<w4.heap.size:=λb e=>W.ownsRow.lt S4.ov b e;have kt:=Bk.made w4 61 (ctC κ (.slice qe A qb) (.slice qa qd qf));have C:=bA w4 (ag (ctC κ (.slice qe A qb) (.slice qa qd qf)) 61);clear d q2 hC3 tT S3 kc ql hv3;cases ht:jT x c with
   | false=>
    have z:jX (im own) own c left i=Y:=by rw[HX.out.2,ht,Bool.and_false];rfl
    have HR:=N z;clear z;go_wp2_with fail;refine⟨⟨Z,i+1,M,by go_num,λa T=>?_,_,S4.aw C,K4.trans (gb:=Y) (dN.of C) (λk e=>by cases e),qc.out.2.1⟩,by simp[intOf];omega⟩;by_cases e:a=i
    ·subst e;exact HR.out
    exact qc.out.2.2 a M
   | true=>
    have z:jX (im own) own c left i=(im own (doS x.op c).1 (left-2 ^ i)).map (i :: ·):=by rw[HX.out.2,ht,HM.out,A3];rfl
    have HR:=N z;clear z;go_upto_region 15 with fail;have S5:=S4.aw C;have K5:dN go l.ownBlock w4 (w4.alloc (ag (ctC κ (.slice qe A qb) (.slice qa qd qf)) 61)):=dN.of C;generalize w4.alloc (ag (ctC κ (.slice qe A qb) (.slice qa qd qf)) 61)=w5 at *;have HS:=N (al S4 (al K4 (al hC4 kt)));have hB5:=aF hB4 C.size;have NF:=C.size;have ko:=S5.ko;have ov:=S5.ov;have d:=ko.cell 0;simp at d;have k6:=Bk.made w5 3 #[V H (i:Nat)];have qm:=bA w5 (ag #[V H (i:Nat)] 3);have hL9:L.length<=10000:=by have:=m.out.2.2.2.2.1;omega
    clear S4 K4 hC4 kt;go_upto_region 16 with (at_builtin;go_must (refine uJ Z (.tmp 60) (.tmp 62) Z B l L.length L Z (aY ov qm) Z w5.heap.size (i:Nat) Z k6 hL9 (aF hB5 qm.size) ?_;intro s t qn pq NY xi;have ko7:Bk qn go 35 #[l]:=(NY.block go (ko.aw qm).lt (λe=>by have:=(hv4 go e.symm).1;omega)).trans (ko.aw qm);have q7:=ko7.cell 0;have f7:=ko7.free 0;have l7:=ko7.lt;simp at q7));have K58:=((dN.of (go:=go) (ga:=l.ownBlock) qm).trans (gb:=l.ownBlock) (dN.grown NY) (λk e=>.inl e)).set 0 (.slice s (L.length+1) t);have K48:=K5.trans (gb:=l.ownBlock) K58 (λk e=>.inl e);have hs6:=qm.size;have hB7:B<=(qn.setCell ⟨go,0,Y⟩ (.slice s (L.length+1) t)).heap.size:=aF hB4 K48.size;have ov8:aX (qn.setCell ⟨go,0,Y⟩ (.slice s (L.length+1) t)) B (.slice s (L.length+1) t) (L++[(i:Int)]):=nr pq ((dN.refl go Y qn).set 0 _) (λb q=>⟨by have:=(W.ownsRow.lt pq b q).1;omega,λe=>by cases e⟩);have S8:=HS.out.1.move hB K48 (ko7.stored 0 (.slice s (L.length+1) t)) ov8;have kt8:Bk (qn.setCell ⟨go,0,Y⟩ (.slice s (L.length+1) t)) w4.heap.size 61 (ctC κ (.slice qe A qb) (.slice qa qd qf)):=K58.bk HS.out.2.2.2 M (λe=>by have:=(hv4 _ e).2;omega);have hC8:hY (qn.setCell ⟨go,0,Y⟩ (.slice s (L.length+1) t)) (λk=>k≠go/\(I.slice s (L.length+1) t).ownBlock≠J k) κ (doS x.op c).1 (.agg (ctC κ (.slice qe A qb) (.slice qa qd qf))):=HS.out.2.2.1.move K48 (λb _ h=>h) (λb q h=>⟨h.1,λe=>by
     rcases xi with F|F
     ·exact h.2 (F.symm.trans e)
     rw[F]at e;injection e with e;omega⟩)
    have hv9:∀k,(I.slice s (L.length+1) t).ownBlock=J k->v.ownBlock=J k\/qi.heap.size<=k:=λk e=>by
     rcases xi with F|F
     ·exact qc.out.2.1 k (F.symm.trans e)
     rw[F]at e;injection e with e;have:=HS.out.2.1.size;exact .inr M
    have hne4:(I.slice s (L.length+1) t).ownBlock≠J w4.heap.size:=λe=>by
     have:=Bk.lt HS.out.2.2.2;rcases xi with F|F
     ·have:=(hv4 _ (F.symm.trans e)).2;omega
     rw[F]at e;injection e with e;omega
    have K18:=HS.out.2.1.trans (gb:=l.ownBlock) K48 qc.out.2.1;clear ko7 q7 f7 l7 pq NY xi K58 K48 hs6 K5 C qm k6 d ov ko S5 ov8 NF hB5;generalize qn.setCell ⟨go,0,Y⟩ (.slice s (L.length+1) t)=w8 at *;refine aH (S:=λw'=>Bk w' qj 90 #[.func (.func 34) #[] #[ptr Q,ptr go,ptr qj]]/\Bk w' w4.heap.size 61 (ctC κ (.slice qe A qb) (.slice qa qd qf))) (E:=λ_=>X) zK ?_;have p7:D w8.heap.size w8 w8.drew:=bZ bS;replace S8:=S8.aw p7;replace kt8:=kt8.aw p7;replace hC8:=hC8.aw p7;replace K18:=K18.trans (gb:=Y) (dN.of p7) (λk e=>by cases e);replace hB7:=aF hB7 p7.size;clear p7;generalize w8.drew=w9 at *;have hwr:=BJ (i:=i) M;have sy:=OJ h512 (i:=i) M A3;have hlt2:=(sK A3).1;have hp2:=Nat.two_pow_pos i;have hR9:=zY qk.out.2.1.2 (by rw[qk.out.2.1.1];exact qk.out.2.2.1);rw[qk.out.2.1.1]at hR9;have HR9:=N hR9;clear hR9;refine wTq 6 [(0,64,.func (.func 34) #[] #[ptr Q,ptr go,ptr qj]),(1,65,.agg (ctC κ (.slice qe A qb) (.slice qa qd qf))),(2,66,.int .u64 (left:Nat)),(3,67,V H (i:Nat)),(4,68,.int .u64 ((2:Int) ^ i)),(5,69,.int .u64 ((left-2 ^ i:Nat):Int))] ?_ ⟨S8.ks,kt8⟩ ?_
    ·intro w' u;have e1:=u.1.cell 0;simp at e1;have hlc:(cL 61 ⟨w4.heap.size,0,Y⟩).run ao w'= .ok (.agg (ctC κ (.slice qe A qb) (.slice qa qd qf))) w':=a7 w' w4.heap.size 61 61 (ctC κ (.slice qe A qb) (.slice qa qd qf)) (0,0) _ u.2 Bz Z zK;refine⟨⟨_,Z,.inl ⟨zK,?_⟩⟩,⟨_,Z,.inl ⟨zK,gF (x:=.tmp 12) zK zK hlc⟩⟩,⟨_,Z,.inl ⟨zK,?_⟩⟩,⟨_,Z,.inl ⟨zK,?_⟩⟩,⟨_,Z,.inl ⟨zK,?_⟩⟩,⟨_,Z,.inl ⟨zK,?_⟩⟩,bd⟩;all_goals exact zG
    refine wOq 6 (λK hK=>?_);go_simp;refine(HIH.out (left-2 ^ i) M (doS x.op c).1 _ w9 _ (L++[(i:Int)]) M HR9.out.1 (by have:=HR9.out.2;have:=m.out.2.2.2.2.2.1;omega) S8 hB7 (by rw[bE];have:=m.out.2.2.2.2.1;simp only[ku,List.length_nil];omega) hC8).mono ?_;rintro e uq ⟨v10,L10,rfl,qh,K10,hv10,Ob⟩;refine sO hK (λ_=>⟨qh.ks,K10.bk kt8 M hne4⟩) ?_;clear hK K;refine aG zK ?_ _;have K1:=K18.trans (gb:=(I.slice s (L.length+1) t).ownBlock) K10 hv9;have ND:∀k,v10.ownBlock=J k->v.ownBlock=J k\/qi.heap.size<=k:=λk e=>by
     rcases hv10 k e with h|h
     ·exact hv9 k h
     have:=K18.size;exact .inr M
    obtain⟨r,z⟩:=nM (im own (doS x.op c).1 (left-2 ^ i));have hr0:=HR.out;rw[z]at hr0 Ob ⊢;clear hv9 hv10 K10 K18 S8 kt8 hC8 sy hv4 hne4 hwr;cases r with
    | some o=>
     have ie:im own c left=J (i :: o):=by
      rw[lZ,if_neg m.out.2.2.2.2.2.2.2];exact C2 M qc.out.2.2 hr0
     have qg:=N (al ie (al Ob (al K1 ND)));clear ie Ob K1 ND hr0 z;simp only[cZ];go_wp2_with fail;rw[Exit.noGoto_ret];go_ret;rw[qg.out.1];exact⟨v10,L10,Z,qh,(dN.of (go:=go) (ga:=v.ownBlock) m.out.1).trans qg.out.2.2.1 (λk e=>.inl e),λk e=>by
      rcases qg.out.2.2.2 k e with h|h
      ·exact .inl h
      have:=m.out.1.size;exact .inr M,by rw[qg.out.2.1];simp⟩
    | none=>
     simp only[Option.isSome_none];simp at Ob;subst Ob;obtain⟨G10,c10,uN⟩:=bJ qh.ov;rw[show (L++[(i:Int)]).length=L.length+1 by simp]at uN;subst uN;obtain⟨ovc,hc10,g10,rfl⟩:=own_cut qh.ov Z;have d:=qh.ko.cell 0;have f1:=qh.ko.free 0;have l1:=qh.ko.lt;simp at d;have hL3:L.length<=1000:=by have:=m.out.2.2.2.2.1;omega
     have sX:=B9 g10 0 (L.length+1) c10 L.length M M;have e1:IntKind.i64.wrap (((L.length+1:Nat):Int)-1)=(L.length:Int):=by rw[dh _ M];omega
     have qg:=N (al hr0 (al ovc (al K1 ND)));clear hr0 z ovc K1 ND;go_wp2_with fail;have S11:=qh.move hB ((dN.refl go (I.slice (J ⟨g10,0,Y⟩) (L.length+1) c10).ownBlock uq).set 0 (af (J ⟨g10,0,Y⟩) L.length c10)) (qh.ko.stored 0 _) (nr qg.out.2.1 ((dN.refl go Y uq).set 0 _) (λb q=>⟨by have:=(W.ownsRow.lt qg.out.2.1 b q).1;omega,λe=>by cases e⟩));refine⟨⟨Z,i+1,M,by go_num,λa T=>?_,_,S11,qg.out.2.2.1.set 0 _,qg.out.2.2.2⟩,by simp[intOf];omega⟩;by_cases e:a=i
     ·subst e;exact qg.out.1
     exact qc.out.2.2 a M
 have g1:decide ((i:Int)<n)=X:=zP;have tQ:im own c left=Y:=by
  rw[lZ,if_neg m.out.2.2.2.2.2.2.2];exact List.findSome?_eq_none_iff.2 (λj hj=>CN j (by have:=lK.1 hj;omega))
 have HN:=N (al tQ (al K' hv'));clear tQ CN K' hv';go_wp2_with fail;rw[Exit.noGoto_ret];go_ret;rw[HN.out.1];exact⟨l,L,Z,S',(dN.of (go:=go) (ga:=v.ownBlock) m.out.1).trans HN.out.2.1 (λk e=>.inl e),λk e=>by
  rcases HN.out.2.2 k e with h|h
  ·exact .inl h
  have:=m.out.1.size;exact .inr M,zS⟩
theorem ye:∀i:Fin 10,IntKind.u64.wrap ((2:Int) ^ i.val-1)=((2 ^ i.val-1:Nat):Int):=by decide+kernel
theorem full_lt:∀i:Fin 10,2 ^ i.val-1<512:=by decide+kernel
theorem dN.below{w w':W}{B go:Nat}(h:dN go Y w w')(b:B<=go)(a:B<=w.heap.size):D B w w':=⟨h.os,h.tape,h.output,h.size,λi hi=>h.block i (aZ hi a) M (λe=>by cases e)⟩
def OrdPost(r:Option (List Nat))(w:W)(e:jK)(a:W):Prop:=D w.heap.size w a/\match r with
 | some o=>∃c b,e=ai (.tuple #[.slice c o.length b,ah O])/\aX a w.heap.size (.slice c o.length b) (o.map λ(i:Nat)=>(i:Int))
 | none=>e=ai (.tuple #[af Y 0 0,ah X])
theorem Il(κ:Int)(own:List cd)(G:Option Addr)(n cc:Nat)(qd:I)(w:W)(hn:own.length=n)(hn9:n<=9)(R:dA w 0 (.slice G n cc) own)(hko:∀x∈own,kof x.op=κ/\1<=x.op.kind/\x.op.kind<=7)(O:hY w (λ_=>True) κ ct0 qd)(hR:gS κ ct0):
  U ao 14 #[qd,.slice G n cc] w (OrdPost (im own ct0 (2 ^ n-1)) w):=by
 have hC0:=O;obtain⟨vk,vs,rfl,h1,h2⟩:=O;obtain⟨f,k,l,rfl⟩:=dR h1.own;obtain⟨h,m,j,rfl⟩:=dR h2.own;have t:=(((Bk.made w 61 (ctC κ (.slice f k l) (.slice h m j))).alloc (ag #[.slice G n cc] 40)).alloc (ag #[af Y 0 0] 35)).alloc (ag #[.nilFunc] 90);have u:=((Bk.new (w.alloc (ag (ctC κ (.slice f k l) (.slice h m j)) 61)) (g:=w.heap.size+1) zS 40 #[.slice G n cc]).alloc (ag #[af Y 0 0] 35)).alloc (ag #[.nilFunc] 90);have A:=(Bk.new ((w.alloc (ag (ctC κ (.slice f k l) (.slice h m j)) 61)).alloc (ag #[.slice G n cc] 40)) (g:=w.heap.size+1+1) zS 35 #[af Y 0 0]).alloc (ag #[.nilFunc] 90);have s:=Bk.new (((w.alloc (ag (ctC κ (.slice f k l) (.slice h m j)) 61)).alloc (ag #[.slice G n cc] 40)).alloc (ag #[af Y 0 0] 35)) (g:=w.heap.size+1+1+1) zS 90 #[.nilFunc];have v:=aA (aA (aA (bA w (ag (ctC κ (.slice f k l) (.slice h m j)) 61)) (ag #[.slice G n cc] 40)) (ag #[af Y 0 0] 35)) (ag #[.nilFunc] 90);have hmf:∀(fn:Fn) (first qf:Array I) (w:W),(uT fn first qf).run ao w= .ok (.func fn first qf) w:=λ_ _ _ _=>Z;have ya:∀b,(I.slice G n cc).ownBlock=J b->b<w.heap.size:=λb z=>(W.ownsRow.lt R b z).2;have hcb:∀ok:Nat->Prop,(∀b,b<w.heap.size->ok b)->hY w ok κ ct0 (.agg (ctC κ (.slice f k l) (.slice h m j))):=λok fC=>hC0.move (dN.refl w.heap.size Y w) (λb z _=>⟨M,λe=>by cases e⟩) (λb z _=>fC b z);have g1:decide ((10:Int)<n)=X:=zP;have F:=aj (al R (al hko (al hcb ya)));go_enter func14,ntmps14;go_upto_region 5 with fail;have DE:((((w.alloc (ag (ctC κ (.slice f k l) (.slice h m j)) 61)).alloc (ag #[.slice G n cc] 40)).alloc (ag #[af Y 0 0] 35)).alloc (ag #[.nilFunc] 90)).heap.size=w.heap.size+1+1+1+1:=zS;generalize (((w.alloc (ag (ctC κ (.slice f k l) (.slice h m j)) 61)).alloc (ag #[.slice G n cc] 40)).alloc (ag #[af Y 0 0] 35)).alloc (ag #[.nilFunc] 90)=qb at *;obtain⟨d,H⟩:=nM (w.heap.size+1);obtain⟨c,T⟩:=nM (d+1);obtain⟨a,e3⟩:=nM (c+1);rw[H]at u;rw[H,T]at A;rw[H,T,e3]at s ⊢;have qa:=s.cell 0;have f3:=s.free 0;have l3:=s.lt;simp at qa;go_upto_region 6 with fail;replace t:=t.other (p:=⟨a,0,Y⟩) (by dsimp only;omega) (.func (.func 34) #[] #[ptr d,ptr c,ptr a]);replace u:=u.other (p:=⟨a,0,Y⟩) (by dsimp only;omega) (.func (.func 34) #[] #[ptr d,ptr c,ptr a]);replace A:=A.other (p:=⟨a,0,Y⟩) (by dsimp only;omega) (.func (.func 34) #[] #[ptr d,ptr c,ptr a]);replace s:Bk (qb.setCell ⟨a,0,Y⟩ (.func (.func 34) #[] #[ptr d,ptr c,ptr a])) a 90 #[.func (.func 34) #[] #[ptr d,ptr c,ptr a]]:=s.stored 0 (.func (.func 34) #[] #[ptr d,ptr c,ptr a]);replace v:=bu v (p:=⟨a,0,Y⟩) (by dsimp only;omega) (.func (.func 34) #[] #[ptr d,ptr c,ptr a]);have qc:(qb.setCell ⟨a,0,Y⟩ (.func (.func 34) #[] #[ptr d,ptr c,ptr a])).heap.size=w.heap.size+1+1+1+1:=by rw[<- DE];simp
 generalize qb.setCell ⟨a,0,Y⟩ (.func (.func 34) #[] #[ptr d,ptr c,ptr a])=N at *;refine aH (S:=λw'=>Bk w' a 90 #[.func (.func 34) #[] #[ptr d,ptr c,ptr a]]/\Bk w' w.heap.size 61 (ctC κ (.slice f k l) (.slice h m j))/\Bk w' d 40 #[.slice G n cc]) (E:=λ_=>X) zK ?_;replace t:=t.drew;replace u:=u.drew;replace A:=A.drew;replace s:=s.drew;replace v:=v.drew;replace qc:N.drew.heap.size=w.heap.size+1+1+1+1:=qc;generalize N.drew=y at *;have hwr:=BJ (i:=n) M;have hwf:=ye ⟨n,M⟩;have qe:=full_lt ⟨n,M⟩;simp only at hwf qe;refine wTq 6 [(0,12,.func (.func 34) #[] #[ptr d,ptr c,ptr a]),(1,13,.agg (ctC κ (.slice f k l) (.slice h m j))),(2,14,.slice G n cc),(3,15,V ab (n:Nat)),(4,16,.int .u64 ((2:Int) ^ n)),(5,17,.int .u64 ((2 ^ n-1:Nat):Int))] ?_ ⟨s,t,u⟩ ?_
 ·intro w' D;have qa:=D.1.cell 0;have q1:=D.2.2.cell 0;simp at q1 qa;have qh:(cL 61 ⟨w.heap.size,0,Y⟩).run ao w'= .ok (.agg (ctC κ (.slice f k l) (.slice h m j))) w':=a7 w' w.heap.size 61 61 (ctC κ (.slice f k l) (.slice h m j)) (0,0) _ D.2.1 Bz Z zK;refine⟨⟨_,Z,.inl ⟨zK,?_⟩⟩,⟨_,Z,.inl ⟨zK,gF (x:=.tmp 2) zK zK qh⟩⟩,⟨_,Z,.inl ⟨zK,?_⟩⟩,⟨_,Z,.inl ⟨zK,?_⟩⟩,⟨_,Z,.inl ⟨zK,?_⟩⟩,⟨_,Z,.inl ⟨zK,?_⟩⟩,bd⟩;all_goals exact zG
 have qi:SkB d c a y.heap.size G n cc:=⟨M,M,M,M,M,λb z=>by have:=F.out.2.2.2 b z;omega⟩;have S6:SkW d c a y.heap.size own G n cc y (af Y 0 0) []:=⟨u,F.out.1.aw v,s,A,bW _ _ _ _⟩;have hC6:hY y (λi=>i≠c/\(I.slice Y 0 0).ownBlock≠J i) κ ct0 (.agg (ctC κ (.slice f k l) (.slice h m j))):=(F.out.2.2.1 _ (λb z=>⟨M,λe=>by cases e⟩)).aw v;refine wOq 6 (λK L=>?_);go_simp;refine(Mm κ own G n cc d c a y.heap.size hn hn9 qi F.out.2.1 (2 ^ n-1) ct0 _ y (af Y 0 0) [] qe hR (by have:ct0.vs.length=0:=Z;omega) S6 (aq _) (by simp only[List.length_nil];omega) hC6).mono ?_;rintro e w7 ⟨v',L',rfl,q,C,hv7,hL7⟩;have Q:Below w.heap.size w w7:=v.trans (dN.below (go:=c) (B:=w.heap.size) C M M);generalize im own ct0 (2 ^ n-1)=r at *;cases r with
 | some o=>
  simp only[cZ];refine sO L (λ_=>⟨q.ks,C.bk t M (λe=>by cases e),q.kl⟩) ?_;refine wTq 1 [(7,19,ah X)] ?_ ⟨q.ks,C.bk t M (λe=>by cases e),q.kl⟩ ?_
  ·intro w' D;refine⟨⟨_,Z,.inl ⟨zK,?_⟩⟩,bd⟩;all_goals exact zG
  refine aG zK ?_ _;have hL:L'=o.map λ(i:Nat)=>(i:Int):=by rw[hL7];simp
  subst hL;obtain⟨G',qg,P⟩:=bJ q.ov;rw[qH]at P;subst P;have q2:=q.ko.cell 0;simp at q2;have hov:=dt q.ov (show w.heap.size<=y.heap.size by omega);go_wp2_with fail;go_ret2;exact⟨Q,G',qg,Z,hov⟩
 | none=>
  simp only[Option.isSome_none];refine sO L (λ_=>⟨q.ks,C.bk t M (λe=>by cases e),q.kl⟩) ?_;refine wTq 1 [(7,19,ah true)] ?_ ⟨q.ks,C.bk t M (λe=>by cases e),q.kl⟩ ?_
  ·intro w' D;refine⟨⟨_,Z,.inl ⟨zK,?_⟩⟩,bd⟩;all_goals exact zG
  refine aG zK ?_ _;go_wp2_with fail;go_ret2;exact⟨Q,Z⟩
theorem Og(κ:Int)(own:List cd)(o:List Nat)(G:Option Addr)(n cc m c:Nat)(A:Option Addr)(v:Value)(w:World)(hn:own.length=n)(hn9:n<=9)(hm:o.length=m)(hmc:m<=c)(hG:dA w 0 (.slice G n cc) own)(qh:eT w w.heap.size A (o.map λ(i:Nat)=>(i:Int)))(hF:O3 own o)(hko:∀x∈own,kof x.op=κ/\1<=x.op.kind/\x.op.kind<=7)(qj:hY w (λ_=>True) κ ct0 v)(hR:gS κ ct0):
  Calls ao 16 #[v,.slice G n cc,.slice A m c] w (fI O w):=by
 obtain⟨q,s,rfl,qg,h2⟩:=qj;have k0:=Bk.made w 61 (ctC κ q s);have t:=bA w (ag (ctC κ q s) 61);have h0:hY (w.alloc (ag (ctC κ q s) 61)) (λi=>i≠w.heap.size) κ ct0 (.agg (ctC κ q s)):=by
  have h:hY w (λ_=>True) κ ct0 (.agg (ctC κ q s)):=⟨q,s,Z,qg,h2⟩;obtain⟨a,b,e,q1,q2⟩:=(h.off (g:=w.heap.size) (aq _)).aw t;exact⟨a,b,e,⟨q1.1,λi hi=>(q1.2 i hi).2⟩,⟨q2.1,λi hi=>(q2.2 i hi).2⟩⟩
 obtain⟨qd,C,N,rfl⟩:=dR qg.own;obtain⟨I,qf,qc,rfl⟩:=dR h2.own;clear qg h2;have NS:m=n:=by rw[<- hm,<- hn];exact hF.len
 have g0:((m:Int) != n)=X:=by simp[NS]
 obtain⟨oI,hoI⟩:=nM ((o.map λ(i:Nat)=>(i:Int)));have hmI:oI.length=m:=by rw[<- hoI,qH,hm]
 have BH:∀(k i:Nat),o[k]? =J i->oI[k]? =J (i:Int):=λk i h=>by rw[<- hoI,List.getElem?_map,h];rfl
 rw[hoI]at qh;have W:=aj (al hoI (al hF hko));clear hoI hF hko;have HA:=aj (al qh hG);replace qh:eT (w.alloc (ag (ctC κ (.slice qd C N) (.slice I qf qc)) 61)) (w.alloc (ag (ctC κ (.slice qd C N) (.slice I qf qc)) 61)).heap.size A oI:=(qh.below t).more t.size;replace hG:=hG.aw t;have hm9:m<=9:=M;clear NS;go_enter func16,ntmps16;go_wp2_with fail;generalize w.alloc (ag (ctC κ (.slice qd C N) (.slice I qf qc)) 61)=U at *;have HK:=aj (al k0 (al h0 t));clear k0 h0 t g0;go_loopw [21] (λv21 wr=>∃k:Nat,k<=m/\v21=V H (k:Nat)/\D U.heap.size U wr) (λv21 _=>m-(intOf v21).toNat)
 case atStart=>exact⟨0,aN _,Z,bS⟩
 obtain⟨k,hk,rfl,qa⟩:=hrel;by_cases fH:k<m
 ·have g1:decide ((k:Int)<m)=O:=zP;have i1:(k:Int)<m:=M;obtain⟨b,of,rfl,CV,hc⟩:=qh M;obtain⟨i,hi⟩:∃i,o[k]? =J i:=⟨_,aD M⟩;have yv:i<n:=by rw[<- hn];exact W.out.2.1.lt i (aU hi)
  have q1:wr.cell? ⟨b,of+k,Y⟩=J (V H (i:Nat)):=iF qa (hc _ _ (BH _ _ hi));have g2:decide ((i:Int)<0)=X:=zS;have g3:decide ((n:Int)<=i)=X:=zP;have sX:=B9 b of m c k M M;have KR:(i:Int)∉oI.take k:=by
   intro h;obtain⟨j,qi⟩:=List.getElem?_of_mem h;rw[List.getElem?_take]at qi;split at qi
   ·rename_i hjk;obtain⟨i',NW⟩:∃i',o[j]? =J i':=⟨_,aD M⟩;rw[BH _ _ NW]at qi;injection qi with qi;have e:i'=i:=M;subst e;have:=(List.getElem?_inj M W.out.2.1.nd).1 (NW.trans hi.symm);omega
   cases qi
  have hA':eT wr wr.heap.size (J ⟨b,of,Y⟩) (oI.take k):=((Mh qh).below qa).more qa.size;have HI:=aj (al hi (al KR (al hA' hc)));clear hi KR hA' hc;go_wp2_with fail;refine(yh (oI.take k) i (J ⟨b,of,Y⟩) k c _ HI.out.2.2.1 (by rw[dg];omega) M HI.out.2.1).mono ?_;rintro e w2 ⟨rfl,nd,rfl⟩;have kW:D U.heap.size U (wr.drewN nd):=kJ qa nd;clear qa q1 g2;generalize wr.drewN nd=w2 at *;go_wp2_with fail;clear g3 sX;go_loopw [45] (λv45 wq=>∃j:Nat,j<=k/\v45=V H (j:Nat)/\D U.heap.size U wq) (λv45 _=>k-(intOf v45).toNat)
  case atStart=>exact⟨0,aN _,Z,kW⟩
  clear kW;obtain⟨j,qi,rfl,d⟩:=hrel;generalize wr=w3 at *;by_cases hjk:j<k;rotate_left
  ·have g4:decide ((j:Int)<k)=X:=zP;go_wp2_with fail;exact⟨⟨k+1,M,by go_num,d⟩,by simp[intOf];omega⟩
  have g4:decide ((j:Int)<k)=O:=zP;have i2:(j:Int)<k:=M;obtain⟨i',NW⟩:∃i',o[j]? =J i':=⟨_,aD M⟩;have hin':i' < n:=by rw[<- hn];exact W.out.2.1.lt i' (aU NW)
  have q2:w3.cell? ⟨b,of+j,Y⟩=J (V H (i':Nat)):=iF d (HI.out.2.2.2 _ _ (BH _ _ NW));obtain⟨x,hx⟩:∃x,own[i]? =J x:=⟨_,aD M⟩;obtain⟨y,hy⟩:∃y,own[i']? =J y:=⟨_,aD M⟩;obtain⟨g,rfl,-,hg,hcx⟩:=hG.at_ hx;obtain⟨g',BG,-,-,hcy⟩:=hG.at_ hy;injection BG with BG;injection BG with BG;subst BG;have hah:decide (x.last<y.first)=X:=by
   rw[decide_eq_false_iff_not];have hp:=List.pairwise_iff_getElem.1 W.out.2.1.beh j k M M hjk;rw[(aC.1 NW).2,(aC.1 HI.out.1).2]at hp;exact hp y x hy hx
  have HAH:=aj hah;have i3:(i:Int)<n:=M;have i4:(i':Int)<n:=M;clear hah hx hy NW;go_upto_region 11 with fail;refine aH (S:=λw'=>D U.heap.size U w') (E:=λ_=>X) zK ?_;replace d:=d.drew;clear q2;generalize w3.drew=w4 at *;refine wTq 8 [(0,49,af (J ⟨g,0,Y⟩) n cc),(1,50,V H (i:Nat)),(2,51,ae (J ⟨g,i*10,Y⟩)),(3,52,.agg (cB x)),(4,53,af (J ⟨g,0,Y⟩) n cc),(5,54,(V H (i':Nat))),(6,55,ae (J ⟨g,i' * 10,Y⟩)),(7,56,.agg (cB y))] ?_ d ?_
  ·intro w' hS;refine⟨⟨_,Z,.inl ⟨zK,?_⟩⟩,⟨_,Z,.inl ⟨zK,?_⟩⟩,⟨_,Z,.inl ⟨zK,?_⟩⟩,⟨_,Z,.inl ⟨zK,gF (x:=.tmp 51) zK zK (ua hg hcx hS)⟩⟩,⟨_,Z,.inl ⟨zK,?_⟩⟩,⟨_,Z,.inl ⟨zK,?_⟩⟩,⟨_,Z,.inl ⟨zK,?_⟩⟩,⟨_,Z,.inl ⟨zK,gF (x:=.tmp 55) zK zK (ua hg hcy hS)⟩⟩,bd⟩;all_goals exact zG
  refine wOq 8 (λK u=>?_);go_simp;refine(xr x y _).mono ?_;rintro e w5 ⟨rfl,oQ⟩;rw[HAH.out];replace d:=aE d oQ;refine sO u (λ_=>d) ?_;clear u K;refine aG zK ?_ _;go_wp2_with fail;refine⟨⟨_,_,_,⟨j+1,M,?_⟩,rfl,rfl,rfl⟩,by simp[intOf];omega⟩;go_num
 have g1:decide ((k:Int)<m)=X:=zP;clear qh hG;go_wp2_with fail;clear g1 fH;have k1:=HK.out.1.aw qa;have qg:=HK.out.2.1.aw qa;have hb1:=aE HK.out.2.2 qa;clear qa;obtain⟨cz,hcz⟩:=W.out.2.1.run;have lh:∃f cz q s,Bk wr w.heap.size 61 (ctC κ q s)/\hY wr (λi=>i≠w.heap.size) κ f (.agg (ctC κ q s))/\gS κ f/\f.vs.length<=0/\pG own (o.drop 0) f cz:=⟨ct0,cz,_,_,k1,qg,hR,aq _,hcz⟩;clear k1 qg hcz hR cz HK hk;go_loopw [62] (λv62 wr=>∃k:Nat,k<=m/\v62=V H (k:Nat)/\D w.heap.size w wr/\∃f cz q s,Bk wr w.heap.size 61 (ctC κ q s)/\hY wr (λi=>i≠w.heap.size) κ f (.agg (ctC κ q s))/\gS κ f/\f.vs.length<=k/\pG own (o.drop k) f cz) (λv62 _=>m-(intOf v62).toNat)
 case atStart=>exact⟨0,aN _,Z,hb1,lh⟩
 clear hb1 lh;obtain⟨k,hk,rfl,d,f,cz,q,s,l,qj,hR,hle,It⟩:=hrel;generalize wr=w3 at *;by_cases hkm:k<m;rotate_left
 ·have g4:decide ((k:Int)<m)=X:=zP;go_wp2_with fail;go_ret;exact⟨Z,d⟩
 have g4:decide ((k:Int)<m)=O:=zP;have i2:(k:Int)<m:=M;obtain⟨b,of,rfl,CV,hc⟩:=HA.out.1 M;obtain⟨i,hi⟩:∃i,o[k]? =J i:=⟨_,aD M⟩;have yv:i<n:=by rw[<- hn];exact W.out.2.1.lt i (aU hi)
 have q2:w3.cell? ⟨b,of+k,Y⟩=J (V H (i:Nat)):=(d.cell (p:=⟨b,of+k,Y⟩) CV).trans (hc _ _ (BH _ _ hi));rw[List.drop_eq_getElem_cons M,(aC.1 hi).2]at It;obtain⟨x,c1,hx,CR,It⟩:=It;have NV:=W.out.2.2 x (aU hx);obtain⟨g,rfl,-,hg,hcx⟩:=HA.out.2.at_ hx;have ht:jT x f=O:=s9.2 (by rw[CR]);have hR1:=zY NV.2 (by rw[NV.1];exact hR);rw[NV.1,CR]at hR1;have i3:(i:Int)<n:=M;obtain⟨vk1,vs1,e1,qe,qb⟩:=qj;have e1:(ctC κ q s)=ctC κ vk1 vs1:=by injection e1
 obtain⟨qd,C,N,rfl⟩:=dR qe.own;obtain⟨I,qf,qc,rfl⟩:=dR qb.own;rw[e1]at l;have qj:hY w3 (λi=>i≠w.heap.size) κ f (.agg (ctC κ (.slice qd C N) (.slice I qf qc))):=⟨_,_,Z,qe,qb⟩;have z:=aj (al ht (al CR (al hR1 (al It (al NV (al hR hle))))));clear e1 qe qb ht CR hR1 It NV hR hle hx hi hc;go_upto_region 19 with fail;refine aH (S:=λw'=>D w.heap.size w w'/\Bk w' w.heap.size 61 (ctC κ (.slice qd C N) (.slice I qf qc))) (E:=λi=>i==9||i==10) zK ?_;replace d:=d.drew;replace l:=l.drew;replace qj:=qj.aw (bD w3);clear q2;generalize w3.drew=w4 at *;refine wTq 5 [(0,67,.agg (ctC κ (.slice qd C N) (.slice I qf qc))),(1,68,af (J ⟨g,0,Y⟩) n cc),(2,69,V H (i:Nat)),(3,70,ae (J ⟨g,i*10,Y⟩)),(4,71,.agg (cB x))] ?_ ⟨d,l⟩ ?_
 ·intro w' hS;have hlc:(cL 61 ⟨w.heap.size,0,Y⟩).run ao w'= .ok (.agg (ctC κ (.slice qd C N) (.slice I qf qc))) w':=a7 w' w.heap.size 61 61 (ctC κ (.slice qd C N) (.slice I qf qc)) (0,0) _ hS.2 Bz Z zK;refine⟨⟨_,Z,.inl ⟨zK,gF (x:=.tmp 3) zK zK hlc⟩⟩,⟨_,Z,.inl ⟨zK,?_⟩⟩,⟨_,Z,.inl ⟨zK,?_⟩⟩,⟨_,Z,.inl ⟨zK,?_⟩⟩,⟨_,Z,.inl ⟨zK,gF (x:=.tmp 70) zK zK (ua hg hcx hS.1)⟩⟩,bd⟩;all_goals exact zG
 refine wOq 5 (λK u=>?_);go_simp;refine(C8 κ f x (λi=>i≠w.heap.size) _ w4 (λb t=>by have:=l.lt;omega) qj z.out.2.2.2.2.2.1 (by have:=z.out.2.2.2.2.2.2;omega) z.out.2.2.2.2.1.2 z.out.2.2.2.2.1.1).mono ?_;rintro e w5 ⟨cv',rfl,hC5,oQ⟩;rw[z.out.1];rw[z.out.2.1]at hC5;obtain⟨vk',vs',rfl,qe,qb⟩:=hC5;obtain⟨L,B,F,rfl⟩:=dR qe.own;obtain⟨T,Q,P,rfl⟩:=dR qb.own;replace d:=aE d oQ;replace l:=l.aw oQ;refine sO u (λ_=>⟨d,l⟩) ?_;clear u K;refine wTq 2 [(6,66,.tuple #[.agg (ctC κ (.slice L B F) (.slice T Q P)),ah O]),(7,73,.agg (ctC κ (.slice L B F) (.slice T Q P)))] ?_ ⟨d,l⟩ ?_
 ·intro w' hS;refine⟨⟨_,Z,.inl ⟨zK,?_⟩⟩,⟨_,Z,.inl ⟨zK,?_⟩⟩,bd⟩;all_goals exact zG
 refine gI (i:=8) (oi:=_) (v:=ah O) Z zK zK zK (λ_ _ _ h=>h) (jI ⟨zK,?_⟩) ?_
 ·intro w' hS;(try simp only[au,ar,an]);go_simp
 (try simp only[au,ar,an,Act.put,ak,ay,az]);obtain⟨f0,f1,f2⟩:=fE l;obtain⟨d0,d1,d2⟩:=cE l;have lc:=l.lt;simp at d0 d1 d2;refine wOq 9 (λK u=>?_);go_simp;have kS:=fW l (V H κ) (.slice L B F) (.slice T Q P);have hbS:=dW d (g:=w.heap.size) (aq _) (V H κ) (.slice L B F) (.slice T Q P);have s1:=RdI.iK (ok:=λi=>i≠w.heap.size) (g:=w.heap.size) ⟨qe.1,λb t=>⟨qe.2 b t,qe.2 b t⟩⟩ (V H κ) (.slice L B F) (.slice T Q P);have s2:=RdI.iK (ok:=λi=>i≠w.heap.size) (g:=w.heap.size) ⟨qb.1,λb t=>⟨qb.2 b t,qb.2 b t⟩⟩ (V H κ) (.slice L B F) (.slice T Q P);have lh:∃f cz q s,Bk (iK w5 w.heap.size (V H κ) (.slice L B F) (.slice T Q P)) w.heap.size 61 (ctC κ q s)/\hY (iK w5 w.heap.size (V H κ) (.slice L B F) (.slice T Q P)) (λi=>i≠w.heap.size) κ f (.agg (ctC κ q s))/\gS κ f/\f.vs.length<=k+1/\pG own (o.drop (k+1)) f cz:=⟨c1,cz,_,_,kS,⟨_,_,Z,s1,s2⟩,z.out.2.2.1.1,by have qg:c1.vs.length<=f.vs.length+1:=z.out.2.2.1.2;have:=z.out.2.2.2.2.2.2;omega,z.out.2.2.2.1⟩;refine sO u (λh=>by cases h) ?_;clear u K kS s1 s2 qe qb f0 f1 f2 d0 d1 d2 lc l d;simp only[iK]at lh hbS;generalize ((w5.setCell ⟨w.heap.size,0,Y⟩ (V H κ)).setCell ⟨w.heap.size,1,Y⟩ (.slice L B F)).setCell ⟨w.heap.size,2,Y⟩ (.slice T Q P)=w6 at *;refine wOq 10 (λK u=>?_);go_simp;refine sO u (λh=>by cases h) ?_;clear u K;refine aG zK ?_ _;go_wp2_with fail;exact⟨⟨k+1,M,by go_num,hbS,lh⟩,by simp[intOf];omega⟩
end
section
open Go.RowKit
variable {N mn n s:Nat} {l p:List cd} {κ:Int} {t:cY} {w:W}
theorem H8{x:cd}:fM N (l++[x])=fM N l++(if x.first<N then [{ x with last:=1000000 }]else []):=by
 unfold fM;rw[List.filter_append,List.map_append];congr 1;by_cases h:x.first<N<;>simp[h]
theorem tB{s:Nat}{p:List cd}:∀i,(fL s p i).length<=i
 | 0=>aq _
 | i+1=>by
  have:=tB (s:=s) (p:=p) i;show (fL s p i++_).length<=_;rw[bE];split
  ·cases p[i]?<;>simp<;>omega
  simp;omega
theorem ze{c:cd}:∀i,c∈fL s p i->c∈p
 | 0,h=>by cases h
 | i+1,h=>by
  rcases cy.1 h with h|h
  ·exact ze i h
  split at h
  ·rw[Option.mem_toList]at h;exact aU h
  cases h
theorem Cm:(fM N l).length<=l.length:=by
 unfold fM;rw[qH];exact List.length_filter_le _ _
theorem MT(h:mn<=t.calls.length):(t.calls.take mn++fL s (fM N (t.calls.drop mn)) (fM N (t.calls.drop mn)).length).length<=t.calls.length/\(rY κ mn N s t).length<=t.calls.length:=by
 have c:=tB (s:=s) (p:=fM N (t.calls.drop mn)) (fM N (t.calls.drop mn)).length;have b:=Cm (N:=N) (l:=t.calls.drop mn);rw[List.length_drop]at b;have a:(t.calls.take mn++fL s (fM N (t.calls.drop mn)) (fM N (t.calls.drop mn)).length).length<=t.calls.length:=by
  rw[bE,dg];omega
 exact⟨a,aF (List.length_filter_le _ _) a⟩
theorem MU(ok:∀c∈t.calls,kK c.op):∀x∈rY κ mn N s t,kof x.op=κ/\1<=x.op.kind/\x.op.kind<=7:=by
 intro x d;obtain⟨f,a⟩:=jF.1 d;have b:kK x.op:=by
  rcases cy.1 f with h|h
  ·exact ok x (List.mem_of_mem_take h)
  have:=ze _ h;unfold fM at this;obtain⟨c,e,rfl⟩:=List.mem_map.1 this;exact ok c (List.mem_of_mem_drop (jF.1 e).1)
 unfold ownB at a;rw[bN,decide_eq_true_iff]at a;exact⟨(uX b.k).symm.trans a.1,b.k⟩
theorem Ap:∀(s:Fin 8) (i:Fin 3),(bits .and .i64 ((s.val:Int) / 2 ^ i.val) 1==1)=decide (s.val / 2 ^ i.val%2=1):=by decide+kernel
theorem Mf{i:Nat}(a:s<8)(hi:i<3):(bits .and .i64 ((s:Int) / 2 ^ i) 1==1)=decide (s / 2 ^ i%2=1):=Ap ⟨s,a⟩ ⟨i,hi⟩
theorem Mz(h:1<=κ/\κ<=3):gS κ ct0:=by
 have:κ=1\/κ=2\/κ=3:=M;rcases this with rfl|h|h
 ·exact .inl ⟨Z,List.Pairwise.nil,Z⟩
 ·exact .inr ⟨.inl h,Z⟩
 exact .inr ⟨.inr h,Z⟩
theorem Ov(w:W)(ok:Nat->Prop)(κ:Int):hY w ok κ ct0 (.agg (ctC κ (af Y 0 0) (af Y 0 0))):=
 ⟨_,_,Z,⟨bW _ _ _ _,λb e=>by cases e⟩,⟨bW _ _ _ _,λb e=>by cases e⟩⟩
theorem Mo{A:Option Addr}{len cap:Nat}(a:A=Y\/∃b,A=J ⟨b,0,Y⟩)(h:n<=cap)(w:W):(Instr.sliceAt 40 (.slice A len cap) Y (J (V H (n:Int))) Y).run ao w= .ok (.slice A n cap) w:=by
 refine(run_sliceAt_slice (P:=ao) (w:=w) 40 _ _ _ _ zK).trans ?_;refine(run_slice_h (P:=ao) (w:=w) 40 _ len cap zK .i64 n M M).trans ?_;rw[show (sizeOf (Tryz.prog.elem 40)).run ao w= .ok 10 w by kernel_rfl];simp only[bC,sliced,BA,Nat.sub_zero];split
 ·rfl
 rcases a with rfl|⟨b,rfl⟩<;>rfl
theorem xK(l:List cd):(cj l).length=l.length*10:=by
 induction l with
 | nil=>rfl
 | cons a r b=>
  show (_++_:List I).length=_;rw[bE];show 10+(cj r).length=_;rw[b,ku];omega
theorem Lg(l:List cd):∀u∈cj l,u.oneCell'=O:=by
 intro u b;obtain⟨c,-,a⟩:=List.mem_flatMap.1 b;simp at a;rcases a with rfl|rfl|rfl|rfl|rfl|rfl|rfl|rfl|rfl|rfl<;>rfl
theorem Kb{t c:Nat}{G:Option Addr}(h:dA w t (.slice G n c) l)(q:l.length=n)(A:mn<=n):n<=c/\(G=Y\/∃b,G=J ⟨b,0,Y⟩)/\Src w w.heap.size 10 G mn c (cj (l.take mn)):=by
 subst q;have k:(cj (l.take mn)).length=mn*10:=by rw[xK,dg];congr 1;omega
 have s:∀(j:Nat) (u:I),(cj (l.take mn))[j]? =J u->(cj l)[j]? =J u:=λj u d=>by
  have e:cj l=cj (l.take mn)++cj (l.drop mn):=by
   unfold cj;rw[<- List.flatMap_append,List.take_append_drop]
  rw[e,List.getElem?_append_left (aC.1 d).1];exact d
 rcases h.2 with⟨e,z⟩|⟨g,C,B,e,-,m,x,-⟩
 ·injection e with f y i;exact⟨M,.inl f,k,.inl ⟨f,M,i⟩⟩
 injection e with f y i;subst f i;refine⟨x,.inr ⟨g,Z⟩,k,.inr ⟨g,0,Z,(a9.1 m).1,λj u d=>?_⟩⟩;have o:0<l.length:=by
  have:=(aC.1 d).1;omega
 obtain⟨D,a,-,-,v⟩:=MS h o;injection a with a;injection a with a;subst a;rw[ea];exact v j u (s j u d)
theorem rL{t e:bM}{D:TypeInfo}{z:I}{size j:Nat}(T:oH ao t e D z size j){k:Array Oper}{rest:List Oper}{o:Oper}{a:Act}{Q:Exit->Act->W->Prop}(H:o.guard=Y)(s x:vn)(ho:o.op= .call { callee:=.builtin .append,args:=#[s,x],argTypes:=#[t,t] })(base:Nat)(v:I)(d:Nat)(i:List I)(l:a.eval s=v)(L:w.ownsRow base e size v d i){B:Nat}(K:Option Addr)(n c:Nat)(f:List I)(A:a.eval x= .slice K n c)(F:Src w B size K n c f)(q:∀u∈f,u.oneCell'=O)(G:(d+n)*j<=140737488355328)(J:d+n<=100000)(C:base<=w.heap.size)(h:∀g b,b.ownsRow base e size g (d+n) (i++f)->w.grownBy b v.ownBlock->wpList ao k Q rest (a.put o.dst g) b):wpList ao k Q (o :: rest) a w:=
 wpList_plain H λ_ m=>dX T s x ho base v d i l L K n c f A F q G J C λg b y E=>m _ _ (h g b y E)
end
end Go.Proofs.YtikdaeddbkopeaaGreatR
