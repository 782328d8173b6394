/- A part of the proof. -/
import Derived.Test.YtikdaeddbkopeaaGreatRV1
import Derived.Test.YtikdaeddbkopeaaGreatRV3
set_option linter.unusedVariables false
set_option linter.unusedSimpArgs false
set_option maxRecDepth 100000
set_option maxHeartbeats 16000000
open Go.Proofs.Tryz
open And renaming intro → al
open Array renaming getElem?_eq_some_iff → a9
open Bool renaming false → X, true → O
open Classical renaming byContradiction → db
open Go renaming Calls → U, Value → I, World → W, Program → J4, run_loadVar_row → a7, wpList_store_rowTo → aI, wpList_load_row → aM, wp_at_zero → aQ, wp_at_succ → aR, bodyPost_ret → aS, TypeId → bM, results_cell_row → bQ, loadVar → cL, wp_store_row → eC, results → jE, Ending → jK, execOp → nO, Operand → vn
open Go.Ending renaming returned → ai
open Go.Instr renaming makeFunc → uT
open Go.IntKind renaming i64 → H, i64 → ab
open Go.IntWalk renaming i64_in → dh
open Go.Lib renaming hid → N, hid → aj
open Go.Obj renaming cells → ag
open Go.Proofs.Tryz renaming underlying70 → aJ, underlying34 → aK, prog → ao, underlying67 → cF
open Go.Result renaming andThen_ok → bC
open Go.RowKit renaming Below → D
open Go.Sem renaming run_bind → cD, run_pure → dF
open Go.Value renaming int → V, oneCell' → aB, bool → ah, int → aa, pointer → ae, slice → af
open Go.WideShapes renaming add_plain → gZ
open Int renaming toNat_natCast → BA
open List renaming getElem?_eq_some_iff → aC, mem_cons → aL, setIfInBounds_toArray → ak, getElem_cons_zero → an, getElem_cons_succ → ar, getElem_toArray → au, set_cons_zero → ay, set_cons_succ → az, length_append → bE, not_mem_nil → be, length_take → dg, set_nil → eM, length_cons → ku, take_length → nP, take_add_one → qy
open Nat renaming le_trans → aF, lt_of_lt_of_le → aZ, le_refl → aq, zero_add → ea, le_of_lt → ed, le_succ → oU
open Option renaming none → Y, some → J, isSome_some → cZ
open Option.some renaming inj → aP
open True renaming intro → bd
namespace Go.Proofs.YtikdaeddbkopeaaGreatR
section
variable {z z':Pz} {i m n:Nat} {k:FK} {x:Sub} {t:Ret} {o:dx}
def SX.atN(n:Nat):SX->Prop
 | .go _ s=>s.made=n
 | .ret _ s=>s.made=n
 | .stuck=>True
def LX.atN(n:Nat):LX->Prop
 | .go _ s=>s.made=n
 | .out _ s=>s.made=n
 | .stuck=>True
theorem sC(z:Pz)(i:Nat):(df z i).atN z.made:=by unfold df;split<;>exact Z
theorem Sub.at(th:Int)(z:Pz)(x:Sub)(r:Int × Bool):(x.stp th z r).atN (z.made+1):=by
 cases x with
 | cl i=>exact sC _ _
 | _=>simp only[Sub.stp];(try split)<;>first|exact Z | trivial
theorem vt{X:SX}(h:X.atN n)(k:LK)(f:Ret->Pz->LX)(a:∀t s,(f t s).atN s.made):(X.lS k f).atN n:=by
 cases X with
 | go x z=>exact h
 | ret t z=>exact(show z.made=n from h) ▸ a t z
 | stuck=>trivial
theorem Bi(o:dx)(z:Pz):(fF o z).atN z.made:=vt (sC z 0) _ _ λ_ _=>Z
theorem IL(n:Int)(o:dx)(z:Pz):(fa n o z).atN z.made:=vt (sC z 0) _ _ λ_ _=>Z
theorem Dd(op:LOp)(k:FK)(b:Bool)(a c next:Int)(pt:Nat)(z:Pz):(iJ op k b a c next pt z).atN z.made:=by
 cases k<;>simp only[iJ]<;>(repeat' split)<;>first|exact Z|exact Bi _ _
theorem Cy(op:LOp)(k:FK)(f:Fp)(z:Pz):(eR op k f z).atN z.made:=by
 unfold eR;split
 ·exact Dd _ _ _ _ _ _ _ _
 exact Z
theorem resL_at(op:LOp)(k:LK)(t:Ret)(z:Pz):(ic op t z k).atN z.made:=by
 cases k<;>simp only[ic]<;>(repeat' split)<;>first|exact Z|exact Bi _ _|exact Cy _ _ _ _|trivial
theorem LPh.at(th:Int)(op:LOp)(z:Pz)(x:LPh)(r:Int × Bool):(x.stp th op z r).atN (z.made+1):=by
 cases x with
 | sub x k=>exact vt (Sub.at th z x r) k _ λt s=>resL_at op k t s
 | _=>
  simp only[LPh.stp]
  (repeat' split)<;>first|exact Z|exact Bi _ _|exact IL _ _ _|exact Cy _ _ _ z.got|exact Dd _ _ _ _ _ _ _ z.got
section
variable {th me:Int} {op:LOp}
theorem As:∀(l:Log) {x:LPh} {z z':Pz} {o:dx},fp th me op x z l= .fin (o,z')->z.made<z'.made/\z'.made<=z.made+l.length/\(∀n,z'.made<=z.made+n->fp th me op x z (l.take n)= .fin (o,z'))/\(∀n,z.made+n<z'.made->∃a,fp th me op x z (l.take n)= .ask a)
 | [],x,z,z',o,h=>by cases h
 | r :: l,x,z,z',o,h=>by
  rw[eH]at h;have c:=LPh.at th op z x r;cases b:x.stp th op z r with
  | go f d=>
   rw[b]at h c;have c:d.made=z.made+1:=c;obtain⟨s,t,g,k⟩:=As l (x:=f) (z:=d) h;refine⟨M,by simp only[ku];omega,λn e=>?_,λn e=>?_⟩
   ·obtain⟨n,rfl⟩:∃m,n=m+1:=⟨n-1,M⟩;rw[List.take_succ_cons,eH,b];exact g n M
   cases n with
   | zero=>exact⟨_,Z⟩
   | succ n=>
    rw[List.take_succ_cons,eH,b];exact k n M
  | out q d=>
   rw[b]at h c;have c:d.made=z.made+1:=c;injection h with h;injection h with i j;subst i j;refine⟨M,by simp only[ku];omega,λn e=>?_,λn e=>?_⟩
   ·obtain⟨n,rfl⟩:∃m,n=m+1:=⟨n-1,M⟩;rw[List.take_succ_cons,eH,b];rfl
   obtain rfl:n=0:=M;exact⟨_,Z⟩
  | stuck=>rw[b]at h;cases h
theorem Jg:∀(l:Log) {x:LPh} {z:Pz},fp th me op x z l≠ .stuck->∀n,fp th me op x z (l.take n)≠ .stuck
 | [],x,z,h,n=>by rw[List.take_nil];exact h
 | r :: l,x,z,h,0=>by intro e;cases e
 | r :: l,x,z,h,n+1=>by
  rw[List.take_succ_cons,eH];rw[eH]at h;cases a:x.stp th op z r with
  | go c b=>rw[a]at h;exact Jg l h n
  | out d b=>intro e;cases e
  | stuck=>rw[a]at h;exact absurd Z h
theorem Jh:∀(l a:Log) {x:LPh} {z z':Pz} {o:dx},fp th me op x z l= .fin (o,z')->fp th me op x z (l++a)= .fin (o,z')
 | [],a,x,z,z',o,h=>by cases h
 | r :: l,a,x,z,z',o,h=>by
  rw[List.cons_append,eH];rw[eH]at h;cases b:x.stp th op z r with
  | go d c=>rw[b]at h;exact Jh l a h
  | out e c=>rw[b]at h;exact h
  | stuck=>rw[b]at h;cases h
end
def Rg(n:Int):Prop:=0<=n/\n<65536
theorem Av(x:Int):Rg (idxOf x):=Nz x
def Sub.sI(m:Nat):Sub->Prop
 | .g2 _ _ _=>1<=m
 | .t4 n _=>Rg n
 | .t5 n _ _=>Rg n
 | _=>True
def SX.sI:SX->Prop
 | .go x z=>x.sI z.made
 | .ret (.gd _ p) z=>p+2=z.made
 | .ret (.tk n _ _) _=>Rg n
 | _=>True
theorem JF(z:Pz)(i:Nat):(df z i).sI:=by unfold df;split<;>trivial
theorem Sub.Je(th:Int)(h:x.sI z.made)(r:Int × Bool):(x.stp th z r).sI:=by
 cases x with
 | cl i=>exact JF _ _
 | g1 i c=>show 1<=z.made+1;omega
 | g2 i c v=>
  simp only[Sub.stp];split
  ·show z.made-1+2=z.made+1;have:1<=z.made:=h;omega
  trivial
 | t1=>
  simp only[Sub.stp];split
  ·exact⟨zD,zD⟩
  trivial
 | t3 a d=>
  simp only[Sub.stp];split
  ·exact Av a
  trivial
 | t4 n p=>exact h
 | t5 n b p=>exact h
 | _=>simp only[Sub.stp];(try split)<;>trivial
def FK.pO(m:Nat):FK->Prop
 | .fin p=>p<m
 | _=>True
def LK.pO(m:Nat):LK->Prop
 | .fh k=>k.pO m
 | .fn k f=>k.pO m/\f.pt<m
 | .fr k f=>k.pO m/\f.pt<m
 | .out o=>o.bc<m
 | .clr o=>o.bc<m
 | .pt _ _=>True
 | .dc _ o=>o.bc<m
def LPh.pO(m:Nat):LPh->Prop
 | .sub x k=>x.sI m/\k.pO m
 | .fs k f _ a=>k.pO m/\f.pt<m/\a<m
 | .fo k f _ a=>k.pO m/\f.pt<m/\a<m
 | .fc k _ _=>k.pO m
 | .gv _ p=>p<m
 | .du _ _ _ p=>p<m
 | _=>True
def LX.pO:LX->Prop
 | .go x z=>x.pO z.made
 | .out o z=>o.bc<z.made
 | .stuck=>True
theorem FK.ia(h:m<=n)(a:k.pO m):k.pO n:=by
 cases k with
 | fin p=>exact aZ a h
 | _=>trivial
theorem LK.ia(h:m<=n){k:LK}(a:k.pO m):k.pO n:=by
 cases k with
 | fh k=>exact FK.ia h a
 | fn k f=>exact⟨FK.ia h a.1,aZ a.2 h⟩
 | fr k f=>exact⟨FK.ia h a.1,aZ a.2 h⟩
 | out o=>exact aZ a h
 | clr o=>exact aZ a h
 | pt _ _=>trivial
 | dc _ o=>exact aZ a h
theorem Bb(h:df z i= .go x z'):x.sI z'.made/\z'.made=z.made:=by
 have a:=JF z i;have b:=sC z i;rw[h]at a b;exact⟨a,b⟩
theorem JE(h:df z i= .ret t z'):z'.made=z.made:=by
 have a:=sC z i;rw[h]at a;exact a
theorem ot(h:o.bc<z.made):(fF o z).pO:=by
 unfold fF;cases b:df z 0 with
 | go x a=>obtain⟨d,c⟩:=Bb b;exact⟨d,by show o.bc<a.made;rw[c];exact h⟩
 | ret t a=>show o.bc<a.made;rw[JE b];exact h
 | stuck=>trivial
theorem IH{n:Int}(h:o.bc<z.made):(fa n o z).pO:=by
 unfold fa;cases b:df z 0 with
 | go x a=>obtain⟨d,c⟩:=Bb b;exact⟨d,by show o.bc<a.made;rw[c];exact h⟩
 | ret t a=>exact⟨trivial,by show o.bc<a.made;rw[JE b];exact h⟩
 | stuck=>trivial
theorem xC{op:LOp}{b:Bool}{c d next:Int}{pt:Nat}(e:k.pO z.made)(a:pt<z.made):(iJ op k b c d next pt z).pO:=by
 cases k with
 | get=>
  simp only[iJ];split
  ·exact a
  exact ot a
 | put n=>
  simp only[iJ];split
  ·split
   ·exact⟨trivial,a⟩
   exact ot a
  split
  ·exact⟨trivial,trivial⟩
  trivial
 | del=>
  simp only[iJ];split
  ·trivial
  exact ot a
 | fin p=>exact ot e
theorem wY{op:LOp}{f:Fp}(b:k.pO z.made)(a:f.pt<z.made):(eR op k f z).pO:=by
 unfold eR;split
 ·exact xC b a
 exact⟨trivial,b,a⟩
theorem resL_pO{op:LOp}{k:LK}(a:k.pO z.made)(b:(SX.ret t z).sI):(ic op t z k).pO:=by
 cases k with
 | fh k=>cases t with
  | gd v p=>exact wY a (show p<z.made by have:p+2=z.made:=b;omega)
  | tk _ _ _=>trivial
  | un=>trivial
 | fn k f=>cases t with
  | gd v p=>exact⟨a.1,a.2,by have:p+2=z.made:=b;omega⟩
  | tk _ _ _=>trivial
  | un=>trivial
 | fr k f=>exact wY a.1 a.2
 | out o=>exact a
 | clr o=>exact ot a
 | pt c d=>cases t with
  | tk n p ok=>cases ok<;>trivial
  | gd _ _=>trivial
  | un=>trivial
 | dc n o=>exact⟨trivial,a⟩
theorem LPh.pO_step(th:Int)(op:LOp){x:LPh}(h:x.pO z.made)(r:Int × Bool):(x.stp th op z r).pO:=by
 have a:z.made<=z.got.made:=oU _;have g:z.made<z.got.made:=Nat.lt_succ_self _;cases x with
 | sub x k=>
  have e:=Sub.Je th h.1 r;have b:=Sub.at th z x r;simp only[LPh.stp];cases j:x.stp th z r with
  | go o i=>
   rw[j]at e b;have b:i.made=z.made+1:=b;exact⟨e,LK.ia M h.2⟩
  | ret t i=>
   rw[j]at e b;have b:i.made=z.made+1:=b;exact resL_pO (LK.ia M h.2) e
  | stuck=>trivial
 | fs k f next l=>
  simp only[LPh.stp];split
  ·exact⟨trivial,FK.ia a h.1⟩
  exact⟨FK.ia a h.1,aZ h.2.1 a,aZ h.2.2 a⟩
 | fo k f next l=>
  simp only[LPh.stp];split
  ·exact FK.ia a h.1
  split
  ·exact wY (FK.ia a h.1) (aZ h.2.2 a)
  split
  ·exact xC (FK.ia a h.1) (aZ h.2.2 a)
  exact xC (FK.ia a h.1) (by show z.made-1<z.made+1;omega)
 | fc k f m=>
  simp only[LPh.stp];split
  ·exact⟨trivial,FK.ia a h,g⟩
  exact⟨trivial,FK.ia a h⟩
 | gv n p=>exact ot (aZ h a)
 | p1 n d c=>trivial
 | p2 n d c=>trivial
 | p0 n d c=>trivial
 | pc n d c=>
  simp only[LPh.stp];split
  ·exact ot g
  exact⟨trivial,trivial⟩
 | dm d c next=>
  simp only[LPh.stp];split
  ·exact g
  exact⟨trivial,trivial⟩
 | du d c next p=>
  simp only[LPh.stp];split
  ·exact IH (aZ h a)
  exact⟨trivial,aZ h a⟩
theorem Mp{th me:Int}{op:LOp}:∀(l:Log) {x:LPh} {z z':Pz} {o:dx},x.pO z.made->fp th me op x z l= .fin (o,z')->o.bc<z'.made
 | [],x,z,z',o,_,h=>by cases h
 | r :: l,x,z,z',o,hp,h=>by
  rw[eH]at h;have a:=LPh.pO_step th op hp r;cases b:x.stp th op z r with
  | go f c=>rw[b]at h a;exact Mp l a h
  | out g c=>
   rw[b]at h a;injection h with h;injection h with d e;subst d e;exact a
  | stuck=>rw[b]at h;cases h
end
section
variable {z z':Pz} {lo:LOp} {g:cq} {o:dx} {n:Int}
section
variable {L:Log} {S:LX} {th me:Int} {op:LOp}
def xV(L:Log)(S:LX)(th me:Int)(op:LOp)(o:dx):Prop:=
 (o.is=O->∃a,cK th me op S (L.take o.bc)= .ask a/\a.v=aV o.node)/\(o.is=X->∃r,L[o.bc+2]? =J r/\r.1=aV o.node)/\Rg o.node
def FK.isP:FK->Prop
 | .put n=>Rg n
 | _=>False
def LK.pI(L:Log)(S:LX)(th me:Int)(op:LOp):LK->Prop
 | .fh k=>k.isP
 | .fn k f=>k.isP/\Rg f.cur
 | .fr k f=>k.isP/\Rg f.cur
 | .out o=>xV L S th me op o
 | .clr o=>xV L S th me op o
 | .pt _ a=>Rg a
 | .dc _ _=>False
def LPh.pI(L:Log)(S:LX)(th me:Int)(op:LOp)(m:Nat):LPh->Prop
 | .sub x k=>x.sI m/\k.pI L S th me op
 | .fs k f _ a=>k.isP/\Rg f.cur/\a+2=m
 | .fo k f _ a=>k.isP/\Rg f.cur/\∃r,L[a+2]? =J r/\r.1=aV f.cur
 | .fc k f b=>k.isP/\Rg b
 | .p1 n _ _=>Rg n
 | .p2 n _ _=>Rg n
 | .p0 n _ _=>Rg n
 | .pc n _ _=>Rg n
 | _=>False
def pIX(L:Log)(S:LX)(th me:Int)(op:LOp):LX->Prop
 | .go x z=>x.pI L S th me op z.made
 | .out o _=>xV L S th me op o
 | .stuck=>True
theorem Bf(h:xV L S th me op o):pIX L S th me op (fF o z):=by
 unfold fF;cases a:df z 0 with
 | go x b=>exact⟨(Bb a).1,h⟩
 | ret t b=>exact h
 | stuck=>trivial
theorem xD{b:Bool}{f a next:Int}{pt:Nat}(e:Rg n)(d:Rg a)(h:b=O->∃r,L[pt+2]? =J r/\r.1=aV a):pIX L S th me op (iJ op (.put n) b f a next pt z):=by
 simp only[iJ];cases b with
 | true=>
  have c:xV L S th me op ⟨0,X,pt,a⟩:=by
   refine⟨λh=>?_,λ_=>h Z,d⟩;cases h
  rw[if_pos Z];split
  ·exact⟨trivial,c⟩
  exact Bf c
 | false=>
  rw[if_neg zD];split
  ·exact⟨trivial,d⟩
  exact e
theorem rg0:Rg 0:=⟨zD,zD⟩
theorem wZ{f:Fp}(a:Rg n)(b:Rg f.cur):pIX L S th me op (eR op (.put n) f z):=by
 unfold eR;split
 ·exact xD a rg0 (λh=>by cases h)
 exact⟨trivial,a,b⟩
theorem resL_pI{k:LK}{t:Ret}(a:k.pI L S th me op)(b:(SX.ret t z).sI):pIX L S th me op (ic op t z k):=by
 cases k with
 | fh k=>cases k with
  | put n=>cases t with
   | gd v p=>exact wZ a (Av v)
   | tk _ _ _=>trivial
   | un=>trivial
  | _=>exact a.elim
 | fn k f=>cases t with
  | gd v p=>exact⟨a.1,a.2,b⟩
  | tk _ _ _=>trivial
  | un=>trivial
 | fr k f=>cases k with
  | put n=>exact wZ a.1 a.2
  | _=>exact a.1.elim
 | out o=>exact a
 | clr o=>exact Bf a
 | pt c d=>cases t with
  | tk n p ok=>
   cases ok with
   | true=>exact b
   | false=>trivial
  | gd _ _=>trivial
  | un=>trivial
 | dc n o=>exact a.elim
theorem LPh.pI_step{x:LPh}(h:x.pI L S th me op z.made)(m:∀e,cK th me op S (L.take z.made++e)=fp th me op x z e){r:Int × Bool}(i:L[z.made]? =J r):pIX L S th me op (x.stp th op z r):=by
 cases x with
 | sub x k=>
  have c:=Sub.Je th h.1 r;simp only[LPh.stp];cases d:x.stp th z r with
  | go q l=>rw[d]at c;exact⟨c,h.2⟩
  | ret t l=>rw[d]at c;exact resL_pI h.2 c
  | stuck=>trivial
 | fs k f next j=>
  cases k with
  | put n=>
   simp only[LPh.stp];split
   ·exact⟨trivial,h.1⟩
   rename_i g;exact⟨h.1,h.2.1,r,by rw[h.2.2];exact i,Decidable.of_not_not g⟩
  | _=>exact h.1.elim
 | fo k f next j=>
  cases k with
  | put n=>
   simp only[LPh.stp];split
   ·exact⟨h.1,Av next⟩
   split
   ·exact wZ h.1 (Av next)
   split
   ·exact xD h.1 h.2.1 (λ_=>h.2.2)
   exact xD h.1 h.2.1 (λh=>by cases h)
  | _=>exact h.1.elim
 | fc k f o=>
  cases k with
  | put n=>
   simp only[LPh.stp];split
   ·exact⟨trivial,h.1,h.2⟩
   exact⟨trivial,h.1⟩
  | _=>exact h.1.elim
 | gv n p=>exact h.elim
 | p1 n b a=>exact h
 | p2 n b a=>exact h
 | p0 n b a=>exact h
 | pc n b a=>
  simp only[LPh.stp];split
  ·refine Bf ⟨λ_=>⟨(LPh.pc n b a).acc me op,?_,Z⟩,(λh=>by cases h),h⟩;have:=m [];rw[List.append_nil]at this;exact this
  exact⟨trivial,h⟩
 | dm b a next=>exact h.elim
 | du b a next p=>exact h.elim
theorem Mq:∀(l:Log) {x:LPh} {z z':Pz} {o:dx},L.drop z.made=l->(∀l',cK th me op S (L.take z.made++l')=fp th me op x z l')->x.pI L S th me op z.made->fp th me op x z l= .fin (o,z')->xV L S th me op o
 | [],x,z,z',o,_,_,_,h=>by cases h
 | r :: l,x,z,z',o,hl,hR,hp,h=>by
  have e:L[z.made]? =J r:=by
   have:=congrArg (λl=>l[0]?) hl
   simpa using this
  rw[eH]at h;have b:=LPh.pI_step hp hR e;have a:=LPh.at th op z x r;have f:∀l',cK th me op S (L.take (z.made+1)++l')=cK th me op (x.stp th op z r) l':=λl'=>by
   rw[qy,e];show cK th me op S (L.take z.made++[r]++l')=_;rw[List.append_assoc,hR,List.singleton_append,eH]
  cases d:x.stp th op z r with
  | go g c=>
   rw[d]at h b a f;have a:c.made=z.made+1:=a;refine Mq l (x:=g) (z:=c) ?_ (λl'=>by rw[a];exact f l') b h;rw[a,<- List.drop_drop,hl];rfl
  | out k c=>
   rw[d]at h b;injection h with h;injection h with i j;subst i;exact b
  | stuck=>rw[d]at h;cases h
theorem MI{L:Log}{th me:Int}(c:lo.kind=2)(h:cK th me lo (cW lo g) L= .fin (o,z')):xV L (cW lo g) th me lo o:=by
 have a:cW lo g= .go (.sub (.g1 0 (.nd lo.h 0)) (.fh (.put 0))) ⟨[0,0,0],g,0⟩:=by unfold cW;rw[c];rfl
 have b:fp th me lo (.sub (.g1 0 (.nd lo.h 0)) (.fh (.put 0))) ⟨[0,0,0],g,0⟩ L= .fin (o,z'):=by rw[a]at h;exact h
 exact Mq L (x:=.sub (.g1 0 (.nd lo.h 0)) (.fh (.put 0))) (z:=⟨[0,0,0],g,0⟩) Z (λd=>by rw[a];rfl) ⟨trivial,rg0⟩ b
theorem o8(a:lo.kind=1\/lo.kind=2\/lo.kind=3):∃k,cW lo g= .go (.sub (.g1 0 (.nd lo.h 0)) (.fh k)) ⟨[0,0,0],g,0⟩/\∀m,k.pO m:=by
 rcases a with h|h|h
 ·exact⟨.get,by unfold cW;rw[h];rfl,λ_=>trivial⟩
 ·exact⟨.put 0,by unfold cW;rw[h];rfl,λ_=>trivial⟩
 exact⟨.del,by unfold cW;rw[h];rfl,λ_=>trivial⟩
theorem lo_fin{L:Log}{th me:Int}(j:lo.kind=1\/lo.kind=2\/lo.kind=3)(h:cK th me lo (cW lo g) L= .fin (o,z')):
  o.bc<z'.made/\z'.made<=L.length/\(∀n,z'.made<=n->cK th me lo (cW lo g) (L.take n)= .fin (o,z'))/\(∀n,n<z'.made->∃a,cK th me lo (cW lo g) (L.take n)= .ask a):=by
 obtain⟨k,f,b⟩:=o8 (g:=g) j;rw[f]at h ⊢;obtain⟨l,i,c,e⟩:=As L h;exact⟨Mp L (x:=.sub (.g1 0 (.nd lo.h 0)) (.fh k)) (z:=⟨[0,0,0],g,0⟩) ⟨trivial,b _⟩ h,by have:z'.made<=0+L.length:=i;omega,λn d=>c n (by show z'.made<=0+n;omega),λn d=>e n (by show 0+n<z'.made;omega)⟩
theorem lo_pre{L:Log}{th me:Int}(b:lo.kind=1\/lo.kind=2\/lo.kind=3)(h:cK th me lo (cW lo g) L≠ .stuck)(n:Nat):cK th me lo (cW lo g) (L.take n)≠ .stuck:=by
 obtain⟨k,a,c⟩:=o8 (g:=g) b;rw[a]at h ⊢;exact Jg L h n
end
def nW(th bk me:Int)(op:MOp):MPh->Nat->cq->Log->An Out
 | x,_,_,[]=>.ask (x.acc me)
 | x,n,g,r :: l=>match x.stp th bk op n g r with
  | .go c b a=>nW th bk me op c b a l
  | .out o=>.fin o
  | .stuck=>.stuck
def eD(th bk me:Int)(op:MOp):MX->Log->An Out
 | .go x n g,l=>nW th bk me op x n g l
 | .out o,_=>.fin o
 | .stuck,_=>.stuck
theorem tt(th bk me:Int)(op:MOp)(x:MPh)(n:Nat)(g:cq)(r:Int × Bool)(l:Log):nW th bk me op x n g (r :: l)=eD th bk me op (x.stp th bk op n g r) l:=by
 cases h:x.stp th bk op n g r<;>simp[nW,eD,h]
def doM(a:LAc)(F:Int × Bool->Log->An Out):Log->An Out
 | []=>.ask a
 | r :: l=>F r l
theorem mJ(th bk me:Int)(op:MOp)(x:MPh)(n:Nat)(g:cq)(l:Log):nW th bk me op x n g l=doM (x.acc me) (λr a=>eD th bk me op (x.stp th bk op n g r) a) l:=by
 cases l with
 | nil=>rfl
 | cons r l=>exact tt th bk me op x n g r l
def OP(dm:Bool)(op:MOp)(sz:Int)(m:Nat)(o:dx)(s:Pz):MX:=
 if dm then .go (.m4 sz o.node) (m+s.made) s.gone else gB op sz { o with bc:=m+o.bc } (m+s.made) s.gone
def Da(th bk me:Int)(op:MOp)(dm:Bool)(sz:Int)(m:Nat)(q:An (dx × Pz))(l:Log)(d:Nat):An Out:=match q with
 | .ask a=>.ask a
 | .fin (o,s)=>eD th bk me op (OP dm op sz m o s) (l.drop (s.made-d))
 | .stuck=>.stuck
theorem Ji(th bk me:Int)(op:MOp)(dm:Bool)(sz:Int)(m:Nat)(lo:LOp):∀(l:Log) (x:LPh) (s:Pz) (n:Nat) (g:cq),nW th bk me op (.ml dm sz m lo x s) n g l=Da th bk me op dm sz m (fp th me lo x s l) l s.made
 | [],x,s,n,g=>rfl
 | r :: l,x,s,n,g=>by
  rw[tt,eH];have c:=LPh.at th lo s x r;show eD th bk me op ((x.stp th lo s r).inM dm sz m lo λo b=>OP dm op sz m o b) l=_;cases f:x.stp th lo s r with
  | go d b=>
   rw[f]at c;have c:b.made=s.made+1:=c;show nW th bk me op (.ml dm sz m lo d b) (m+b.made) b.gone l=Da th bk me op dm sz m (fp th me lo d b l) (r :: l) s.made;rw[Ji th bk me op dm sz m lo l d b];cases h:fp th me lo d b l with
   | ask a=>rfl
   | stuck=>rfl
   | fin p=>
    obtain⟨o,e⟩:=p;have i:=(As l h).1;show eD _ _ _ _ _ (l.drop (e.made-b.made))=eD _ _ _ _ _ ((r :: l).drop (e.made-s.made));rw[show e.made-s.made=(e.made-b.made)+1 by omega];rfl
  | out o b=>
   rw[f]at c;have c:b.made=s.made+1:=c;show eD _ _ _ _ _ l=eD _ _ _ _ _ ((r :: l).drop (b.made-s.made));rw[show b.made-s.made=1 by omega];rfl
  | stuck=>rfl
theorem vS(th bk me:Int)(op:MOp)(dm:Bool)(sz:Int)(m:Nat)(lo:LOp)(g:cq)(b:lo.kind=1\/lo.kind=2\/lo.kind=3)(l:Log)(f:dx->Pz->MX):eD th bk me op ((cW lo g).inM dm sz m lo f) l=Da th bk me op dm sz m (cK th me lo (cW lo g) l) l 0:=by
 obtain⟨k,a,-⟩:=o8 (g:=g) b;rw[a];exact Ji th bk me op dm sz m lo l _ _ _ _
end
def SX.gN(N:Nat):SX->Prop
 | .go _ s=>s.gone.length<=N
 | .ret _ s=>s.gone.length<=N
 | .stuck=>True
def LX.gN(N:Nat):LX->Prop
 | .go _ s=>s.gone.length<=N
 | .out _ s=>s.gone.length<=N
 | .stuck=>True
section
variable {N:Nat} {th:Int} {z:Pz}
theorem Bd(h:z.gone.length<=N)(i:Nat):(df z i).gN N:=by unfold df;split<;>exact h
theorem Sub.gN(b:th<=N)(h:z.gone.length<=N)(x:Sub)(r:Int × Bool):(x.stp th z r).gN N:=by
 cases x with
 | cl i=>exact Bd (z:={ z.got with eras:=z.eras.set i 0 }) h _
 | r2 n e=>
  simp only[Sub.stp];split
  ·rename_i a;show (z.gone++[(n,e)]).length<=N;rw[bE];show z.gone.length+1<=N;omega
  trivial
 | _=>simp only[Sub.stp];(try split)<;>first|exact h | trivial
theorem vq{X:SX}(h:X.gN N)(k:LK)(f:Ret->Pz->LX)(a:∀t s,s.gone.length<=N->(f t s).gN N):(X.lS k f).gN N:=by
 cases X with
 | go x z=>exact h
 | ret t z=>exact a t z h
 | stuck=>trivial
theorem Bg(o:dx)(h:z.gone.length<=N):(fF o z).gN N:=vq (Bd h 0) _ _ λ_ _ h=>h
theorem IJ(n:Int)(o:dx)(h:z.gone.length<=N):(fa n o z).gN N:=vq (Bd h 0) _ _ λ_ _ h=>h
theorem Db(op:LOp)(k:FK)(b:Bool)(a c next:Int)(pt:Nat)(h:z.gone.length<=N):(iJ op k b a c next pt z).gN N:=by
 cases k<;>simp only[iJ]<;>(repeat' split)<;>first|exact h|exact Bg _ h
theorem Cw(op:LOp)(k:FK)(f:Fp)(h:z.gone.length<=N):(eR op k f z).gN N:=by
 unfold eR;split
 ·exact Db _ _ _ _ _ _ _ h
 exact h
theorem resL_gN(op:LOp)(k:LK)(t:Ret)(h:z.gone.length<=N):(ic op t z k).gN N:=by
 cases k<;>simp only[ic]<;>(repeat' split)<;>first|exact h|exact Bg _ h|exact Cw _ _ _ h|trivial
theorem LPh.gN(c:th<=N)(h:z.gone.length<=N)(op:LOp)(x:LPh)(r:Int × Bool):(x.stp th op z r).gN N:=by
 have a:z.got.gone.length<=N:=h;cases x with
 | sub x k=>exact vq (Sub.gN c h x r) k _ λt s b=>resL_gN op k t b
 | _=>
  simp only[LPh.stp]
  (repeat' split)<;>first|exact a|exact Bg _ a|exact IJ _ _ a|exact Cw _ _ _ a|exact Db _ _ _ _ _ _ _ a
theorem Ms{g:Int}{op:LOp}(c:th<=N):∀(l:Log) {x:LPh} {z z':Pz} {o:dx},z.gone.length<=N->fp th g op x z l= .fin (o,z')->z'.gone.length<=N
 | [],x,z,z',o,_,h=>by cases h
 | r :: l,x,z,z',o,hp,h=>by
  rw[eH]at h;have a:=LPh.gN c hp op x r;cases b:x.stp th op z r with
  | go i d=>rw[b]at h a;exact Ms c l a h
  | out j d=>
   rw[b]at h a;injection h with h;injection h with e f;subst e f;exact a
  | stuck=>rw[b]at h;cases h
theorem Js{d:Int}{lo:LOp}{g:cq}{L:Log}{o:dx}{z':Pz}(b:th<=N)(e:lo.kind=1\/lo.kind=2\/lo.kind=3)(a:g.length<=N)(h:cK th d lo (cW lo g) L= .fin (o,z')):z'.gone.length<=N:=by
 obtain⟨k,c,-⟩:=o8 (g:=g) e;rw[c]at h;exact Ms b L (z:=⟨[0,0,0],g,0⟩) a h
end
section
open Go.RowKit
variable {B b g i:Nat} {d:Array I} {t1 t2:bM} {w2:W}
def eB(t0:bM)(w w':W):Prop:=∀(g:Nat) (b:Array I) (t:bM) (a:Nat × Nat),w.heap[g]? =J (ag b t a)->t≠t0->w'.heap[g]? =J (ag b t a)
section
variable {w w':W} {t0:bM}
theorem gX{cs':Array I}(k:Bk w b t0 d):eB t0 w (w.setRow b cs'):=by
 intro g c t f h a;have e:g≠b:=by
  rintro rfl;rw[Bk,h]at k;injection k with k;injection k with _ k _;exact a k
 rw[setRow_other _ _ _ _ e];exact h
theorem Bk.dy{t:bM}{cs:Array I}(k:Bk w g t cs)(h:eB t0 w w')(ne:t≠t0):Bk w' g t cs:=h g cs t (0,0) k ne
end
abbrev qX(c1 c2:Array I)(v3:I):I:=.tuple #[.agg c1,.agg c2,v3]
def c3P(b:Nat)(i:Nat):List Nat:=if i=b+1 then [b]else if i=b+2 then [b+1]else if i=b+3 then [b+1]else if i=b+4 then [b+1]else if i=b+7 then [b,b+2,b+5]else if i=b+8 then [b,b+3,b+6]else if i=b+9 then [b+4]else []
def c3R(b B:Nat)(t1 t2:bM)(e f:Array I)(X:Array I->Array I->I->W->Prop)(i:Nat)(val:Nat->Option I)(v:I)(w:W):Prop:=
 if i=b then ∃d a c,v=qX d a c/\X d a c w
 else if i=b+1 then ∃d a c,v=qX d a c/\val b=J v
 else if i=b+2 then ∃d a c,val b=J (qX d a c)/\v= .agg d
 else if i=b+3 then ∃d a c,val b=J (qX d a c)/\v= .agg a
 else if i=b+4 then ∃d a c,val b=J (qX d a c)/\v=c
 else if i=b+5 then ∃g,v=ptr g/\B<=g/\(val (b+7)=Y->Bk w g t1 e)
 else if i=b+6 then ∃g,v=ptr g/\B<=g/\(val (b+8)=Y->Bk w g t2 f)
 else if i=b+7 then ∃g d a c,val b=J (qX d a c)/\val (b+5)=J (ptr g)/\B<=g/\Bk w g t1 d
 else if i=b+8 then ∃g d a c,val b=J (qX d a c)/\val (b+6)=J (ptr g)/\B<=g/\Bk w g t2 a
 else ∃d a c,val b=J (qX d a c)/\v=c
def c3G(b B:Nat)(t1 t2:bM)(i:Nat)(a c:W):Prop:=if i=b+7 then eB t1 a c/\D B a c else if i=b+8 then eB t2 a c/\D B a c else D a.heap.size a c
theorem xL{c d:W}(h:D c.heap.size c d)(a:c3G b c.heap.size t1 t2 i d w2):D c.heap.size c w2:=by
 unfold c3G at a;split at a
 ·exact h.trans a.2
 split at a
 ·exact h.trans a.2
 exact aE h a
theorem xM{qa E:Array I}{X:Array I->Array I->I->W->Prop}(qb:t1≠t2)(L:∀m l f o w2,X m l f o->(eB t1 o w2\/eB t2 o w2\/D o.heap.size o w2)->X m l f w2){j:Nat}(G:i≠j){val:Nat->Option I}{v u:I}{o:W}(hi:val i=J v)(S:val j=Y)(h:c3R b B t1 t2 qa E X i val v o)(n:c3G b B t1 t2 j o w2):c3R b B t1 t2 qa E X i (upd val j u) v w2:=by
 have s:∀k x,val k=J x->upd val j u k=J x:=λk x t=>by
  simp only[upd];split
  ·rename_i e;subst e;rw[S]at t;cases t
  exact t
 have A:∀k,upd val j u k=Y->val k=Y/\k≠j:=λk t=>by
  simp only[upd]at t;split at t
  ·cases t
  rename_i e;exact⟨t,e⟩
 have hd:eB t1 o w2\/eB t2 o w2\/D o.heap.size o w2:=by
  unfold c3G at n;split at n
  ·exact .inl n.1
  split at n
  ·exact .inr (.inl n.1)
  exact .inr (.inr n)
 have F:∀ {g:Nat} {c:Array I},j≠b+7->Bk o g t1 c->Bk w2 g t1 c:=by
  intro g c T k;unfold c3G at n;rw[if_neg T]at n;split at n
  ·exact k.dy n.1 qb
  exact k.aw n
 have H:∀ {g:Nat} {c:Array I},j≠b+8->Bk o g t2 c->Bk w2 g t2 c:=by
  intro g c M k;unfold c3G at n;split at n
  ·exact k.dy n.1 qb.symm
  first
  | exact k.aw n
  | (rw[if_neg M]at n;exact k.aw n)
 unfold c3R at h ⊢;split
 ·rename_i e;rw[if_pos e]at h;obtain⟨m,l,f,a,d⟩:=h;exact⟨m,l,f,a,L _ _ _ _ _ d hd⟩
 rename_i e0;rw[if_neg e0]at h;split
 ·rename_i e;rw[if_pos e]at h;obtain⟨m,l,f,a,d⟩:=h;exact⟨m,l,f,a,s _ _ d⟩
 rename_i qd;rw[if_neg qd]at h;split
 ·rename_i e;rw[if_pos e]at h;obtain⟨m,l,f,a,d⟩:=h;exact⟨m,l,f,s _ _ a,d⟩
 rename_i P;rw[if_neg P]at h;split
 ·rename_i e;rw[if_pos e]at h;obtain⟨m,l,f,a,d⟩:=h;exact⟨m,l,f,s _ _ a,d⟩
 rename_i Q;rw[if_neg Q]at h;split
 ·rename_i e;rw[if_pos e]at h;obtain⟨m,l,f,a,d⟩:=h;exact⟨m,l,f,s _ _ a,d⟩
 rename_i qc;rw[if_neg qc]at h;split
 ·rename_i e;rw[if_pos e]at h;obtain⟨g,a,d,z⟩:=h;exact⟨g,a,d,λq=>F (λy=>(A _ q).2 y.symm) (z (A _ q).1)⟩
 rename_i N;rw[if_neg N]at h;split
 ·rename_i e;rw[if_pos e]at h;obtain⟨g,a,d,z⟩:=h;exact⟨g,a,d,λq=>H (λy=>(A _ q).2 y.symm) (z (A _ q).1)⟩
 rename_i K;rw[if_neg K]at h;split
 ·rename_i e;rw[if_pos e]at h;obtain⟨g,m,l,f,C,a,d,z⟩:=h;exact⟨g,m,l,f,s _ _ C,s _ _ a,d,F (λy=>G (e.trans y.symm)) z⟩
 rename_i R;rw[if_neg R]at h;split
 ·rename_i e;rw[if_pos e]at h;obtain⟨g,m,l,f,C,a,d,z⟩:=h;exact⟨g,m,l,f,s _ _ C,s _ _ a,d,H (λy=>G (e.trans y.symm)) z⟩
 rename_i O;rw[if_neg O]at h;obtain⟨m,l,f,a,d⟩:=h;exact⟨m,l,f,s _ _ a,d⟩
theorem dr{c1 c2 c:Array I}{v3 u3:I}(h:J (qX c1 c2 v3)=J (qX c d u3)):c1=c/\c2=d/\v3=u3:=by
 injection h with h;injection h with h;have a:=congrArg (λx=>x.toList) h;simp only[List.cons.injEq,and_true]at a;obtain⟨a,b,e⟩:=a;injection a with a;injection b with b;exact⟨a,b,e⟩
theorem mM{g':Nat}(h:J (ptr g)=J (ptr g')):g=g':=by
 injection h with h;injection h with h;injection h with h;injection h with h
theorem eS{w:W}(b:B<=g)(a:Array I):D B w (w.setRow g a):=
 ⟨Z,Z,Z,by simp[W.setRow],λk c=>setRow_other w g k a M⟩
end
namespace split
open Go.RowKit
attribute [local go_sem ↓] aQ aR
variable {gb:Nat} {t:bM}
structure Sk where
 l:Ly
 me:Nat
 A:Option Addr
 cap:Nat
 B:Nat
 gp:Nat
abbrev spC(k:Sk)(a:I)(n len:Nat):Array I:=#[V H k.l.c.aO,V H k.l.c.nodes,V H k.l.c.buckets,V H k.l.c.slots,V H k.l.c.tasks,V H k.l.c.cells,V H k.l.c.maps,V H k.l.c.stacks,V H k.l.c.chans,V H k.l.done,V H k.l.count,V H k.l.era,V H k.l.free,V H k.l.alive,V H k.l.owner,V H k.l.resv,V H k.l.deque,V H k.l.ring,V H k.l.task,V H k.l.cell,V H k.l.map,V H k.l.stack,V H k.l.chan,V H k.l.node,V H k.l.size,V H k.me,a,V H 0,.slice k.A len k.cap,V H (n:Nat)]
structure eU (w:W) (k:Sk) (g:cq) (n:Nat) (log:Log):Prop where
 kp:∃gv,Bk w k.gp 141 (spC k gv n log.length)/\GnV w k.gp gv g
 sl:gH w k.B k.A log
 bp:k.B<=k.gp
 le:log.length<=100000
 nle:n<=log.length
 f:eu k.l
section
variable {w w':W} {k:Sk} {g g':cq} {n n':Nat} {log:Log} {q:An Out}
theorem eU.lt(h:eU w k g n log):k.gp<w.heap.size:=by obtain⟨_,a,-⟩:=h.kp;exact a.lt
theorem eU.step(h:eU w k g n log)(s:Stp k.gp w w')(c:∃a,Bk w' k.gp 141 (spC k a n' log.length)/\GnV w' k.gp a g')(b:n'<=log.length):eU w' k g' n' log:=
 ⟨c,h.sl.below (s.part h.bp (by have:=h.lt;have:=h.bp;omega)),h.bp,h.le,b,h.f⟩
theorem eU.aw(h:eU w k g n log)(a:D w.heap.size w w'):eU w' k g n log:=by
 refine h.step (.aT k.gp a) ?_ h.nle;obtain⟨c,b,d⟩:=h.kp;exact⟨c,b.aw a,d.aw a⟩
theorem eU.row{v:Array I}(h:eU w k g n log)(l:Bk w gb t v)(y:k.B<=gb)(c:141≠t/\52≠t)(r:Array I):eU (w.setRow gb r) k g n log:=by
 obtain⟨u,d,m⟩:=h.kp;refine⟨⟨u,d.a6 (d.typ l c.1) r,m.row l c.2 r⟩,?_,h.bp,h.le,h.nle,h.f⟩;intro s;obtain⟨b,o,e,x,f⟩:=h.sl s;exact⟨b,o,e,x,λj a i=>⟨(kI w gb b _ _ M).trans (f j a i).1,(kI w gb b _ _ M).trans (f j a i).2⟩⟩
theorem eU.pz{H:Array I}(h:eU w k g n log)(B:Bk w gb t H)(Q:k.B<=gb)(C:141≠t/\52≠t)(i:Nat)(v:I):eU (w.setCell ⟨gb,i,Y⟩ v) k g n log:=by
 obtain⟨F,A,M⟩:=h.kp;refine⟨⟨F,A.other (p:=⟨gb,i,Y⟩) (A.typ B C.1) v,?_⟩,?_,h.bp,h.le,h.nle,h.f⟩
 ·obtain⟨G,m,c,O,N,S,K⟩:=M;refine⟨G,m,c,O,N,S,λf=>?_⟩;obtain⟨x,o,J,P,u,E,z⟩:=K f;have d:x≠gb:=u.typ B C.2;exact⟨x,o,J,P,u.other (p:=⟨gb,i,Y⟩) d v,E,λj y l=>⟨(iO w ⟨gb,i,Y⟩ x _ _ d).trans (z j y l).1,(iO w ⟨gb,i,Y⟩ x _ _ d).trans (z j y l).2⟩⟩
 intro f;obtain⟨b,o,e,L,D⟩:=h.sl f;have d:b≠gb:=zO;exact⟨b,o,e,L,λj a s=>⟨(iO w ⟨gb,i,Y⟩ b _ _ d).trans (D j a s).1,(iO w ⟨gb,i,Y⟩ b _ _ d).trans (D j a s).2⟩⟩
def uO(l:Ly)(a:LAc):I:=.iface 170 (.agg #[V H a.k,V H (adr l a.c),V H a.o,V H a.v])
abbrev acV(l:Ly)(a:LAc):I:=.agg #[V H a.k,V H (adr l a.c),V H a.o,V H a.v]
def kq{β:Type}(k:Sk)(q:An β)(w:W)(R:I->W->Prop)(e:jK)(w':W):Prop:=
 (∃a,q= .ask a/\e= .panicked [{ v:=uO k.l a,recovered:=X }]/\Stp k.gp w w')\/(∃v,e= .returned v/\R v w'/\Stp k.gp w w')
theorem sdo(a:LAc)(c:Int)(F:Int × Bool->Log->An Out)(h:eU w k g n log)(O:c=adr k.l a.c)(qj:q=doM a F (log.drop n)):
  Calls ao 88 #[ptr k.gp,.agg #[V H a.k,V H c,V H a.o,V H a.v]] w (kq k q w λv w'=>∃x,log[n]? =J x/\v=pd x.1 x.2/\eU w' k g (n+1) log/\q=F x (log.drop (n+1))):=by
 subst O;obtain⟨u,d,hG⟩:=h.kp;have lp:=d.lt;have hle:=h.le;have hm:=h.nle;have Q:=N h;have U:=N qj;have R:=N hG;obtain⟨z,P⟩:=nM (adr k.l a.c);have HA:=N P;rw[P];have d:=(d.alloc (ag #[V H a.k,V H z,V H a.o,V H a.v] 67)).alloc (ag #[V H 0,ah X] 75);have s:=(Bk.made w 67 #[V H a.k,V H z,V H a.o,V H a.v]).alloc (ag #[V H 0,ah X] 75);have e:=((Stp.refl k.gp w).alloc (ag #[V H a.k,V H z,V H a.o,V H a.v] 67)).alloc (ag #[V H 0,ah X] 75);have m:=Bk.new (w.alloc (ag #[V H a.k,V H z,V H a.o,V H a.v] 67)) (g:=w.heap.size+1) zS 75 #[V H 0,ah X];cases A:log[n]? with
 | none=>
  have K:n=log.length:=by have:=List.getElem?_eq_none_iff.1 A;omega
  have L:q= .ask a:=by rw[U.out,C7 A];rfl
  have I:=N L;have heq:((n:Int)==log.length)=true:=zP;go_enter func88,ntmps88;go_upto_region 1 with fail;generalize (w.alloc (ag #[V H a.k,V H z,V H a.o,V H a.v] 67)).alloc (ag #[V H 0,ah X] 75)=qb at *;refine aH (S:=λw'=>Bk w' k.gp 141 (spC k u n log.length)) (E:=λ_=>X) zK ?_;replace d:=d.drew;replace s:=s.drew;replace e:=e.drew;generalize qb.drew=G at *;refine wTq 10 [(0,5,ptr k.gp),(1,6,ptr k.gp),(2,7,ae (J ⟨k.gp,29,Y⟩)),(3,8,V H (n:Nat)),(4,9,ptr k.gp),(5,10,ptr k.gp),(6,11,ae (J ⟨k.gp,28,Y⟩)),(7,12,.slice k.A log.length k.cap),(8,13,V H (log.length:Nat)),(9,14,ah true)] ?_ d ?_
  ·intro w' l;have B:=l.cell 29;have t:=l.cell 28;simp at B t;exact zT
  refine aG zK ?_ _;have c0:=s.cell 0;have c1:=s.cell 1;have c2:=s.cell 2;have c3:=s.cell 3;have la:=s.lt;simp at c0 c1 c2 c3;go_wp2_with fail;exact⟨Z,.inl ⟨a,I.out,by unfold uO;rw[HA.out],e⟩⟩
 | some x=>
  obtain⟨j,f⟩:=x;have K:n<log.length:=(aC.1 A).1;have L:q=F (j,f) (log.drop (n+1)):=by rw[U.out,sB A];rfl
  have I:=N (al L A);have heq:((n:Int)==log.length)=X:=zP;have zp:k.gp<w.heap.size:=lp;go_enter func88,ntmps88;go_upto_region 1 with fail;obtain⟨gr,qi⟩:=nM (w.heap.size+1);rw[qi]at m ⊢;have zr:w.heap.size<gr:=M;generalize (w.alloc (ag #[V H a.k,V H z,V H a.o,V H a.v] 67)).alloc (ag #[V H 0,ah X] 75)=qb at *;refine aH (S:=λw'=>Bk w' k.gp 141 (spC k u n log.length)) (E:=λ_=>X) zK ?_;replace d:=d.drew;replace m:=m.drew;replace e:=e.drew;generalize qb.drew=G at *;refine wTq 10 [(0,5,ptr k.gp),(1,6,ptr k.gp),(2,7,ae (J ⟨k.gp,29,Y⟩)),(3,8,V H (n:Nat)),(4,9,ptr k.gp),(5,10,ptr k.gp),(6,11,ae (J ⟨k.gp,28,Y⟩)),(7,12,.slice k.A log.length k.cap),(8,13,V H (log.length:Nat)),(9,14,ah X)] ?_ d ?_
  ·intro w' l;have B:=l.cell 29;have t:=l.cell 28;simp at B t;exact zT
  refine aG zK ?_ _;have q29:=d.cell 29;have f29:=d.free 29;have l29:=d.lt;simp at q29;go_upto_region 4 with fail;replace e:=e.trans (Stp.set G k.gp 29 (V H ((n+1:Nat):Int)));replace m:=m.other (p:=⟨k.gp,29,Y⟩) (by dsimp only;omega) (V H ((n+1:Nat):Int));replace d:Bk (G.setCell ⟨k.gp,29,Y⟩ (V H ((n+1:Nat):Int))) k.gp 141 (spC k u (n+1) log.length):=d.stored 29 (V H ((n+1:Nat):Int));rw[show ((n:Int)+1)=((n+1:Nat):Int)from Z];generalize G.setCell ⟨k.gp,29,Y⟩ (V H ((n+1:Nat):Int))=y at *;have qg:eU y k g (n+1) log:=Q.out.step e ⟨u,d,R.out.stp e⟩ K;obtain⟨b,qa,hA,CV,O⟩:=qg.sl M;obtain⟨C,D⟩:=O n _ I.out.2;dsimp only at C D;refine aH (S:=λw'=>Below y.drew.heap.size y.drew w') (E:=λi=>i==11) zK ?_;replace d:=d.drew;replace m:=m.drew;replace e:=e.drew;replace C:y.drew.cell? ⟨b,qa+n*2,Y⟩=J (V H j):=C;replace D:y.drew.cell? ⟨b,qa+n*2+1,Y⟩=J (.bool f):=D;generalize y.drew=qc at *;have qe:=N (al C D);have qf:=N hA;refine wTq 11 [(0,25,ptr k.gp),(1,26,ptr k.gp),(2,27,ae (J ⟨k.gp,28,Y⟩)),(3,28,af (J ⟨b,qa,Y⟩) log.length k.cap),(4,29,ptr k.gp),(5,30,ptr k.gp),(6,31,ae (J ⟨k.gp,29,Y⟩)),(7,32,V H ((n+1:Nat):Int)),(8,33,V H (n:Nat)),(9,34,ae (J ⟨b,qa+n*2,Y⟩)),(10,35,.agg #[V H j,.bool f])] ?_ bS ?_
  ·intro w' l;have t:=(d.aw l).cell 28;have B:=(d.aw l).cell 29;have s1:=iF l qe.out.1;have s2:=iF l qe.out.2;have hw1:IntKind.i64.wrap (n:Int)=n:=dh _ M;have g3:(n:Int)<log.length:=M;simp at t B s1 s2;rw[qf.out]at t;exact zT
  refine eG (i:=11) (o:=_) zK Z (λKK qh=>?_);rw[if_pos (by rfl)];refine eC 75 (.tmp 4) (.tmp 35) Z gr #[V H j,.bool f] Z Z 75 #[V H 0,ah X] m zK Z (by simp[aB]) ?_;refine qh.out _ _ (λh=>absurd h zD) ?_;(try simp only[au,ar,an,Act.put]);refine aG zK ?_ _;have kp5:Bk (qc.setRow gr #[V H j,.bool f]) k.gp 141 (spC k u (n+1) log.length):=(setRow_other _ _ _ _ M).trans d;have Ns:=setRow_heap _ _ #[V H 0,ah X] #[V H j,.bool f] 75 (0,0) m;have qd:Stp k.gp w (qc.setRow gr #[V H j,.bool f]):=e.row (.inl M) _;generalize qc.setRow gr #[V H j,.bool f]=w6 at *;go_wp2_with fail;refine aS (v:=pd j f) (bQ (p:=4) (ty:=75) Z _ _ gr 75 #[V H j,.bool f] (0,0) _ Z Ns underlying75 Z zK) Z (.inr ⟨pd j f,Z,⟨(j,f),Z,Z,?_,I.out.1⟩,qd⟩);exact Q.out.step qd ⟨u,kp5,R.out.stp qd⟩ K
end
end split
namespace split
open Go.RowKit
attribute [local go_sem ↓] aQ aR
variable {cap len n:Nat} {A:Option Addr} {a v:I} {o:Oper} {x y:vn} {l:Ly} {w':W}
theorem Hq{w:W}{k:Sk}(c:Bk w k.gp 141 (spC k a n len)):∀(j:Nat) (v:I),(lyC k.l)[j]? =J v->w.cell? ⟨k.gp,0+j,Y⟩=J v:=by
 intro j v h;have b:j<25:=(a9.1 h).1;rw[ea,c.cell j,show spC k a n len=lyC k.l++#[V H k.me,a,V H 0,.slice k.A len k.cap,V H (n:Nat)]from Z,Array.getElem?_append_left b];exact h
theorem Ao{w:W}{k:Sk}(b:Bk w k.gp 141 (spC k a n len)):(cL 34 ⟨k.gp,0,Y⟩).run ao w= .ok (lyV k.l) w:=de w k.gp 0 34 (lyC k.l) _ (Hq b) aK Z zK
theorem GnV.goneAt{w:W}{gp:Nat}{g:cq}(h:GnV w gp v g):bI w v g:=by
 obtain⟨G,n,c,rfl,rfl,i,f⟩:=h;refine⟨G,c,Z,i,λd=>?_⟩;obtain⟨b,o,j,e,a,q,l⟩:=f d;exact⟨b,o,j,e,a.lt,a,l⟩
def slA(A:Option Addr)(lo cap:Nat):Option Addr:=if cap=lo then A else A.map (·.add (lo*2))
theorem gH.sub{w:W}{B:Nat}{l:Log}(h:gH w B A l)(lo n cap:Nat)(j:l.length<=cap):gH w B (slA A lo cap) ((l.drop lo).take n):=by
 intro c;have q:lo<l.length:=by simp at c;omega
 obtain⟨b,o,e,i,f⟩:=h M;refine⟨b,o+lo*2,?_,i,λk r a=>?_⟩
 ·unfold slA;rw[if_neg M,e];show J ((⟨b,o,Y⟩:Addr).add (lo*2))=_;rw[gZ]
 have d:l[lo+k]? =J r:=by
  rw[List.getElem?_take]at a;split at a
  ·rw[List.getElem?_drop]at a;exact a
  cases a
 have:=f _ _ d;rw[show o+lo*2+k*2=o+(lo+k)*2 by omega];exact this
theorem yZ(w:W):(sizeOf (Tryz.prog.elem 43)).run ao w= .ok 2 w:=zK
theorem run_slh(A:Option Addr)(len cap n:Nat)(h:n<=cap)(w:W):(Instr.sliceAt 43 (.slice A len cap) Y (J (V H (n:Int))) Y).run ao w= .ok (.slice (slA A 0 cap) n cap) w:=by
 refine(run_sliceAt_slice (P:=ao) (w:=w) 43 _ _ _ _ zK).trans ?_;refine(run_slice_h (P:=ao) (w:=w) 43 A len cap zK .i64 n M M).trans ?_;rw[yZ];simp only[bC,sliced,slA,BA,Nat.sub_zero]
theorem run_sll(A:Option Addr)(len cap n:Nat)(h:n<=len)(w:W):(Instr.sliceAt 43 (.slice A len cap) (J (V H (n:Int))) Y Y).run ao w= .ok (.slice (slA A n cap) (len-n) (cap-n)) w:=by
 refine(run_sliceAt_slice (P:=ao) (w:=w) 43 _ _ _ _ zK).trans ?_;refine(run_slice_l (P:=ao) (w:=w) 43 A len cap zK .i64 n M M).trans ?_;rw[yZ];simp only[bC,sliced,slA,BA]
theorem Ok{a:Act}{w:W}(ho:o.op= .slice 43 x Y (J y) Y)(c:a.eval x= .slice A len cap)(b:a.eval y=V H (n:Int))(h:n<=cap):(nO a.eval o).run ao w= .ok (.value (.slice (slA A 0 cap) n cap)) w:=by
 unfold nO;simp only[ho,c,b,Option.map,cD,run_slh A len cap n h,bC,dF]
theorem Oj{a:Act}{w:W}(ho:o.op= .slice 43 x (J y) Y Y)(c:a.eval x= .slice A len cap)(b:a.eval y=V H (n:Int))(h:n<=len):(nO a.eval o).run ao w= .ok (.value (.slice (slA A n cap) (len-n) (cap-n))) w:=by
 unfold nO;simp only[ho,c,b,Option.map,cD,run_sll A len cap n h,bC,dF]
def LnX(l:Ly)(q:An (dx × Pz))(c1 c2:Array I)(v3:I)(w:W):Prop:=
 ∃e d t s h f n b i gn j c,c1=bj e d t s/\c2=bg h f n b (.slice i gn j)/\v3= .bool c/\
  ((∃a,q= .ask a/\bj e d t s=bj a.k (adr l a.c) a.o a.v/\bg h f n b (.slice i gn j)=aW/\c=X)\/
   (∃o u,q= .fin (o,u)/\bj e d t s=cG/\h=o.val/\f=o.is/\n=0/\b=(o.bc:Nat)/\c=O/\bI w (.slice i gn j) u.gone))
theorem bI.dy{w l:W}{g:cq}{t:bM}(h:bI w v g)(B:eB t w l)(A:52≠t):bI l v g:=by
 obtain⟨G,c,y,z,u⟩:=h;refine⟨G,c,y,z,λs=>?_⟩;obtain⟨b,o,x,e,C,f,n⟩:=u s;have a:=f.dy B A;refine⟨b,o,x,e,a.lt,a,λj r i=>?_⟩;have q:=a.cell (o+j*2);have d:=a.cell (o+j*2+1);rw[<- f.cell]at q d;exact⟨q.trans (n j r i).1,d.trans (n j r i).2⟩
def l1T:Nat->Nat|16=>29|17=>12|18=>30|19=>31|20=>32|21=>9|22=>10|23=>51|24=>52|25=>11|_=>53
theorem kD(l:Ly)(q:An (dx × Pz))(c1 c2:Array I)(v3:I)(b w2:W)(h:LnX l q c1 c2 v3 b)(a:(eB 67 b w2\/eB 70 b w2\/D b.heap.size b w2)):LnX l q c1 c2 v3 w2:=by
 obtain⟨t,s,x,G,E,y,B,C,e,gn,v,K,rfl,rfl,rfl,c⟩:=h;refine⟨t,s,x,G,E,y,B,C,e,gn,v,K,Z,Z,Z,?_⟩;rcases c with c|⟨o,u,i,n,z,F,A,f,j,d⟩
 ·exact .inl c
 refine .inr ⟨o,u,i,n,z,F,A,f,j,?_⟩;rcases a with a|a|a
 ·exact bI.dy d a zD
 ·exact bI.dy d a zD
 exact d.aw a
theorem qx{q:An (dx × Pz)}{w:W}{e:jK}(h:list.mS l q w e w'):∃j d f,e=ai (qX j d f)/\LnX l q j d f w'/\D w.heap.size w w':=by
 obtain⟨t,i⟩:=h;rcases t with⟨a,b,rfl⟩|⟨o,s,v,b,rfl,u⟩
 ·exact⟨_,_,_,Z,⟨_,_,_,_,_,_,_,_,_,_,_,_,Z,Z,Z,.inl ⟨a,b,Z,Z,Z⟩⟩,i⟩
 obtain⟨G,c,rfl,n⟩:=u;exact⟨_,_,_,Z,⟨_,_,_,_,_,_,_,_,_,_,_,_,Z,Z,Z,.inr ⟨o,s,b,Z,Z,Z,Z,Z,Z,⟨G,c,Z,n⟩⟩⟩,i⟩
theorem OX{q:An (dx × Pz)}{w:W}{c1 c2:Array I}{v3:I}(h:LnX l q c1 c2 v3 w')(j:D w.heap.size w w'):list.mS l q w (ai (qX c1 c2 v3)) w':=by
 obtain⟨v,u,s,B,y,x,C,n,z,gn,A,t,rfl,rfl,rfl,f⟩:=h;refine⟨?_,j⟩;rcases f with⟨a,b,c,e,rfl⟩|⟨o,i,b,c,rfl,rfl,rfl,rfl,rfl,d⟩
 ·exact .inl ⟨a,b,by rw[c,e]⟩
 exact .inr ⟨o,i,_,b,by rw[c],d⟩
section
variable {w:W} {k:Sk} {g:cq} {m:Nat} {log:Log}
theorem lnx1(n:Nat)(lo:LOp)(op:Opr)(A2:Option Addr)(Dl:Nat)(L:Log)(b5 ky oW JP:Nat)(hd:Int)(h:eU w k g m log)(LG:1<=k.l.c.aO/\k.l.c.aO<=8)(hh:lo.h<=9223372036854775807)(ho:op.obj=nodeAt k.l lo.h 0)(Jw:0<=op.obj/\op.obj<k.l.size)(hoo:op.a=lo.o/\op.b=lo.v)(hk:op.kind=lo.kind)(oP:lo.kind=1\/lo.kind=2\/lo.kind=3)(X:Bk w b5 139 #[ptr k.gp])(k13:Bk w ky 54 (di op))(AT:Bk w oW 43 #[.slice A2 L.length Dl])(KI:Bk w JP 3 #[aa ab hd])(zR:0<=hd)(hs:gH w k.B A2 L)(ID:L.length<=Dl)(hl:L.length<=100000)(hn:n<=L.length)(q:An (dx × Pz))(hq:q=cK (2*k.l.c.aO) k.me lo (cW lo g) (L.take n))(mF:q≠ .stuck)(uM:∀o z',q= .fin (o,z')->z'.gone.length<=1000):
  Calls ao 124 #[aa ab (n:Nat),ptr b5,ptr ky,ptr oW,ptr JP] w (list.mS k.l q w):=by
 obtain⟨gv,kp,hG⟩:=h.kp;have HF:=aj h.f;have HB:=aj (al h.bp h.lt);have HA:=aj (al LG (al hh (al ho (al Jw (al hoo (al hk oP))))));have HQ:=aj (al hq (al mF uM));have HL:=aj (al hs (al ID (al hl hn)));have HG:=aj hG;have hh0:decide (hd<0)=false:=zP;have H:=aA (bA w (ag cG 67)) (ag aW 70);have F:=(Bk.made w 67 cG).alloc (ag aW 70);have J:=Bk.new (w.alloc (ag cG 67)) (g:=w.heap.size+1) zS 70 aW;replace kp:=kp.aw H;replace X:=X.aw H;replace k13:=k13.aw H;replace AT:=AT.aw H;replace KI:=KI.aw H;clear h LG hh ho Jw hoo hk oP hs ID hl hn hq mF uM hG zR;go_enter func124,ntmps124;go_upto_region 1 with fail;generalize (w.alloc (ag cG 67)).alloc (ag aW 70)=w0 at *;obtain⟨qa,h6⟩:=nM (w.heap.size);have HW:=aj h6;rw[h6]at F J ⊢;clear h6;obtain⟨b7,h7⟩:=nM (qa+1);rw[h7]at J ⊢;have z6:qa<b7:=M;clear h7;refine aH (S:=λw'=>Below w0.drew.heap.size w0.drew w') (E:=λ_=>false) zK ?_;replace kp:=kp.drew;replace X:=X.drew;replace k13:=k13.drew;replace AT:=AT.drew;replace KI:=KI.drew;replace F:=F.drew;replace J:=J.drew;replace H:=H.drew;generalize w0.drew=w1 at *;refine wTq 13 [(0,13,ptr k.gp),(1,14,ptr k.gp),(2,15,ptr k.gp),(4,17,ptr k.gp),(5,18,ptr k.gp),(6,19,ae (some ⟨k.gp,25,Y⟩)),(7,20,aa ab k.me),(8,21,ptr k.gp),(9,22,ptr k.gp),(10,23,ae (some ⟨k.gp,26,Y⟩)),(11,24,gv),(13,26,.slice A2 L.length Dl),(14,27,aa ab (n:Nat))] ?_ bS ?_
 ·intro w' D;have c5:=(X.aw D).cell 0;have yE:=(AT.aw D).cell 0;have c25:=(kp.aw D).cell 25;have c26:=(kp.aw D).cell 26;simp at c5 yE c25 c26;exact zT
 refine wTq 1 [(3,16,lyV k.l)] ?_ bS ?_
 ·intro w' D;have kE:=Ao (kp.aw D);exact zL
 refine wTq 1 [(12,25,.agg (di op))] ?_ bS ?_
 ·intro w' D;have NO:(cL 54 ⟨ky,0,Y⟩).run ao w'= .ok (.agg (di op)) w':=a7 w' ky 54 54 (di op) (0,0) _ (k13.aw D) underlying54 Z zK
  (repeat' (first|exact bd|refine al ⟨_,Z,.inl ⟨Z,?_⟩⟩ ?_))
  all_goals exact list.dp Z Z NO
 refine wTq 1 [(15,28,.slice (slA A2 0 Dl) n Dl)] ?_ bS ?_
 ·intro w' D
  (repeat' (first|exact bd|refine al ⟨_,Z,.inl ⟨Z,?_⟩⟩ ?_))
  all_goals exact Ok Z Z Z (by have:=HL.out;omega)
 have HBL:=aj H;refine jR (U:=[16,17,18,19,20,21,22,23,24,25]) (tmp:=l1T) (pre:=c3P 16) (T:=λw'=>Below w1.heap.size w1 w') (N:=λ_ _=>True) (G:=c3G 16 w1.heap.size 67 70) (R:=c3R 16 w1.heap.size 67 70 cG aW (LnX k.l q)) zK (λ_ _=>Z) (λw2 h=>h) bS (λi hi w3 w4 h1 h2=>xL h1 h2) (λ_ _=>trivial) (λ_ _ _ _ _ _ _ _ _ _=>trivial)
  (λi hi j hj yw nf v u w3 w4 hT hvi AV hp hr hg=>xM zD (kD k.l q) yw hvi AV hr hg) (λi hi o ho nf w3 K BB hT _ V a=>?_) 0 (λnf w5 Q hT=>?_)
 ·simp only[aL,be,or_false]at hi;rcases hi with rfl|rfl|rfl|rfl|rfl|rfl|rfl|rfl|rfl|rfl
  ·obtain rfl:=aP ho;simp only[show c3P 16 16=[]from Z,ba]at a ⊢;go_simp;have hlen:(L.take n).length=n:=by rw[dg];have:=HL.out;omega
   have rJ:=aE HBL.out hT;have hd:=list.lnext k.l k.me lo op g gv (slA A2 0 Dl) Dl (L.take n) w3 HF.out HA.out.1 HA.out.2.1 HA.out.2.2.1 HA.out.2.2.2.1 HA.out.2.2.2.2.1 HA.out.2.2.2.2.2.1 HA.out.2.2.2.2.2.2 ((GnV.goneAt HG.out).aw rJ)
    (by have h1:=gH.sub HL.out.1 0 n Dl HL.out.2.1;have h2:=h1.below (rJ.mono (by have:=HB.out;omega));rw[List.drop_zero]at h2;exact h2.more (by have:=HB.out;have:=rJ.size;omega)) (by rw[hlen];have:=HL.out;omega) q HQ.out.1 HQ.out.2.1 HQ.out.2.2
   rw[hlen]at hd;(with_reducible refine hd.mono ?_);intro e w4 hpost;obtain⟨c1,c2,v3,rfl,hx,hb⟩:=qx hpost;exact a _ _ ⟨c1,c2,v3,Z,hx⟩ hb
  ·obtain rfl:=aP ho;obtain⟨v0,e0,d1,qd,qc,rfl,P⟩:=V 16 (by simp[c3P]);simp only[show c3P 16 17=[16]from Z,ba,e0,l1T]at a ⊢;go_simp;exact a _ _ ⟨d1,qd,qc,Z,by simp only[upd];exact e0⟩ bS
  ·obtain rfl:=aP ho;obtain⟨v1,e1,d1,qd,qc,rfl,e0⟩:=V 17 (by simp[c3P]);simp only[show c3P 16 18=[17]from Z,ba,e1,l1T]at a ⊢;go_simp;exact a _ _ ⟨d1,qd,qc,by simp only[upd];exact e0,Z⟩ bS
  ·obtain rfl:=aP ho;obtain⟨v1,e1,d1,qd,qc,rfl,e0⟩:=V 17 (by simp[c3P]);simp only[show c3P 16 19=[17]from Z,ba,e1,l1T]at a ⊢;go_simp;exact a _ _ ⟨d1,qd,qc,by simp only[upd];exact e0,Z⟩ bS
  ·obtain rfl:=aP ho;obtain⟨v1,e1,d1,qd,qc,rfl,e0⟩:=V 17 (by simp[c3P]);simp only[show c3P 16 20=[17]from Z,ba,e1,l1T]at a ⊢;go_simp;exact a _ _ ⟨d1,qd,qc,by simp only[upd];exact e0,Z⟩ bS
  ·obtain rfl:=aP ho;simp only[show c3P 16 21=[]from Z,ba]at a ⊢;go_simp;exact a _ _ ⟨_,Z,hT.size,λ_=>Bk.made _ _ _⟩ (aA bS _)
  ·obtain rfl:=aP ho;simp only[show c3P 16 22=[]from Z,ba]at a ⊢;go_simp;exact a _ _ ⟨_,Z,hT.size,λ_=>Bk.made _ _ _⟩ (aA bS _)
  ·obtain rfl:=aP ho;obtain⟨v0,e0,d1,qd,qc,rfl,P⟩:=V 16 (by simp[c3P]);obtain⟨v2,e2,f1,f2,f3,C,rfl⟩:=V 18 (by simp[c3P]);rw[e0]at C;obtain⟨rfl,rfl,rfl⟩:=dr C;obtain⟨v5,W,ga,rfl,mD,X⟩:=V 21 (by simp[c3P]);have ka:=X BB;obtain⟨d,z,s,f,B,c,x,A,y,gn,l,dn,rfl,rfl,rfl,P⟩:=P;simp only[show c3P 16 23=[16,18,21]from Z,ba,e0,e2,W,l1T]at a ⊢;(try simp only[au,ar,an]);refine eC 67 (.tmp 9) (.tmp 30) Z ga _ Z Z 67 cG ka zK Z (by simp[aB]) ?_;exact a undef _ ⟨ga,_,_,_,by simp only[upd];exact e0,by simp only[upd];exact W,mD,setRow_heap _ _ _ _ _ _ ka⟩ ⟨gX ka,eS mD _⟩
  ·obtain rfl:=aP ho;obtain⟨v0,e0,d1,qd,qc,rfl,P⟩:=V 16 (by simp[c3P]);obtain⟨v2,e2,f1,f2,f3,C,rfl⟩:=V 19 (by simp[c3P]);rw[e0]at C;obtain⟨rfl,rfl,rfl⟩:=dr C;obtain⟨v5,W,ga,rfl,mD,X⟩:=V 22 (by simp[c3P]);have ka:=X BB;obtain⟨d,z,s,f,B,c,x,A,y,gn,l,dn,rfl,rfl,rfl,P⟩:=P;simp only[show c3P 16 24=[16,19,22]from Z,ba,e0,e2,W,l1T]at a ⊢;(try simp only[au,ar,an]);refine eC 70 (.tmp 10) (.tmp 31) Z ga _ Z Z 70 aW ka zK Z (by simp[aB]) ?_;exact a undef _ ⟨ga,_,_,_,by simp only[upd];exact e0,by simp only[upd];exact W,mD,setRow_heap _ _ _ _ _ _ ka⟩ ⟨gX ka,eS mD _⟩
  obtain rfl:=aP ho;obtain⟨v4,e4,f1,f2,f3,e4',rfl⟩:=V 20 (by simp[c3P]);simp only[show c3P 16 25=[20]from Z,ba,e4,l1T]at a ⊢;go_simp;exact a _ _ ⟨_,_,_,by simp only[upd];exact e4',Z⟩ bS
 obtain⟨v0,e0,d1,qd,qc,rfl,P⟩:=Q 16 zS;obtain⟨v1,e1,f1,f2,f3,rfl,LQ⟩:=Q 17 zS;rw[e0]at LQ;obtain⟨rfl,rfl,rfl⟩:=dr LQ;obtain⟨v2,e2,f1,f2,f3,C,rfl⟩:=Q 18 zS;rw[e0]at C;obtain⟨rfl,rfl,rfl⟩:=dr C;obtain⟨v3,e3,f1,f2,f3,C,rfl⟩:=Q 19 zS;rw[e0]at C;obtain⟨rfl,rfl,rfl⟩:=dr C;obtain⟨v4,e4,f1,f2,f3,C,rfl⟩:=Q 20 zS;rw[e0]at C;obtain⟨rfl,rfl,rfl⟩:=dr C;obtain⟨v5,W,JB,rfl,hga0,-⟩:=Q 21 zS;obtain⟨v6,e6,LP,rfl,hga1,-⟩:=Q 22 zS;obtain⟨v7,e7,gb0,f1,f2,f3,C,IG,-,qb⟩:=Q 23 zS;rw[e0]at C;obtain⟨rfl,rfl,rfl⟩:=dr C;rw[W]at IG;obtain rfl:=mM IG;obtain⟨v8,e8,gb1,f1,f2,f3,C,IG,-,O⟩:=Q 24 zS;rw[e0]at C;obtain⟨rfl,rfl,rfl⟩:=dr C;rw[e6]at IG;obtain rfl:=mM IG;obtain⟨v9,e9,f1,f2,f3,C,rfl⟩:=Q 25 zS;rw[e0]at C;obtain⟨rfl,rfl,rfl⟩:=dr C;clear Q;refine aG (by simp only[dj,e0,e1,e2,e3,e4,W,e6,e7,e8,e9,cZ,if_true];kernel_rfl) ?_ _;simp only[ba,e0,e1,e2,e3,e4,W,e6,e7,e8,e9,l1T];clear e0 e1 e2 e3 e4 W e6 e7 e8 e9;(try simp only[Act.put,ak,ay,az,eM]);obtain⟨d,z,s,f,B,c,x,A,y,gn,l,dn,rfl,rfl,rfl,P⟩:=P;have oQ:Below w1.heap.size w1 w5:=hT;have hn6:b7<JB/\b7<LP:=by have:=J.lt;omega
 replace KI:=KI.aw oQ;replace F:=F.aw oQ;replace J:=J.aw oQ;replace H:=aE HBL.out oQ;have HX:=aj (show LnX k.l q (bj d z s f) (bg B c x A (.slice y gn l)) (.bool dn) w5 from⟨_,_,_,_,_,_,_,_,_,_,_,_,Z,Z,Z,P⟩);have HN:=aj hn6;clear P oQ hT kp X k13 AT LQ C IG hn6 hga0 hga1;have Dm:=KI.cell 0;have l12:=KI.lt;simp at Dm;cases dn with
 | false=>
  go_upto_region 4 with fail;clear Dm l12;refine aH (S:=λw'=>Bk w' JB 67 (bj d z s f)/\Bk w' LP 70 (bg B c x A (.slice y gn l))) (E:=λ_=>false) zK ?_;replace F:=F.drew;replace J:=J.drew;replace qb:=qb.drew;replace O:=O.drew;replace H:=H.drew;have HX6:=aj (kD _ _ _ _ _ _ _ HX.out (.inr (.inr (bD w5))));generalize w5.drew=w6 at *;refine wTq 1 [(0,48,.agg (bj d z s f))] ?_ ⟨qb,O⟩ ?_
  ·intro w' D;have kE:(cL 67 ⟨JB,0,Y⟩).run ao w'= .ok (.agg (bj d z s f)) w':=a7 w' JB 67 67 (bj d z s f) (0,0) _ D.1 cF Z zK;exact zL
  refine wTq 1 [(1,49,.agg (bg B c x A (.slice y gn l)))] ?_ ⟨qb,O⟩ ?_
  ·intro w' D;have kE:(cL 70 ⟨LP,0,Y⟩).run ao w'= .ok (.agg (bg B c x A (.slice y gn l))) w':=a7 w' LP 70 70 (bg B c x A (.slice y gn l)) (0,0) _ D.2 aJ Z zK;exact zL
  refine wTq 1 [(2,50,ah false)] ?_ ⟨qb,O⟩ ?_
  ·intro w' D;exact zT
  refine wOq 3 (λKK a=>?_);rw[if_pos (by rfl)];refine eC 67 (.tmp 6) (.tmp 48) Z qa (bj d z s f) Z Z 67 cG F zK Z (by simp[aB]) ?_;have kc0:=qb.a6 (b:=qa) (by have:=HN.out;omega) (bj d z s f);have kc1:=O.a6 (b:=qa) (by have:=HN.out;omega) (bj d z s f);have k7b:=J.a6 (b:=qa) M (bj d z s f);have k6b:=F.bG (bj d z s f);have xp:=eA H (g:=qa) (by rw[HW.out];omega) (bj d z s f);have HX7:=aj (kD _ _ _ _ _ _ _ HX6.out (.inl (gX (cs':=bj d z s f) F)));clear HX6 J F H qb O;generalize w6.setRow qa (bj d z s f)=w7 at *;refine a.out _ _ (λ_=>⟨kc0,kc1⟩) ?_;clear a KK;(try simp only[au,ar,an,Act.put]);refine wOq 4 (λKK a=>?_);rw[if_pos (by rfl)];refine eC 70 (.tmp 7) (.tmp 49) Z b7 (bg B c x A (.slice y gn l)) Z Z 70 aW k7b zK Z (by simp[aB]) ?_;have kd0:=kc0.a6 (b:=b7) (by have:=HN.out;omega) (bg B c x A (.slice y gn l));have kd1:=kc1.a6 (b:=b7) (by have:=HN.out;omega) (bg B c x A (.slice y gn l));have k6c:=k6b.a6 (b:=b7) M (bg B c x A (.slice y gn l));have k7c:=k7b.bG (bg B c x A (.slice y gn l));have N7:=eA xp (g:=b7) (by rw[HW.out];omega) (bg B c x A (.slice y gn l));have HX8:=aj (kD _ _ _ _ _ _ _ HX7.out (.inr (.inl (gX (cs':=bg B c x A (.slice y gn l)) k7b))));clear HX7 k7b k6b xp kc0 kc1;generalize w7.setRow b7 (bg B c x A (.slice y gn l))=w8 at *;refine a.out _ _ (λ_=>⟨kd0,kd1⟩) ?_;clear a KK;(try simp only[au,ar,an,Act.put]);refine wTq 1 [(5,8,ah false)] ?_ ⟨kd0,kd1⟩ ?_
  ·intro w' D;exact zT
  refine aG zK ?_ _;go_wp2_with fail;exact aS (v:=qX (bj d z s f) (bg B c x A (.slice y gn l)) (ah false)) (eo (p:=6) (q:=7) (t:=8) (t1:=67) (t2:=70) Z _ _ qa b7 _ _ (0,0) (0,0) _ _ _ Z Z Z k6c k7c cF Z zK aJ Z zK) Z (OX HX8.out N7)
 | true=>
  go_upto_region 4 with fail;clear Dm l12;refine aH (S:=λw'=>Bk w' JB 67 (bj d z s f)/\Bk w' LP 70 (bg B c x A (.slice y gn l))) (E:=λ_=>false) zK ?_;replace F:=F.drew;replace J:=J.drew;replace qb:=qb.drew;replace O:=O.drew;replace H:=H.drew;have HX6:=aj (kD _ _ _ _ _ _ _ HX.out (.inr (.inr (bD w5))));generalize w5.drew=w6 at *;refine wTq 1 [(0,48,.agg (bj d z s f))] ?_ ⟨qb,O⟩ ?_
  ·intro w' D;have kE:(cL 67 ⟨JB,0,Y⟩).run ao w'= .ok (.agg (bj d z s f)) w':=a7 w' JB 67 67 (bj d z s f) (0,0) _ D.1 cF Z zK;exact zL
  refine wTq 1 [(1,49,.agg (bg B c x A (.slice y gn l)))] ?_ ⟨qb,O⟩ ?_
  ·intro w' D;have kE:(cL 70 ⟨LP,0,Y⟩).run ao w'= .ok (.agg (bg B c x A (.slice y gn l))) w':=a7 w' LP 70 70 (bg B c x A (.slice y gn l)) (0,0) _ D.2 aJ Z zK;exact zL
  refine wTq 1 [(2,50,ah true)] ?_ ⟨qb,O⟩ ?_
  ·intro w' D;exact zT
  refine wOq 3 (λKK a=>?_);rw[if_pos (by rfl)];refine eC 67 (.tmp 6) (.tmp 48) Z qa (bj d z s f) Z Z 67 cG F zK Z (by simp[aB]) ?_;have kc0:=qb.a6 (b:=qa) (by have:=HN.out;omega) (bj d z s f);have kc1:=O.a6 (b:=qa) (by have:=HN.out;omega) (bj d z s f);have k7b:=J.a6 (b:=qa) M (bj d z s f);have k6b:=F.bG (bj d z s f);have xp:=eA H (g:=qa) (by rw[HW.out];omega) (bj d z s f);have HX7:=aj (kD _ _ _ _ _ _ _ HX6.out (.inl (gX (cs':=bj d z s f) F)));clear HX6 J F H qb O;generalize w6.setRow qa (bj d z s f)=w7 at *;refine a.out _ _ (λ_=>⟨kc0,kc1⟩) ?_;clear a KK;(try simp only[au,ar,an,Act.put]);refine wOq 4 (λKK a=>?_);rw[if_pos (by rfl)];refine eC 70 (.tmp 7) (.tmp 49) Z b7 (bg B c x A (.slice y gn l)) Z Z 70 aW k7b zK Z (by simp[aB]) ?_;have kd0:=kc0.a6 (b:=b7) (by have:=HN.out;omega) (bg B c x A (.slice y gn l));have kd1:=kc1.a6 (b:=b7) (by have:=HN.out;omega) (bg B c x A (.slice y gn l));have k6c:=k6b.a6 (b:=b7) M (bg B c x A (.slice y gn l));have k7c:=k7b.bG (bg B c x A (.slice y gn l));have N7:=eA xp (g:=b7) (by rw[HW.out];omega) (bg B c x A (.slice y gn l));have HX8:=aj (kD _ _ _ _ _ _ _ HX7.out (.inr (.inl (gX (cs':=bg B c x A (.slice y gn l)) k7b))));clear HX7 k7b k6b xp kc0 kc1;generalize w7.setRow b7 (bg B c x A (.slice y gn l))=w8 at *;refine a.out _ _ (λ_=>⟨kd0,kd1⟩) ?_;clear a KK;(try simp only[au,ar,an,Act.put]);refine wTq 1 [(5,8,ah true)] ?_ ⟨kd0,kd1⟩ ?_
  ·intro w' D;exact zT
  refine aG zK ?_ _;go_wp2_with fail;exact aS (v:=qX (bj d z s f) (bg B c x A (.slice y gn l)) (ah true)) (eo (p:=6) (q:=7) (t:=8) (t1:=67) (t2:=70) Z _ _ qa b7 _ _ (0,0) (0,0) _ _ _ Z Z Z k6c k7c cF Z zK aJ Z zK) Z (OX HX8.out N7)
end
end split
namespace split
open Go.RowKit
attribute [local go_sem ↓] aQ aR
abbrev opOf(k:Sk)(lo:LOp):Opr:=⟨lo.kind,nodeAt k.l lo.h 0,lo.o,lo.v⟩
structure LiS (k:Sk) (lo:LOp) (g:cq) (m:Nat) (log:Log) (q:An (dx × Pz)):Prop where
 se:1<=k.l.c.aO/\k.l.c.aO<=8
 hh:lo.h<=9223372036854775807
 ob:0<=nodeAt k.l lo.h 0/\nodeAt k.l lo.h 0<k.l.size
 kk:lo.kind=1\/lo.kind=2\/lo.kind=3
 q_:q=cK (2*k.l.c.aO) k.me lo (cW lo g) (log.drop m)
 ns:q≠ .stuck
 gl:∀o z',q= .fin (o,z')->z'.gone.length<=1000
 cap:log.length<=k.cap
theorem H5{P:J4}{fn:Func}{p q:Tmp}{t1 t2:bM}(h:fn.results=#[.cell p t1,.cell q t2])(a:Array I)(w:W)(d c:Nat)(b e:Array I)(j l:Nat × Nat)(f i:TypeDesc)(o:a.getD p undef=ae (J ⟨d,0,Y⟩))(n:a.getD q undef=ae (J ⟨c,0,Y⟩))(u:w.heap[d]? =J (ag b t1 j))(y:w.heap[c]? =J (ag e t2 l))(s:P.underlying t1=J f)(B:(match f with|.struct _|.array _ _=>O|_=>X)=O)(v:(P.info? t1).map (·.size)=J b.size)(A:P.underlying t2=J i)(hd2:(match i with|.struct _|.array _ _=>O|_=>X)=O)(x:(P.info? t2).map (·.size)=J e.size):
  (jE fn a).run P w= .ok (.tuple #[.agg b,.agg e]) w:=by
 have t:a[p]?.getD undef=ae (J ⟨d,0,Y⟩):=by simpa using o
 have z:a[q]?.getD undef=ae (J ⟨c,0,Y⟩):=by simpa using n
 simp[jE,h,t,z,asAddr,a7 w d t1 t1 b j f u s B v,a7 w c t2 t2 e l i y A hd2 x]
structure LiE (w:W) (k:Sk) (lo:LOp) (g:cq) (m:Nat) (log:Log) (b5 ky oW JP:Nat):Prop where
 sp:eU w k g m log
 k5:Bk w b5 139 #[ptr k.gp]
 k13:Bk w ky 54 (di (opOf k lo))
 AT:Bk w oW 43 #[.slice (slA k.A m k.cap) (log.length-m) (k.cap-m)]
 KI:Bk w JP 3 #[V H (nodeAt k.l lo.h 0)]
section
variable {w w':W} {k:Sk} {lo:LOp} {g:cq} {m:Nat} {log:Log} {b5 ky oW JP:Nat} {q:An (dx × Pz)}
theorem LiE.aw(h:LiE w k lo g m log b5 ky oW JP)(a:D w.heap.size w w'):LiE w' k lo g m log b5 ky oW JP:=
 ⟨h.sp.aw a,h.k5.aw a,h.k13.aw a,h.AT.aw a,h.KI.aw a⟩
abbrev runN(k:Sk)(lo:LOp)(g:cq)(m:Nat)(log:Log)(n:Nat):An (dx × Pz):=cK (2*k.l.c.aO) k.me lo (cW lo g) ((log.drop m).take n)
theorem LiE.next(h:LiE w k lo g m log b5 ky oW JP)(s:LiS k lo g m log q)(n:Nat)(i:n<=log.length-m):
  U ao 124 #[V H (n:Nat),ptr b5,ptr ky,ptr oW,ptr JP] w (list.mS k.l (runN k lo g m log n) w):=by
 have c:=s.ns;rw[s.q_]at c;have l:=h.sp.le;have a:(log.drop m).length=log.length-m:=List.length_drop ..;refine lnx1 n lo (opOf k lo) (slA k.A m k.cap) (k.cap-m) (log.drop m) b5 ky oW JP (nodeAt k.l lo.h 0) h.sp s.se s.hh Z s.ob ⟨Z,Z⟩ Z s.kk h.k5 h.k13 (by rw[a];exact h.AT) h.KI s.ob.1 ?_ (by rw[a];have:=s.cap;omega) (by rw[a];omega) (by rw[a];exact i) _ Z (lo_pre s.kk c n) ?_
 ·have:=gH.sub h.sp.sl m (log.length-m) k.cap s.cap
  rwa [<- a,nP]at this
 intro o d b;obtain⟨j,e,-⟩:=o8 (g:=g) s.kk;have b:cK (2*k.l.c.aO) k.me lo (cW lo g) ((log.drop m).take n)= .fin (o,d):=b;rw[e]at b;have f:=Jh _ ((log.drop m).drop n) b;rw[List.take_append_drop]at f;refine s.gl o d ?_;rw[s.q_,e];exact f
def LiRel(o:dx)(z':Pz)(b:W)(c d:I)(wr:W):Prop:=
 ∃(a:Bool) (n:Nat),c= .bool a/\d=V H (n:Nat)/\(a=X->n<=z'.made)/\(a=O->n=z'.made+1)/\D b.heap.size b wr
theorem bI.gnV'{w:W}{v:I}{g:cq}(h:bI w v g){gp:Nat}{j:Array I}(l:Bk w gp 141 j):GnV w gp v g:=by
 obtain⟨G,c,rfl,s,f⟩:=h;refine⟨G,_,c,Z,Z,s,λd=>?_⟩;obtain⟨b,o,i,e,t,a,n⟩:=f d;exact⟨b,o,i,e,a,a.typ l zD,n⟩
theorem slist(h:eU w k g m log)(s:LiS k lo g m log q):
  Calls ao 90 #[ptr k.gp,aa H lo.kind,aa H lo.h,aa H lo.o,aa H lo.v] w (kq k q w λu w'=>∃o z y gn x pk pc po pv,q= .fin (o,z)/\u= .tuple #[.agg (bg o.val o.is 0 ((m+o.bc:Nat):Int) (.slice y gn x)),.agg (bj pk pc po pv)]/\eU w' k z.gone (m+z.made) log/\
   ∃a,runN k lo g m log o.bc= .ask a/\bj pk pc po pv=bj a.k (adr k.l a.c) a.o a.v):=by
 have HS:=N s;have HS0:=N h;have B:=(((Stp.refl k.gp w).alloc (ag #[ptr k.gp] 139)).alloc (ag aW 70)).alloc (ag cG 67);have sy:=aA (aA (bA w (ag #[ptr k.gp] 139)) (ag aW 70)) (ag cG 67);have t:=((Bk.made w 139 #[ptr k.gp]).alloc (ag aW 70)).alloc (ag cG 67);have l:=(Bk.new (w.alloc (ag #[ptr k.gp] 139)) (g:=w.heap.size+1) zS 70 aW).alloc (ag cG 67);have d:=Bk.new ((w.alloc (ag #[ptr k.gp] 139)).alloc (ag aW 70)) (g:=w.heap.size+1+1) zS 67 cG;have zp:=h.lt;replace h:=h.aw sy;have sf:decide (nodeAt k.l lo.h 0<0)=X:=by have:=s.ob;simp;omega
 clear s;go_enter func90,ntmps90;go_upto_region 1 with fail;generalize ((w.alloc (ag #[ptr k.gp] 139)).alloc (ag aW 70)).alloc (ag cG 67)=w0 at *;obtain⟨b5,h5⟩:=nM (w.heap.size);have HW:=N h5;rw[h5]at t l d zp ⊢;clear h5;obtain⟨M,h10⟩:=nM (b5+1);obtain⟨P,h11⟩:=nM (M+1);rw[h10]at l;rw[h10,h11]at d ⊢;have HZ:=N (show k.gp<b5/\b5<M/\M<P from⟨zp,zO,zO⟩);clear h10 h11 zp;obtain⟨gv,j,hG⟩:=h.kp;have kE:=Ao j;have qd:=t.cell 0;have l5:=t.lt;have lp:=j.lt;simp at qd;go_wp2_with (refine fG Z 34 (.tmp 25) Z k.gp 0 Z (lyC k.l) _ (Hq j) aK Z zK ?_);refine(dE k.l lo.h 0 w0 h.f HS.out.hh).mono ?_;rintro e w1 ⟨rfl,c⟩;replace h:=h.aw c;replace t:=t.aw c;replace l:=l.aw c;replace d:=d.aw c;replace B:=B.trans (Stp.aT _ c);replace sy:=aE sy c;clear j hG kE qd l5 lp c;obtain⟨hd,zR⟩:=nM (nodeAt k.l lo.h 0);have HHD:=N zR;rw[zR]at sf ⊢;clear zR;go_upto_region 2 with fail;have l11:=d.lt;have L:=Bk.made w1 3 #[aa H hd];have c:=bA w1 (ag #[aa H hd] 3);replace h:=h.aw c;replace t:=t.aw c;replace l:=l.aw c;replace d:=d.aw c;replace B:=B.trans (Stp.aT _ c);replace sy:=aE sy c;clear c;generalize w1.alloc (ag #[aa H hd] 3)=w2 at *;obtain⟨JP,h12⟩:=nM (w1.heap.size);rw[h12]at L l11 ⊢;have HZ2:=N l11;clear h12 l11;have Dm:=L.cell 0;have l12:=L.lt;simp at Dm;go_upto_region 3 with fail;have U:=Bk.made w2 54 #[aa H lo.kind,aa H hd,aa H lo.o,aa H lo.v];have c:=bA w2 (ag #[aa H lo.kind,aa H hd,aa H lo.o,aa H lo.v] 54);replace h:=h.aw c;replace t:=t.aw c;replace l:=l.aw c;replace d:=d.aw c;replace L:=L.aw c;replace B:=B.trans (Stp.aT _ c);clear c;generalize w2.alloc (ag #[aa H lo.kind,aa H hd,aa H lo.o,aa H lo.v] 54)=w3 at *;obtain⟨ky,h13⟩:=nM (w2.heap.size);rw[h13]at U l12 ⊢;have HZ3:=N l12;clear h13 l12 Dm;have Dm:=L.cell 0;have l12:=L.lt;simp at Dm;go_upto_region 5 with fail;clear Dm l12 sf;obtain⟨gv,j,hG⟩:=h.kp;refine aH (S:=λw'=>Bk w' k.gp 141 (spC k gv m log.length)/\Bk w' b5 139 #[ptr k.gp]) (E:=λ_=>X) zK ?_;have c:=bD w3;replace h:=h.aw c;replace t:=t.aw c;replace l:=l.aw c;replace d:=d.aw c;replace L:=L.aw c;replace j:=j.aw c;replace U:=U.aw c;replace B:=B.trans (Stp.aT _ c);clear c hG;generalize w3.drew=w4 at *;refine wTq 8 [(0,42,ptr k.gp),(1,43,ptr k.gp),(2,44,ae (some ⟨k.gp,28,Y⟩)),(3,45,.slice k.A log.length k.cap),(4,46,ptr k.gp),(5,47,ptr k.gp),(6,48,ae (some ⟨k.gp,29,Y⟩)),(7,49,aa H (m:Nat))] ?_ ⟨j,t⟩ ?_
 ·intro w' T;have c28:=T.1.cell 28;have c29:=T.1.cell 29;have qd:=T.2.cell 0;simp at c28 c29 qd;exact zT
 refine wTq 1 [(8,50,.slice (slA k.A m k.cap) (log.length-m) (k.cap-m))] ?_ ⟨j,t⟩ ?_
 ·intro w' T
  (repeat' (first|exact bd|refine al ⟨_,Z,.inl ⟨Z,?_⟩⟩ ?_))
  all_goals exact Oj Z Z Z h.nle
 refine wOq 9 (λKK qc=>?_);go_simp;have O:=Bk.made w4 43 #[af Y 0 0];have Nr:=U.lt;have c:=bA w4 (ag #[af Y 0 0] 43);replace h:=h.aw c;replace t:=t.aw c;replace l:=l.aw c;replace d:=d.aw c;replace L:=L.aw c;replace j:=j.aw c;replace U:=U.aw c;replace B:=B.trans (Stp.aT _ c);clear c;generalize w4.alloc (ag #[af Y 0 0] 43)=w5 at *;obtain⟨oW,Oc⟩:=nM (w4.heap.size);rw[Oc]at O Nr ⊢;have HZ4:=N Nr;clear Oc Nr;refine sO qc (λ_=>⟨j,t⟩) ?_;clear qc KK;have yE:=O.cell 0;have f14:=O.free 0;have Io:=O.lt;simp at yE;refine wOq 10 (λKK qc=>?_);go_simp;clear yE f14 Io;have HZ5:=N (show k.B<=k.gp/\k.gp<b5/\b5<M/\M<P/\P<JP/\JP<ky/\ky<oW from⟨h.bp,HZ.out.1,HZ.out.2.1,HZ.out.2.2,HZ2.out,HZ3.out,HZ4.out⟩);replace h:=h.pz O (by have:=HZ5.out;omega) zD 0 (.slice (slA k.A m k.cap) (log.length-m) (k.cap-m));replace j:=j.other (p:=⟨oW,0,Y⟩) (by have:=HZ5.out;dsimp only;omega) (.slice (slA k.A m k.cap) (log.length-m) (k.cap-m));replace t:=t.other (p:=⟨oW,0,Y⟩) (by have:=HZ5.out;dsimp only;omega) (.slice (slA k.A m k.cap) (log.length-m) (k.cap-m));replace l:=l.other (p:=⟨oW,0,Y⟩) (by have:=HZ5.out;dsimp only;omega) (.slice (slA k.A m k.cap) (log.length-m) (k.cap-m));replace d:=d.other (p:=⟨oW,0,Y⟩) (by have:=HZ5.out;dsimp only;omega) (.slice (slA k.A m k.cap) (log.length-m) (k.cap-m));replace L:=L.other (p:=⟨oW,0,Y⟩) (by have:=HZ5.out;dsimp only;omega) (.slice (slA k.A m k.cap) (log.length-m) (k.cap-m));replace U:=U.other (p:=⟨oW,0,Y⟩) (by have:=HZ5.out;dsimp only;omega) (.slice (slA k.A m k.cap) (log.length-m) (k.cap-m));replace B:=B.cell (p:=⟨oW,0,Y⟩) (.inl (by have:=HZ5.out;rw[HW.out];dsimp only;omega)) (.slice (slA k.A m k.cap) (log.length-m) (k.cap-m));replace O:Bk (w5.setCell ⟨oW,0,Y⟩ (.slice (slA k.A m k.cap) (log.length-m) (k.cap-m))) oW 43 #[.slice (slA k.A m k.cap) (log.length-m) (k.cap-m)]:=O.stored 0 _;generalize w5.setCell ⟨oW,0,Y⟩ (.slice (slA k.A m k.cap) (log.length-m) (k.cap-m))=w6 at *;refine sO qc (λ_=>⟨j,t⟩) ?_;clear qc KK j;refine aG zK ?_ _;have hmf:∀(fn:Fn) (first cap:Array I) (w:W),(uT fn first cap).run ao w= .ok (.func fn first cap) w:=λ_ _ _ _=>Z;go_upto_region 7 with fail;have HE:=N (show LiE w6 k lo g m log b5 ky oW JP from⟨h,t,by rw[<- HHD.out]at U;exact U,O,by rw[HHD.out];exact L⟩);have hqn:runN k lo g m log (log.length-m)=q:=by
  rw[HS.out.q_];show cK _ _ _ _ ((log.drop m).take (log.length-m))=_;rw[<- List.length_drop,nP]
 have HQN:=N hqn;have yE:=O.cell 0;have Io:=O.lt;simp at yE;clear hqn h t L U;go_wp2_with fail;have CT:=HE.out.next HS.out (log.length-m) (aq _);rw[HQN.out]at CT;(with_reducible refine CT.mono ?_);intro e w7 hpost;obtain⟨c1,c2,v3,rfl,J,c⟩:=qx hpost;obtain⟨ck,cc,co,cv,val,is,er,pt,y,gn,x,dn,rfl,rfl,rfl,J⟩:=J;have HE7:=N (HE.out.aw c);have HST7:=N (B.trans (Stp.aT _ c));replace l:=l.aw c;replace d:=d.aw c;replace O:=O.aw c;clear CT hpost c HE B yE Io;go_upto_region 8 with fail;have qh:=(Bk.made w7 67 (bj ck cc co cv)).alloc (ag (bg val is er pt (.slice y gn x)) 70);have f:=Bk.new (w7.alloc (ag (bj ck cc co cv) 67)) (g:=w7.heap.size+1) zS 70 (bg val is er pt (.slice y gn x));have c:=aA (bA w7 (ag (bj ck cc co cv) 67)) (ag (bg val is er pt (.slice y gn x)) 70);have Io:=O.lt;have HE8:=N (HE7.out.aw c);have HST8:=N (HST7.out.trans (Stp.aT _ c));have HX:=N (kD k.l q (bj ck cc co cv) (bg val is er pt (.slice y gn x)) (.bool dn) w7 _ ⟨_,_,_,_,_,_,_,_,_,_,_,_,Z,Z,Z,J⟩ (.inr (.inr c)));replace l:=l.aw c;replace d:=d.aw c;generalize (w7.alloc (ag (bj ck cc co cv) 67)).alloc (ag (bg val is er pt (.slice y gn x)) 70)=w8 at *;obtain⟨JB,hg0⟩:=nM (w7.heap.size);rw[hg0]at qh f Io ⊢;clear hg0;obtain⟨D,hg1⟩:=nM (JB+1);rw[hg1]at f ⊢;have HZ6:=N (show oW<JB/\JB<D from⟨Io,zO⟩);clear HE7 HST7 O Io hg1 c J;obtain⟨ck2,cc2,co2,cv2,J6,is',er',pt',gG',gn',gc',dn',N3,he2,he3,J⟩:=HX.out;injection he3 with he3;subst he3;rcases J with⟨a,hqa,yC,ha2,rfl⟩|⟨o,z,LH,hf1,hf2,hf3,hf4,hf5,rfl,qe⟩
 ·rw[<- N3]at yC;have V:=N (show q= .ask a/\Stp k.gp w w8 from⟨hqa,HST8.out⟩);clear hqa ha2 f l d HE8 HST8 N3 he2 HX;have yC:=congrArg Array.toList yC;simp only[List.cons.injEq,I.int.injEq,true_and,and_true]at yC;obtain⟨rfl,rfl,rfl,rfl⟩:=yC;have c0:=qh.cell 0;have c1:=qh.cell 1;have c2:=qh.cell 2;have K:=qh.cell 3;have l0:=qh.lt;simp at c0 c1 c2 K;go_wp2_with fail;exact⟨Z,.inl ⟨a,V.out.1,Z,V.out.2⟩⟩
 have he2:=congrArg Array.toList he2;simp only[List.cons.injEq,I.int.injEq,I.bool.injEq,I.slice.injEq,true_and,and_true]at he2;obtain⟨rfl,rfl,rfl,rfl,rfl,rfl,rfl⟩:=he2;subst hf2 hf3 hf4 hf5;have HF:=N (show q= .fin (o,z)/\bI w8 (.slice y gn x) z.gone from⟨LH,qe⟩);obtain⟨p1,p2,p3,p4⟩:=lo_fin HS.out.kk (by rw[<- HS.out.q_];exact LH);rw[List.length_drop]at p2;have V:=N (show o.bc<z.made/\z.made<=log.length-m/\(∀n,z.made<=n->runN k lo g m log n= .fin (o,z))/\(∀n,n<z.made->∃a,runN k lo g m log n= .ask a)from⟨p1,p2,p3,p4⟩);have hle:log.length<=100000:=HE8.out.sp.le;have hml:m<=log.length:=HE8.out.sp.nle;have hpz:decide ((o.bc:Int)<0)=X:=zS;clear LH qe hf1 N3 p1 p2 p3 p4 HX;have K:=f.cell 3;have qg:=f.lt;simp at K;go_upto_region 12 with fail;go_wp2_with fail;have CT:=HE8.out.next HS.out o.bc (by have:=V.out;omega);(with_reducible refine CT.mono ?_);intro e w9 hpost;obtain⟨c1,c2,v3,rfl,J,c⟩:=qx hpost;obtain⟨qb,qa,F,G,val2,is2,er2,pt2,hG2,va,hc2,dn2,rfl,rfl,rfl,J⟩:=J;have HE9:=N (HE8.out.aw c);have HST9:=N (HST8.out.trans (Stp.aT _ c));have HF9:=N (al HF.out.1 (HF.out.2.aw c));replace l:=l.aw c;replace d:=d.aw c;replace qh:=qh.aw c;replace f:=f.aw c;have HAQ:Hid (∃a,runN k lo g m log o.bc= .ask a/\(bj qb qa F G)=bj a.k (adr k.l a.c) a.o a.v):=N (by
  rcases J with⟨a,Q,h2,-⟩|⟨o',z2,Q,-⟩
  ·exact⟨a,Q,h2⟩
  obtain⟨a,ha⟩:=V.out.2.2.2 o.bc V.out.1;rw[ha]at Q;cases Q)
 clear CT hpost c HE8 HST8 HF J K qg;have K:=f.cell 3;have qg:=f.lt;simp at K;go_upto_region 13 with fail;have C:=(Bk.made w9 67 (bj qb qa F G)).alloc (ag (bg val2 is2 er2 pt2 (.slice hG2 va hc2)) 70);have c:=aA (bA w9 (ag (bj qb qa F G) 67)) (ag (bg val2 is2 er2 pt2 (.slice hG2 va hc2)) 70);have lz:=f.lt;have HEA:=N (HE9.out.aw c);have HSTA:=N (HST9.out.trans (Stp.aT _ c));have HFA:=N (al HF9.out.1 (HF9.out.2.aw c));replace l:=l.aw c;replace d:=d.aw c;replace f:=f.aw c;clear K qg qh HE9 HST9 HF9 c;generalize (w9.alloc (ag (bj qb qa F G) 67)).alloc (ag (bg val2 is2 er2 pt2 (.slice hG2 va hc2)) 70)=wA at *;obtain⟨gc0,hgc⟩:=nM (w9.heap.size);rw[hgc]at C lz ⊢;have HZ7:=N (show D<gc0 from lz);clear hgc lz;have K:=f.cell 3;have qg:=f.lt;simp at K;have HM:=N (show o.bc<z.made/\z.made<=log.length-m from⟨V.out.1,V.out.2.1⟩);have zJ:(o.bc:Int)<100000:=by have:=V.out;omega
 go_wp2_with fail;go_loopw [18,22] (λv18 v22 wr=>LiRel o z wA v18 v22 wr) (λ_ v22 _=>z.made+2-(intOf v22).toNat)
 case atStart=>exact⟨X,o.bc+1,Z,Z,λ_=>HM.out.1,λh=>(by cases h),bS⟩
 case round=>
 clear K qg zJ;obtain⟨dn3,n,rfl,rfl,CS,hd2,qf⟩:=hrel;have HBW:=N qf;cases dn3 with
 | false=>
  have HD:=N (CS Z);clear CS hd2 qf;go_wp2_with fail;have CT:=(HEA.out.aw HBW.out).next HS.out n (by have:=HD.out;have:=HM.out;omega)
  (with_reducible refine CT.mono ?_);intro e wB hpost;obtain⟨c1,c2,v3,rfl,J,c⟩:=qx hpost;obtain⟨fk,fc,fo,fv,val3,is3,er3,pt3,iG3,in3,ic3,dn4,rfl,rfl,rfl,J⟩:=J;have OY:=N (show LiRel o z wA (.bool dn4) (aa H ((n+1:Nat):Int)) wB from⟨dn4,n+1,Z,Z,(by
   rintro rfl;rcases J with⟨a,Q,-⟩|⟨o',z2,Q,h2,h3,h4,h5,h6,h7,-⟩
   ·have hn:=HD.out;rcases Nat.lt_or_ge n z.made with fH|BG
    ·exact fH
    rw[V.out.2.2.1 n BG]at Q;cases Q
   ·cases h7),(by
   rintro rfl;rcases J with⟨a,Q,h2,h3,h7⟩|⟨o',z2,Q,-⟩
   ·cases h7
   have hn:=HD.out;rcases Nat.lt_or_ge n z.made with fH|BG
   ·obtain⟨a,ha⟩:=V.out.2.2.2 n fH;rw[ha]at Q;cases Q
   omega),aE HBW.out c⟩)
  have hnm:(n:Int)<=100000:=by have:=HD.out;have:=HM.out;omega
  have HMS:=N (show z.made+2-(n+1)<z.made+2-n by have:=HD.out;omega);clear CT hpost c J;go_wp2_with fail;go_roundw
  case rel=>exact OY.out
  have:=HD.out;show z.made+2-((n:Int)+1).toNat<z.made+2-(n:Int).toNat;omega
 | true=>
  have NP:=hd2 Z;have HNZ:=N NP;have Ix:(n:Int)<=100001:=by have:=HM.out;omega
  have va:(1:Int)<=n:=zO;clear NP;obtain⟨pp,NJ⟩:=nM (((m+o.bc:Nat):Int));have HPP:=N NJ;have zJ:(o.bc:Int)<100000:=by have:=HM.out;omega
  have Jx:(m:Int)<=100000:=zO;have HE:=N (HEA.out.aw qf);have uQ:=N (HSTA.out.trans (Stp.aT _ qf));have HF:=N (al HFA.out.1 (HFA.out.2.aw qf));replace l:=l.aw qf;replace d:=d.aw qf;replace f:=f.aw qf;replace C:=C.aw qf;clear CS hd2 qf HEA HSTA HFA HBW NJ;go_upto_region 18 with fail;have A:=N (show k.B<=k.gp/\k.gp<b5/\b5<M/\M<P/\P<D/\D<gc0 from by have:=HZ5.out;have:=HZ6.out;have:=HZ7.out;omega);obtain⟨gvE,j,hG⟩:=HE.out.sp.kp;have t:=HE.out.k5;have yt:=HE.out.sp;have HG:=N hG;clear hG HE;have B:=uQ.out;clear uQ;have HFg:=N (show q= .fin (o,z)from HF.out.1);have qe:=HF.out.2;clear HF;refine aH (S:=λw'=>Bk w' D 70 (bg o.val o.is 0 (o.bc:Nat) (.slice y gn x))/\Bk w' k.gp 141 (spC k gvE m log.length)/\Bk w' b5 139 #[ptr k.gp]) (E:=λi=>i==8) zK ?_;have c:=bD wr;replace f:=f.drew;replace C:=C.drew;replace l:=l.drew;replace d:=d.drew;replace j:=j.drew;replace t:=t.drew;replace yt:=yt.aw c;replace qe:=qe.aw c;replace B:=B.drew;clear c;generalize wr.drew=wD at *;refine wTq 8 [(0,92,ae (some ⟨D,3,Y⟩)),(1,93,aa H (o.bc:Nat)),(2,94,ptr k.gp),(3,95,ptr k.gp),(4,96,ae (some ⟨k.gp,29,Y⟩)),(5,97,aa H (m:Nat)),(6,98,aa H pp),(7,99,ae (some ⟨D,3,Y⟩))] ?_ ⟨f,j,t⟩ ?_
  ·intro w' T;have K:=T.1.cell 3;have c29:=T.2.1.cell 29;have qd:=T.2.2.cell 0;simp at K c29 qd;have hwr:IntKind.i64.wrap ((o.bc:Int)+m)=pp:=by rw[dh _ zO,<- HPP.out];push_cast;omega
   exact zT
  have K:=f.cell 3;have f3:=f.free 3;have qg:=f.lt;simp at K;refine wOq 8 (λKK qc=>?_);go_simp;clear K f3 qg;replace yt:=yt.pz f (by have:=A.out;omega) zD 3 (aa H pp);replace qe:=qe.cell f zD 3 (aa H pp);replace C:=C.other (p:=⟨D,3,Y⟩) (by have:=A.out;dsimp only;omega) (aa H pp);replace l:=l.other (p:=⟨D,3,Y⟩) (by have:=A.out;dsimp only;omega) (aa H pp);replace d:=d.other (p:=⟨D,3,Y⟩) (by have:=A.out;dsimp only;omega) (aa H pp);replace t:=t.other (p:=⟨D,3,Y⟩) (by have:=A.out;dsimp only;omega) (aa H pp);replace j:=j.other (p:=⟨D,3,Y⟩) (by have:=A.out;dsimp only;omega) (aa H pp);replace B:=B.cell (p:=⟨D,3,Y⟩) (.inl (by have:=A.out;rw[HW.out];dsimp only;omega)) (aa H pp);replace f:Bk (wD.setCell ⟨D,3,Y⟩ (aa H pp)) D 70 (bg o.val o.is 0 pp (.slice y gn x)):=f.stored 3 _;generalize wD.setCell ⟨D,3,Y⟩ (aa H pp)=wE at *;refine sO qc (λh=>absurd h zD) ?_;clear qc KK;refine aG zK ?_ _;have qd:=t.cell 0;have l5:=t.lt;have c29:=j.cell 29;have f29:=j.free 29;have lp:=j.lt;simp at qd c29;go_upto_region 20 with fail;clear qd l5 c29 f29 lp;have NS:(m:Int)+((n:Int)-1)=((m+z.made:Nat):Int):=by have:=HNZ.out;push_cast;omega
  have LJ:m+z.made<=log.length:=by have:=HM.out;omega
  replace qe:=qe.cell j zD 29 (aa H (m+(n-1)));replace B:=B.cell (p:=⟨k.gp,29,Y⟩) (.inr Z) (aa H (m+(n-1)));replace C:=C.other (p:=⟨k.gp,29,Y⟩) (by have:=A.out;dsimp only;omega) (aa H (m+(n-1)));replace f:=f.other (p:=⟨k.gp,29,Y⟩) (by have:=A.out;dsimp only;omega) (aa H (m+(n-1)));replace l:=l.other (p:=⟨k.gp,29,Y⟩) (by have:=A.out;dsimp only;omega) (aa H (m+(n-1)));replace d:=d.other (p:=⟨k.gp,29,Y⟩) (by have:=A.out;dsimp only;omega) (aa H (m+(n-1)));replace t:=t.other (p:=⟨k.gp,29,Y⟩) (by have:=A.out;dsimp only;omega) (aa H (m+(n-1)));replace j:Bk (wE.setCell ⟨k.gp,29,Y⟩ (aa H (m+(n-1)))) k.gp 141 (spC k gvE (m+z.made) log.length):=by
   have:=j.stored 29 (aa H (m+(n-1)));rw[NS]at this ⊢;exact this
  clear NS;generalize wE.setCell ⟨k.gp,29,Y⟩ (aa H (m+(n-1)))=wF at *;have HSL:=N LJ;clear yt LJ;have qd:=t.cell 0;have l5:=t.lt;have c26:=j.cell 26;have f26:=j.free 26;have c4:=f.cell 4;have qg:=f.lt;have lp:=j.lt;simp at qd c26 c4;go_upto_region 21 with fail;clear qd l5 c26 f26 c4 qg lp;have lG:=B.cell (p:=⟨k.gp,26,Y⟩) (.inr Z) (.slice y gn x);have IB:=qe.cell j zD 26 (.slice y gn x);clear qe;replace C:=C.other (p:=⟨k.gp,26,Y⟩) (by have:=A.out;dsimp only;omega) (.slice y gn x);replace f:=f.other (p:=⟨k.gp,26,Y⟩) (by have:=A.out;dsimp only;omega) (.slice y gn x);replace l:=l.other (p:=⟨k.gp,26,Y⟩) (by have:=A.out;dsimp only;omega) (.slice y gn x);replace d:=d.other (p:=⟨k.gp,26,Y⟩) (by have:=A.out;dsimp only;omega) (.slice y gn x);replace j:Bk (wF.setCell ⟨k.gp,26,Y⟩ (.slice y gn x)) k.gp 141 (spC k (.slice y gn x) (m+z.made) log.length):=j.stored 26 (.slice y gn x);clear B t;generalize wF.setCell ⟨k.gp,26,Y⟩ (.slice y gn x)=wG at *;refine aH (S:=λw'=>Bk w' D 70 (bg o.val o.is 0 pp (.slice y gn x))/\Bk w' gc0 67 (bj qb qa F G)) (E:=λ_=>X) zK ?_;have c:=bD wG;replace f:=f.drew;replace C:=C.drew;replace l:=l.drew;replace d:=d.drew;replace j:=j.drew;replace IB:=IB.aw c;replace lG:=lG.drew;clear c;generalize wG.drew=wH at *;refine wTq 1 [(0,114,.agg (bg o.val o.is 0 pp (.slice y gn x)))] ?_ ⟨f,C⟩ ?_
  ·intro w' T;have kE:(cL 70 ⟨D,0,Y⟩).run ao w'= .ok (.agg (bg o.val o.is 0 pp (.slice y gn x))) w':=a7 w' D 70 70 (bg o.val o.is 0 pp (.slice y gn x)) (0,0) _ T.1 aJ Z zK;exact zL
  refine wTq 1 [(1,115,.agg (bj qb qa F G))] ?_ ⟨f,C⟩ ?_
  ·intro w' T;have kE:(cL 67 ⟨gc0,0,Y⟩).run ao w'= .ok (.agg (bj qb qa F G)) w':=a7 w' gc0 67 67 (bj qb qa F G) (0,0) _ T.2 cF Z zK;exact zL
  refine wOq 2 (λKK qc=>?_);rw[if_pos (by rfl)];refine eC 70 (.tmp 10) (.tmp 114) Z M (bg o.val o.is 0 pp (.slice y gn x)) Z Z 70 aW l zK Z (by simp[aB]) ?_;replace f:=f.a6 (b:=M) (by have:=A.out;omega) (bg o.val o.is 0 pp (.slice y gn x));replace C:=C.a6 (b:=M) (by have:=A.out;omega) (bg o.val o.is 0 pp (.slice y gn x));replace d:=d.a6 (b:=M) (by have:=A.out;omega) (bg o.val o.is 0 pp (.slice y gn x));replace j:=j.a6 (b:=M) (by have:=A.out;omega) (bg o.val o.is 0 pp (.slice y gn x));replace IB:=IB.row l zD (bg o.val o.is 0 pp (.slice y gn x));replace lG:=lG.row (b:=M) (.inl (by have:=A.out;rw[HW.out];omega)) (bg o.val o.is 0 pp (.slice y gn x));replace l:=l.bG (bg o.val o.is 0 pp (.slice y gn x));generalize wH.setRow M (bg o.val o.is 0 pp (.slice y gn x))=wI at *;refine qc.out _ _ (λ_=>⟨f,C⟩) ?_;clear qc KK;(try simp only[au,ar,an,Act.put]);refine wOq 3 (λKK qc=>?_);rw[if_pos (by rfl)];refine eC 67 (.tmp 11) (.tmp 115) Z P (bj qb qa F G) Z Z 67 cG d zK Z (by simp[aB]) ?_;replace f:=f.a6 (b:=P) (by have:=A.out;omega) (bj qb qa F G);replace C:=C.a6 (b:=P) (by have:=A.out;omega) (bj qb qa F G);replace l:=l.a6 (b:=P) (by have:=A.out;omega) (bj qb qa F G);replace j:=j.a6 (b:=P) (by have:=A.out;omega) (bj qb qa F G);replace IB:=IB.row d zD (bj qb qa F G);replace lG:=lG.row (b:=P) (.inl (by have:=A.out;rw[HW.out];omega)) (bj qb qa F G);replace d:=d.bG (bj qb qa F G);generalize wI.setRow P (bj qb qa F G)=wJ at *;refine qc.out _ _ (λ_=>⟨f,C⟩) ?_;clear qc KK;(try simp only[au,ar,an,Act.put]);refine aG zK ?_ _;go_wp2_with fail;obtain⟨ax,hax1,hax2⟩:=HAQ.out;exact aS (v:=.tuple #[.agg (bg o.val o.is 0 pp (.slice y gn x)),.agg (bj qb qa F G)]) (H5 (p:=10) (q:=11) (t1:=70) (t2:=67) Z _ _ M P _ _ (0,0) (0,0) _ _ Z Z l d aJ Z zK cF Z zK) Z
   (.inr ⟨_,Z,⟨o,z,_,_,_,_,_,_,_,HFg.out,by rw[HPP.out],⟨⟨_,j,bI.gnV' IB j⟩,HS0.out.sl.below (lG.part HS0.out.bp (by have:=HS0.out.lt;have:=HS0.out.bp;omega)),HS0.out.bp,HS0.out.le,HSL.out,HS0.out.f⟩,ax,hax1,hax2⟩,lG⟩)
end
section
variable {w:W} {k:Sk} {g:cq} {m:Nat} {log:Log}
theorem L4(val l pt:Int)(j:I)(h i o d:Int)(gp:Nat)(w:W):
  U ao 123 #[ptr gp,.agg (bg val O l pt j),.agg (bj h i o d)] w λe w'=>e=ai (V H (idxOf d))/\D w.heap.size w w':=by
 have v:∀(a:Int) (b:Bool) (c:Int) (w:W),(Instr.field 81 (.agg #[V H a,.bool b,V H c]) 0).run ao w= .ok (V H a) w:=λ_ _ _ _=>by kernel_rfl
 have f:=aA (bA w (ag (bg val O l pt j) 70)) (ag (bj h i o d) 67);have s:=N f;go_enter func123,ntmps123;go_wp2_with fail;refine(gL d _).mono ?_;rintro e x ⟨rfl,f⟩;have t:=N (aE s.out f);obtain⟨u,n⟩:=nM (d%65536);have q:=N (show idxOf d=u from n);rw[n];go_wp2_with fail;go_ret;exact⟨by rw[q.out];rfl,t.out⟩
theorem L3(val o:Int)(p:Nat)(i:Value)(t s l u:Int)(r:Int × Bool)(h:eU w k g m log)(A:log[p+2]? =J r):
  Calls ao 123 #[ptr k.gp,.agg (bg val X o (p:Nat) i),.agg (bj t s l u)] w λe w'=>e=ai (V H (idxOf r.1))/\D w.heap.size w w':=by
 have qf:∀(a:Int) (b:Bool) (c:Int) (w:W),(Instr.field 81 (.agg #[V H a,.bool b,V H c]) 0).run ao w= .ok (V H a) w:=λ_ _ _ _=>by kernel_rfl
 have d:=aA (bA w (ag (bg val X o (p:Nat) i) 70)) (ag (bj t s l u) 67);have I:=N d;have n:=(Bk.made w 70 (bg val X o (p:Nat) i)).alloc (ag (bj t s l u) 67);have j:=h.aw d;obtain⟨gvp,x,-⟩:=j.kp;have fH:p+2<log.length:=(aC.1 A).1;have qe:=j.le;obtain⟨b,q,F,M,qc⟩:=j.sl zO;obtain⟨G,-⟩:=qc _ _ A;have U:=N F;have qb:=N G;clear h j A d qc F G M;go_enter func123,ntmps123;go_upto_region 3 with fail;generalize (w.alloc (ag (bg val X o (p:Nat) i) 70)).alloc (ag (bj t s l u) 67)=f at *;obtain⟨Q,B⟩:=nM (w.heap.size);rw[B]at n ⊢;have qg:=N B;clear B;refine aH (S:=λw'=>D f.drew.heap.size f.drew w') (E:=λ_=>X) zK ?_;replace x:=x.drew;replace n:=n.drew;have qd:Hid (f.drew.cell? ⟨b,q+(p+2)*2,Y⟩=J (V H r.1)):=N qb.out;have K:=N (show D w.heap.size w f.drew from I.out.drew);generalize f.drew=w2 at *;clear qb I;refine wTq 10 [(0,13,ptr k.gp),(1,14,ptr k.gp),(2,15,ae (J ⟨k.gp,28,Y⟩)),(3,16,af (J ⟨b,q,Y⟩) log.length k.cap),(4,17,ae (J ⟨Q,3,Y⟩)),(5,18,V H (p:Nat)),(6,19,V H ((p+2:Nat):Int)),(7,20,ae (J ⟨b,q+(p+2)*2,Y⟩)),(8,21,ae (J ⟨b,q+(p+2)*2,Y⟩)),(9,22,V H r.1)] ?_ bS ?_
 ·intro w' v;have C:=(x.aw v).cell 28;have L:=(n.aw v).cell 3;have R:=iF v qd.out;have hw1:IntKind.i64.wrap ((p:Int)+2)=((p+2:Nat):Int):=by rw[dh _ zO];rfl
  have g3:((p+2:Nat):Int)<log.length:=zO;have qi:((p+2:Nat):Int).toNat=p+2:=zO;simp at C L R;rw[U.out]at C;generalize NJ:((p+2:Nat):Int)=pp at *;have g5:0<=pp:=zO;exact zT
 refine wOq 10 (λP qa=>?_);go_simp;refine(gL r.1 _).mono ?_;rintro e qh ⟨rfl,d⟩;have T:=N (aE K.out d);obtain⟨y,z⟩:=nM (r.1%65536);have O:=N (show idxOf r.1=y from z);rw[z];refine sO qa (λ_=>d) ?_;clear qa P z;refine wTq 2 [(11,24,V H y),(12,6,V H y)] ?_ d ?_
 ·intro w' v;exact zT
 refine aG zK ?_ _;go_wp2_with fail;go_ret;exact⟨by rw[O.out];rfl,T.out⟩
theorem KD(w:W):U ao 180 #[.int .u64 1] w λe w'=>e=ai (V H 1)/\w=w':=by
 go_enter func180,ntmps180;go_wp2_with fail;go_ret;exact⟨zK,Z⟩
theorem len_one(w:W):U ao 162 #[.int .u64 1] w λe w'=>e=ai (V H 1)/\w=w':=by
 go_enter func162,ntmps162;go_wp2_with fail;refine(KD _).mono ?_;rintro e a ⟨rfl,rfl⟩;go_wp2_with fail;go_ret;exact⟨rfl,rfl⟩
theorem Ib(w:W):U ao 121 #[V H 1] w λe w'=>e=ai (V H 0)/\D w.heap.size w w':=by
 go_enter func121,ntmps121;go_wp2_with fail;refine(len_one _).mono ?_;rintro e a ⟨rfl,rfl⟩;go_wp2_with fail;go_ret;exact⟨rfl,bS⟩
end
variable {B b gp i j n:Nat} {a d w2:W} {u v:I}
theorem nX{P:J4}{fn:Func}{p t:Tmp}{t1:bM}(h:fn.results=#[.tmp t,.cell p t1])(a:Array I)(w:W)(c:Nat)(b:Array I)(e:Nat × Nat)(d:TypeDesc)(v:I)(f:a.getD p undef=ae (J ⟨c,0,Y⟩))(i:a.getD t undef=v)(s:w.heap[c]? =J (ag b t1 e))(j:P.underlying t1=J d)(o:(match d with|.struct _|.array _ _=>O|_=>X)=O)(n:(P.info? t1).map (·.size)=J b.size):
  (jE fn a).run P w= .ok (.tuple #[v,.agg b]) w:=by
 subst i;have l:a[p]?.getD undef=ae (J ⟨c,0,Y⟩):=by simpa using f
 simp[jE,h,l,asAddr,a7 w c t1 t1 b e d s j o n]
section
variable {w:W} {k:Sk} {g:cq} {m:Nat} {log:Log} {q:An Out}
theorem come0(z b6:Nat)(F:Int × Bool->Log->An Out)(h:eU w k g m log)(d:Bk w z 139 #[ptr k.gp])(Q:q=doM ⟨1,.bucket 0,0,0⟩ F (log.drop m))(hF:∀r l,idxOf r.1=0->F r l= .stuck)(mF:q≠ .stuck):
  Calls ao 120 #[aa H 0,ptr z,ptr b6] w (kq k q w λu o=>∃r,log[m]? =J r/\u= .tuple #[aa H (idxOf r.1),.agg aW]/\eU o k g (m+1) log/\q=F r (log.drop (m+1))):=by
 have P:=N (al hF mF);have HNE:=N (show z≠k.gp by obtain⟨_,hh,-⟩:=h.kp;exact(hh.typ d zD).symm);have f:=Bk.made w 70 aW;have i:Stp k.gp w (w.alloc (ag aW 70)):=(Stp.refl k.gp w).alloc _;have L:=h.lt;have I:=d.lt;have A:=bA w (ag aW 70);replace h:=h.aw A;replace d:=d.aw A;have HQ:=N Q;have hfl:∀(a:Int) (b:Bool) (c:Int) (w:World),(Instr.field 81 (.agg #[aa H a,.bool b,aa H c]) 0).run ao w= .ok (aa H a) w:=λ_ _ _ _=>by kernel_rfl
 have KW:=jY;go_enter func120,ntmps120;go_upto_region 1 with fail;generalize w.alloc (ag aW 70)=M at *;obtain⟨s,qb⟩:=nM (w.heap.size);rw[qb]at f L I ⊢;have D:=N (show k.gp<s/\z<s/\w.heap.size=s from⟨L,I,qb⟩);obtain⟨V,n,hG⟩:=h.kp;refine aH (S:=λo=>Bk o k.gp 141 (spC k V m log.length)/\Bk o z 139 #[ptr k.gp]) (E:=λ_=>false) zK ?_;have A:=bD M;replace h:=h.aw A;replace n:=n.drew;replace d:=d.drew;replace f:=f.drew;replace i:=i.drew;generalize M.drew=w1 at *;refine wTq 8 [(0,11,ptr k.gp),(1,12,ptr k.gp),(2,13,ptr k.gp),(4,15,ptr k.gp),(5,16,ptr k.gp),(6,17,ae (J ⟨k.gp,27,none⟩)),(7,18,aa H 0),(8,19,aa H 0)] ?_ ⟨n,d⟩ ?_
 ·intro o y;have R:=y.1.cell 27;have G:=y.2.cell 0;simp at R G;exact zT
 refine wTq 1 [(3,14,lyV k.l)] ?_ ⟨n,d⟩ ?_
 ·intro o y;have T:=Ao y.1
  (repeat' (first|exact bd|refine al ⟨_,Z,.inl ⟨Z,?_⟩⟩ ?_))
  all_goals exact list.dp Z Z T
 refine wOq 9 (λKK X=>?_);go_simp;refine(ox k.l 0 0 w1 h.f).mono ?_;rintro e w2 ⟨rfl,j⟩;replace h:=h.aw j;replace n:=n.aw j;replace d:=d.aw j;replace f:=f.aw j;replace i:=i.trans (Stp.aT _ j);refine sO X (λ_=>⟨n,d⟩) ?_;refine wTq 1 [(10,6,aa H (dM k.l 0 0))] ?_ ⟨n,d⟩ ?_
 ·intro o y;exact zT
 refine aG zK ?_ _;have G:=d.cell 0;have l2:=d.lt;simp at G;go_wp2_with fail;refine(sdo ⟨1,.bucket 0,0,0⟩ (dM k.l 0 0) _ h Z HQ.out).mono ?_;rintro e w3 (⟨x,Y,rfl,h3⟩|⟨v,rfl,⟨⟨B,U⟩,hx,rfl,DF,BE⟩,qa⟩)
 ·exact⟨Z,.inl ⟨x,Y,Z,i.trans h3⟩⟩
 replace i:=i.trans qa;replace d:=qa.aw d HNE.out;replace f:=qa.aw f (by have:=D.out;omega);have qd:=N hx;have qc:=N BE;have h:=DF;go_wp2_with fail;refine(gL B _).mono ?_;rintro e w4 ⟨rfl,j⟩;replace h:=h.aw j;replace d:=d.aw j;replace f:=f.aw j;replace i:=i.trans (Stp.aT _ j);obtain⟨C,O⟩:=nM (B%65536);have K:=N (show idxOf B=C from O);rw[O];have NP:C≠0:=by
  intro e;exact P.out.2 (qc.out.trans (P.out.1 _ _ (K.out.trans e)))
 have xZ:(C != 0)=true:=by simp[NP]
 go_wp2_with (refine aI Z 70 (.tmp 5) (.tmp 31) Z Z s aW Z Z 70 aW f zK Z (by simp[aB]) ?_);have W:=h.row f (by have:=D.out;have:=h.bp;omega) zD aW;replace f:=f.bG aW;replace i:=i.row (b:=s) (.inl (by have:=D.out;omega)) aW;exact aS (v:=.tuple #[aa H C,.agg aW]) (nX (p:=5) (t:=4) (t1:=70) Z _ _ s aW (0,0) _ _ Z Z f aJ Z zK) Z (.inr ⟨_,Z,⟨(B,U),qd.out,by rw[K.out],W,qc.out⟩,i⟩)
end
def c7T:Nat->Nat|2=>38|3=>39|4=>35|5=>40|6=>41|7=>9|8=>8|9=>71|_=>72
def c7P:Nat->List Nat|3=>[2]|4=>[3]|5=>[4]|6=>[4]|8=>[5]|9=>[6,7]|_=>[]
def c7R(k:Sk)(g:cq)(n:Nat)(log:Log)(q:An Out)(F:Int × Bool->Log->An Out)(B:Nat)(i:Nat)(v:I)(w:W):Prop:=match i with
 | 2=>v=V H 0
 | 3=>∃r,log[n]? =J r/\v= .tuple #[V H (idxOf r.1),.agg aW]/\eU w k g (n+1) log/\q=F r (log.drop (n+1))
 | 4=>∃r,log[n]? =J r/\v= .tuple #[V H (idxOf r.1),.agg aW]
 | 5=>∃r,log[n]? =J r/\v=V H (idxOf r.1)
 | 6=>v= .agg aW
 | 7=>∃a,v=ptr a/\B<=a/\Bk w a 70 aW
 | 8=>∃r,log[n]? =J r/\v=V H (idxOf r.1)
 | _=>True
def c7G(gp B:Nat)(i:Nat)(a b:W):Prop:=match i with
 | 3=>Stp gp a b
 | 9=>∃c,B<=c/\Bk a c 70 aW/\b=a.setRow c aW
 | _=>D a.heap.size a b
def c7N(k:Sk)(g:cq)(n:Nat)(log:Log)(i:Nat)(w:W):Prop:=match i with
 | 3=>eU w k g n log
 | _=>True
def coT(gp b B:Nat)(a w:W):Prop:=Stp gp a w/\Bk w b 70 aW/\B<=w.heap.size
theorem ub(h:c7G gp B i a w2):(i=3/\Stp gp a w2)\/(i=9/\∃b,B<=b/\Bk a b 70 aW/\w2=a.setRow b aW)\/D a.heap.size a w2:=by
 unfold c7G at h;split at h
 ·exact .inl ⟨Z,h⟩
 ·exact .inr (.inl ⟨Z,h⟩)
 exact .inr (.inr h)
theorem rT(w:W)(g:Nat)(a:Array I):(w.setRow g a).heap.size=w.heap.size:=by simp[W.setRow]
theorem OC(n:b≠gp)(t:b<B){j:W}(u:d.heap.size<=B)(h:coT gp b B d j)(l:c7G gp B i j w2):coT gp b B d w2:=by
 obtain⟨e,f,c⟩:=h;rcases ub l with⟨rfl,a⟩|⟨rfl,s,v,o,rfl⟩|a
 ·exact⟨e.trans a,a.aw f n,aF c a.size⟩
 ·exact⟨e.row (.inl M) _,f.a6 M _,by rw[rT];exact c⟩
 exact⟨e.trans (.aT _ a),f.aw a,aF c a.size⟩
theorem B3{k:Sk}{g:cq}{log:Log}(o:k.gp<B){b:W}(i:j≠3)(h:eU a k g n log)(d:c7G k.gp B j a b):eU b k g n log:=by
 rcases ub d with⟨e,-⟩|⟨rfl,l,s,c,rfl⟩|f
 ·exact absurd e i
 ·exact h.row c (by have:=h.bp;omega) zD _
 exact h.aw f
theorem OE{k:Sk}{g:cq}{log:Log}(d:k.gp<B)(c:i≠j)(h:c7N k g n log i a)(b:c7G k.gp B j a w2):c7N k g n log i w2:=by
 unfold c7N at h ⊢;split
 ·exact B3 d (λe=>c e.symm) h b
 trivial
theorem OD{k:Sk}{g:cq}{log:Log}{q:An Out}{F:Int × Bool->Log->An Out}(u:k.gp<B){o:W}(s:i≠j)(h:c7R k g n log q F B i v o)(f:c7G k.gp B j o w2):c7R k g n log q F B i v w2:=by
 unfold c7R at h ⊢;split
 ·exact h
 ·obtain⟨r,c,d,a,x⟩:=h;exact⟨r,c,d,B3 u (λe=>s e.symm) a f,x⟩
 ·exact h
 ·exact h
 ·exact h
 ·obtain⟨l,c,d,a⟩:=h;refine⟨l,c,d,?_⟩;rcases ub f with⟨-,b⟩|⟨-,t,z,y,rfl⟩|b
  ·exact b.aw a M
  ·by_cases e:l=t
   ·subst e;exact a.bG _
   exact a.a6 e _
  exact a.aw b
 ·exact h
 trivial
def Dn:Nat->Nat|3=>50|4=>51|5=>46|6=>52|7=>53|8=>10|9=>71|10=>72|_=>73
def qF:Nat->List Nat|4=>[3]|5=>[4]|6=>[5]|7=>[5]|9=>[6]|10=>[7,8]|_=>[]
def Lz(k:Sk)(lo:LOp)(g:cq)(m:Nat)(log:Log)(c:An (dx × Pz))(c1 c2:Array I):Prop:=
 ∃o b e gn d a,c= .fin (o,b)/\c1=bg o.val o.is 0 ((m+o.bc:Nat):Int) (.slice e gn d)/\runN k lo g m log o.bc= .ask a/\c2=bj a.k (adr k.l a.c) a.o a.v
def c10R(k:Sk)(lo:LOp)(g:cq)(m:Nat)(log:Log)(d:An (dx × Pz))(f B:Nat)(h:Int)(i:Nat)(val:Nat->Option I)(v:I)(w:W):Prop:=match i with
 | 3=>v=V H h
 | 4=>∃b a,v= .tuple #[.agg b,.agg a]/\Lz k lo g m log d b a/\∀o e,d= .fin (o,e)->eU w k e.gone (m+e.made) log
 | 5=>∃b a,v= .tuple #[.agg b,.agg a]/\Lz k lo g m log d b a
 | 6=>∃b a,v= .agg b/\Lz k lo g m log d b a
 | 7=>∃b a,v= .agg a/\Lz k lo g m log d b a
 | 8=>∃c,v=ptr c/\B<=c/\(val 10=Y->Bk w c 67 cG)
 | 9=>∃b a,Lz k lo g m log d b a/\Bk w f 70 b
 | 10=>∃c b a,val 8=J (ptr c)/\B<=c/\Lz k lo g m log d b a/\Bk w c 67 a
 | _=>True
def IN(gp d B:Nat)(i:Nat)(a b:W):Prop:=match i with
 | 4=>Stp gp a b
 | 9=>∃r,Bk a d 70 aW/\b=a.setRow d r
 | 10=>∃c r,B<=c/\Bk a c 67 cG/\b=a.setRow c r
 | _=>D a.heap.size a b
def Lm(k:Sk)(g:cq)(m:Nat)(log:Log)(a:Nat)(i:Nat)(w:W):Prop:=match i with
 | 4=>eU w k g m log
 | 9=>Bk w a 70 aW
 | _=>True
theorem ki{c:Nat}(h:IN gp c B i a w2):(i=4/\Stp gp a w2)\/(i=9/\∃r,Bk a c 70 aW/\w2=a.setRow c r)\/(i=10/\∃b r,B<=b/\Bk a b 67 cG/\w2=a.setRow b r)\/D a.heap.size a w2:=by
 unfold IN at h;split at h
 ·exact .inl ⟨Z,h⟩
 ·exact .inr (.inl ⟨Z,h⟩)
 ·exact .inr (.inr (.inl ⟨Z,h⟩))
 exact .inr (.inr (.inr h))
theorem Lj(t:b≠gp)(y:b<B)(o:b≠j){e l:W}(z:e.heap.size<=B)(s:e.heap.size<=j)(h:coT gp b B e l)(n:IN gp j B i l w2):coT gp b B e w2:=by
 obtain⟨c,f,d⟩:=h;rcases ki n with⟨rfl,a⟩|⟨rfl,r,u,rfl⟩|⟨rfl,x,r,v,A,rfl⟩|a
 ·exact⟨c.trans a,a.aw f t,aF d a.size⟩
 ·exact⟨c.row (.inl s) _,f.a6 o _,by rw[rT];exact d⟩
 ·exact⟨c.row (.inl M) _,f.a6 M _,by rw[rT];exact d⟩
 exact⟨c.trans (.aT _ a),f.aw a,aF d a.size⟩
theorem vJ{k:Sk}{g:cq}{log:Log}(u:k.gp<B)(v:k.gp<=b){c:W}(l:j≠4)(h:eU a k g n log)(f:IN k.gp b B j a c):eU c k g n log:=by
 rcases ki f with⟨e,-⟩|⟨rfl,r,d,rfl⟩|⟨rfl,t,r,s,o,rfl⟩|i
 ·exact absurd e l
 ·exact h.row d (by have:=h.bp;omega) zD _
 ·exact h.row o (by have:=h.bp;omega) zD _
 exact h.aw i
theorem Ll{k:Sk}{g:cq}{log:Log}{a:Nat}(l:k.gp<B)(o:k.gp<a)(v:a<B)(f:i≠j)(h:Lm k g n log a i d)(c:IN k.gp a B j d w2):Lm k g n log a i w2:=by
 unfold Lm at h ⊢;split
 ·exact vJ l (ed o) (λe=>f e.symm) h c
 ·rcases ki c with⟨-,b⟩|⟨e,r,s,rfl⟩|⟨-,u,r,t,x,rfl⟩|b
  ·exact b.aw h M
  ·exact absurd e.symm f
  ·exact h.a6 M _
  exact h.aw b
 trivial
theorem oY{val:Nat->Option I}(a:val j=Y)(h:val i=J v):upd val j u i=J v:=by
 simp only[upd];split
 ·rename_i e;subst e;rw[a]at h;cases h
 exact h
theorem BR{val:Nat->Option I}(h:upd val j u i=Y):val i=Y/\i≠j:=by
 simp only[upd]at h;split at h
 ·cases h
 rename_i e;exact⟨h,e⟩
theorem Lk{k:Sk}{lo:LOp}{g:cq}{m:Nat}{log:Log}{C:An (dx × Pz)}{d:Nat}{D:Int}(F:k.gp<B)(G:k.gp<d)(M:d<B){val:Nat->Option I}{A:W}(y:i≠j)(K:val j=Y)(h:c10R k lo g m log C d B D i val v A)(x:IN k.gp d B j A w2):c10R k lo g m log C d B D i (upd val j u) v w2:=by
 unfold c10R at h ⊢;split
 ·exact h
 ·obtain⟨n,f,c,b,l⟩:=h;exact⟨n,f,c,b,λo P e=>vJ F (ed G) (λe=>y e.symm) (l o P e) x⟩
 ·exact h
 ·exact h
 ·exact h
 ·obtain⟨s,c,b,l⟩:=h;refine⟨s,c,b,λe=>?_⟩;obtain⟨E,J⟩:=BR e;have t:=l E;rcases ki x with⟨-,a⟩|⟨-,r,H,rfl⟩|⟨e,-⟩|a
  ·exact a.aw t zO
  ·exact t.a6 zO _
  ·exact absurd e.symm J
  exact t.aw a
 ·obtain⟨n,f,c,b⟩:=h;refine⟨n,f,c,?_⟩;rcases ki x with⟨-,a⟩|⟨e,-⟩|⟨-,s,r,L,t,rfl⟩|a
  ·exact a.aw b zO
  ·exact absurd e.symm y
  ·exact b.a6 zO _
  exact b.aw a
 ·obtain⟨s,n,f,c,b,l,z⟩:=h;refine⟨s,n,f,oY K c,b,l,?_⟩;rcases ki x with⟨-,a⟩|⟨-,r,H,rfl⟩|⟨e,-⟩|a
  ·exact a.aw z zO
  ·exact z.a6 zO _
  ·exact absurd e.symm y
  exact z.aw a
 trivial
def Bw(k:Sk)(bk:Int)(op:MOp)(sz:Int)(log:Log)(q:An Out)(u:I)(c:W):Prop:=
 ∃n a b,u= .tuple #[V H n,.agg aW]/\eU c k b a log/\b.length<=1000/\q=eD (2*k.l.c.aO) bk k.me op (iH op sz n a b) (log.drop a)
structure MpS (k:Sk) (log:Log):Prop where
 se:1<=k.l.c.aO/\k.l.c.aO<=8
 cap:log.length<=k.cap
 nd:∀n,1<=n->n<=40->0<=nodeAt k.l n 0/\nodeAt k.l n 0<k.l.size
section
variable {w:W} {k:Sk} {g:cq} {m:Nat} {log:Log} {q:An Out}
theorem Lb(b2 b6:Nat)(bk:Int)(op:MOp)(sz:Int)(h:eU w k g m log)(f:Bk w b2 139 #[ptr k.gp])(k6:Bk w b6 150 #[.func (.func 120) #[] #[ptr b2,ptr b6]])(hs:MpS k log)(qc:g.length<=1000)(hq0:q=nW (2*k.l.c.aO) bk k.me op (.m2 sz 1) m g (log.drop m))(mF:q≠ .stuck):
  Calls ao 120 #[aa H 1,ptr b2,ptr b6] w (kq k q w (Bw k bk op sz log q)):=by
 have HS:=aj (al hs (al qc mF));have hq:=hq0.trans (mJ _ _ _ _ _ _ _ _);have HNE:=aj (show b2≠k.gp by obtain⟨_,hh,-⟩:=h.kp;exact(hh.typ f zD).symm);have HNE6:=aj (show b6≠k.gp by obtain⟨_,hh,-⟩:=h.kp;exact(hh.typ k6 zD).symm);have HK6:=aj (al k6 f);clear hs qc mF hq0 k6;have s:=Bk.made w 70 aW;have n:Stp k.gp w (w.alloc (ag aW 70)):=(Stp.refl k.gp w).alloc _;have zp:=h.lt;have z2:=f.lt;have L:=bA w (ag aW 70);replace h:=h.aw L;replace f:=f.aw L;have HQ:=aj hq;clear hq L;have hfl:∀(a:Int) (b:Bool) (c:Int) (w:World),(Instr.field 81 (.agg #[aa H a,.bool b,aa H c]) 0).run ao w= .ok (aa H a) w:=λ_ _ _ _=>by kernel_rfl
 have KW:=jY;go_enter func120,ntmps120;go_upto_region 1 with fail;generalize w.alloc (ag aW 70)=w0 at *;obtain⟨qa,oQ⟩:=nM (w.heap.size);rw[oQ]at s zp z2 ⊢;have HN:=aj (show k.gp<qa/\b2<qa/\w.heap.size=qa from⟨zp,z2,oQ⟩);clear oQ zp z2;obtain⟨gv,kp,hG⟩:=h.kp;refine aH (S:=λw'=>Bk w' k.gp 141 (spC k gv m log.length)/\Bk w' b2 139 #[ptr k.gp]) (E:=λ_=>X) zK ?_;have L:=bD w0;replace h:=h.aw L;replace kp:=kp.drew;replace f:=f.drew;replace s:=s.drew;replace n:=n.drew;clear L hG;generalize w0.drew=w1 at *;refine wTq 8 [(0,11,ptr k.gp),(1,12,ptr k.gp),(2,13,ptr k.gp),(4,15,ptr k.gp),(5,16,ptr k.gp),(6,17,ae (some ⟨k.gp,27,none⟩)),(7,18,aa H 0),(8,19,aa H 1)] ?_ ⟨kp,f⟩ ?_
 ·intro w' qe;have c27:=qe.1.cell 27;have A:=qe.2.cell 0;simp at c27 A;exact zT
 refine wTq 1 [(3,14,lyV k.l)] ?_ ⟨kp,f⟩ ?_
 ·intro w' qe;have kE:=Ao qe.1;exact zL
 refine wOq 9 (λKK d=>?_);go_simp;refine(ox k.l 0 1 w1 h.f).mono ?_;rintro e w2 ⟨rfl,y⟩;replace h:=h.aw y;replace kp:=kp.aw y;replace f:=f.aw y;replace s:=s.aw y;replace n:=n.trans (Stp.aT _ y);refine sO d (λ_=>⟨kp,f⟩) ?_;clear d KK y;refine wTq 1 [(10,6,aa H (dM k.l 0 1))] ?_ ⟨kp,f⟩ ?_
 ·intro w' qe;exact zT
 refine aG zK ?_ _;clear kp;have A:=f.cell 0;have l2:=f.lt;simp at A;go_wp2_with fail;refine(sdo ⟨1,.bucket 1,0,0⟩ (dM k.l 0 1) _ h Z HQ.out).mono ?_;rintro e w3 (⟨x,F,rfl,V⟩|⟨v,rfl,⟨⟨x1,x2⟩,hx,rfl,DF,BE⟩,O⟩)
 ·exact⟨Z,.inl ⟨x,F,Z,n.trans V⟩⟩
 replace n:=n.trans O;replace f:=O.aw f HNE.out;replace s:=O.aw s (by have:=HN.out;omega);have HX:=aj hx;have rG:=aj BE;clear h O hx BE HQ A l2;have h:=DF;clear DF;go_wp2_with fail;refine(gL x1 _).mono ?_;rintro e w4 ⟨rfl,y⟩;replace h:=h.aw y;replace f:=f.aw y;replace s:=s.aw y;replace n:=n.trans (Stp.aT _ y);clear y;obtain⟨ix,qD⟩:=nM (x1%65536);have xU:=aj (show idxOf x1=ix from qD);rw[qD];clear qD;by_cases NP:ix=0
 case neg=>
  have sT:=aj (show q=eD (2*k.l.c.aO) bk k.me op (iH op sz ix (m+1) g) (log.drop (m+1))from by
   rw[rG.out];show eD _ _ _ _ (if idxOf x1≠0 then _ else _) _=_;rw[if_pos (by rw[xU.out];exact NP),xU.out])
  have xZ:(ix != 0)=true:=by simp[NP]
  clear NP rG;go_wp2_with (refine aI Z 70 (.tmp 5) (.tmp 31) Z Z qa aW Z Z 70 aW s zK Z (by simp[aB]) ?_);have h9:=h.row s (by have:=HN.out;have:=h.bp;omega) zD aW;replace s:=s.bG aW;replace n:=n.row (b:=qa) (.inl (by have:=HN.out;omega)) aW;exact aS (v:=.tuple #[aa H ix,.agg aW]) (nX (p:=5) (t:=4) (t1:=70) Z _ _ qa aW (0,0) _ _ Z Z s aJ Z zK) Z (.inr ⟨_,Z,⟨ix,m+1,g,Z,h9,HS.out.2.1,sT.out⟩,n⟩)
 have mB:=aj (show q=doM ⟨1,.bucket 0,0,0⟩ (λr l'=>eD (2*k.l.c.aO) bk k.me op ((MPh.m3 sz).stp (2*k.l.c.aO) bk op (m+1) g r) l') (log.drop (m+1))from by
  rw[rG.out];show eD _ _ _ _ (if idxOf x1≠0 then _ else if (1:Int)=1 then _ else _) _=_;rw[if_neg (by rw[xU.out];exact λe=>e NP),if_pos Z];exact mJ _ _ _ _ _ _ _ _)
 have xZ:(ix != 0)=X:=by simp[NP]
 clear NP rG xU HX;go_upto_region 7 with fail;clear xZ;have k6:Bk w4 b6 150 #[.func (.func 120) #[] #[ptr b2,ptr b6]]:=n.aw HK6.out.1 HNE6.out;refine aH (S:=λw'=>Bk w' b6 150 #[.func (.func 120) #[] #[ptr b2,ptr b6]]) (E:=λ_=>X) zK ?_;have L:=bD w4;replace h:=h.aw L;replace k6:=k6.drew;replace s:=s.drew;replace n:=n.drew;clear L f;generalize w4.drew=w5 at *;refine wTq 2 [(0,36,.func (.func 120) #[] #[ptr b2,ptr b6]),(1,37,aa H 1)] ?_ k6 ?_
 ·intro w' qe;have c6:=qe.cell 0;simp at c6;exact zT
 have KV:k.gp<w5.heap.size:=h.lt;have h5B:qa<w5.heap.size:=s.lt;have h5g:qa≠k.gp:=by have:=HN.out;omega
 have KL:w.heap.size<=w5.heap.size:=n.size;refine oX (QP:=λc w'=>∃x,q= .ask x/\c=[{ v:=uO k.l x,recovered:=X }]/\Stp k.gp w w') (U:=[2,3,4,5,6,7,8,9]) (tmp:=c7T) (pre:=c7P) (T:=coT k.gp qa w5.heap.size w) (N:=c7N k g (m+1) log) (G:=c7G k.gp w5.heap.size)
  (R:=λi _ v w'=>c7R k g (m+1) log q (λr l'=>eD (2*k.l.c.aO) bk k.me op ((MPh.m3 sz).stp (2*k.l.c.aO) bk op (m+1) g r) l') w5.heap.size i v w') zK (λ_ _=>Z) (λw2 z=>z.1.aw HK6.out.1 HNE6.out) ⟨n,s,aq _⟩
  (λi _ w1 w2 z qc=>OC h5g h5B KL z qc) (λi hi=>?_) (λi _ j _ yw w1 w2 _ hn qc=>OE KV yw hn qc) (λi _ j _ yw nf v u w1 w2 _ _ _ _ D qc=>OD KV yw D qc) (λi hi o ho nf w1 K BB z hN J d=>?_) (λc a' w' hqp hd=>?_) 0 (λnf w6 B z=>?_)
 ·simp only[aL,be,or_false]at hi;rcases hi with rfl|rfl|rfl|rfl|rfl|rfl|rfl|rfl
  ·trivial
  ·exact h
  all_goals trivial
 ·simp only[aL,be,or_false]at hi;rcases hi with rfl|rfl|rfl|rfl|rfl|rfl|rfl|rfl
  ·obtain rfl:=aP ho;simp only[c7P,ba]at d ⊢;go_simp;refine(Ib w1).mono ?_;rintro e w2 ⟨rfl,y⟩;exact d _ _ rfl y
  ·obtain rfl:=aP ho;obtain⟨v2,qd,rfl⟩:=J 2 (by simp[c7P]);simp only[c7P,ba,qd,c7T]at d ⊢;go_simp;have KQ:=z.1;have k2':=KQ.aw HK6.out.2 HNE.out;have KZ:=hN;unfold c7N at KZ;refine(come0 b2 b6 _ KZ k2' mB.out (λr l e=>by simp only[MPh.stp];rw[if_pos (.inl e)];simp[eD]) HS.out.2.2).mono ?_;rintro e w2 (⟨x,F,rfl,V⟩|⟨v,rfl,⟨r,D,rfl,yt,hqr⟩,O⟩)
   ·exact⟨x,F,Z,KQ.trans V⟩
   exact d _ _ ⟨r,D,Z,yt,hqr⟩ O
  ·obtain rfl:=aP ho;obtain⟨v3,Q,r,D,rfl,-⟩:=J 3 (by simp[c7P]);simp only[c7P,ba,Q,c7T]at d ⊢;go_simp;exact d _ _ ⟨r,D,Z⟩ bS
  ·obtain rfl:=aP ho;obtain⟨v4,C,r,D,rfl⟩:=J 4 (by simp[c7P]);simp only[c7P,ba,C,c7T]at d ⊢;go_simp;exact d _ _ ⟨r,D,Z⟩ bS
  ·obtain rfl:=aP ho;obtain⟨v4,C,r,D,rfl⟩:=J 4 (by simp[c7P]);simp only[c7P,ba,C,c7T]at d ⊢;go_simp;exact d _ _ Z bS
  ·obtain rfl:=aP ho;simp only[c7P,ba]at d ⊢;go_simp;exact d _ _ ⟨_,Z,z.2.2,Bk.made _ _ _⟩ (aA bS _)
  ·obtain rfl:=aP ho;obtain⟨v5,e5,r,D,rfl⟩:=J 5 (by simp[c7P]);simp only[c7P,ba,e5,c7T]at d ⊢;go_simp;exact d _ _ ⟨r,D,Z⟩ bS
  obtain rfl:=aP ho;obtain⟨v6,e6,rfl⟩:=J 6 (by simp[c7P]);obtain⟨v7,e7,g9,rfl,h9,k9⟩:=J 7 (by simp[c7P]);simp only[c7P,ba,e6,e7,c7T]at d ⊢;(try simp only[au,ar,an]);refine eC 70 (.tmp 9) (.tmp 41) Z g9 _ Z Z 70 aW k9 zK Z (by simp[aB]) ?_;exact d undef _ trivial ⟨g9,h9,k9,Z⟩
 ·obtain⟨x,F,rfl,V⟩:=hqp;exact⟨hd,.inl ⟨x,F,Z,V⟩⟩
 obtain⟨v2,qd,rfl⟩:=B 2 zS;obtain⟨v3,Q,r,D,rfl,yt,hqr⟩:=B 3 zS;obtain⟨v4,C,r4,hr4,rfl⟩:=B 4 zS;obtain⟨v5,e5,r5,hr5,rfl⟩:=B 5 zS;obtain⟨v6,e6,rfl⟩:=B 6 zS;obtain⟨v7,e7,b9,rfl,h9,k9⟩:=B 7 zS;obtain⟨v8,e8,r8,hr8,rfl⟩:=B 8 zS;obtain⟨v9,e9,-⟩:=B 9 zS;obtain rfl:=aP (D.symm.trans hr4);obtain rfl:=aP (D.symm.trans hr5);obtain rfl:=aP (D.symm.trans hr8);clear B hr4 hr5 hr8;refine aG (by simp only[dj,qd,Q,C,e5,e6,e7,e8,e9,cZ,if_true];kernel_rfl) ?_ _;simp only[ba,qd,Q,C,e5,e6,e7,e8,e9,c7T];clear qd Q C e5 e6 e7 e8 e9;(try simp only[Act.put,ak,ay,az,eM]);obtain⟨na,hna⟩:=nM (idxOf r.1);have HNA:=aj hna;rw[hna];clear hna;have HB9:=aj (show qa<b9/\k.gp<b9/\w.heap.size<=b9 from⟨M,M,M⟩);clear h k6 n s KV h5B h5g KL h9;have hnb:1<=na/\na<=40:=by
  have yB:=Nz r.1;rw[HNA.out]at yB;refine db λhc=>HS.out.2.2 (hqr.trans ?_);simp only[MPh.stp];rw[HNA.out,if_pos M];simp[eD]
 have HNB:=aj hnb;obtain⟨lo,uD⟩:∃lo:LOp,lo=⟨2,na,pw 1,0⟩:=⟨_,Z⟩;have HLO:=aj uD;have oP:lo.kind=2:=by rw[uD]
 obtain⟨q',NH⟩:∃q',q'=cK (2*k.l.c.aO) k.me lo (cW lo g) (log.drop (m+1+1)):=⟨_,Z⟩;have AX:q=Da (2*k.l.c.aO) bk k.me op true sz (m+1+1) q' (log.drop (m+1+1)) 0:=by
  rw[hqr,NH];simp only[MPh.stp];rw[HNA.out,if_neg M,<- uD];exact vS _ _ _ _ _ _ _ _ _ (.inr (.inl oP)) _ _
 have HQC:=aj AX;have HQ':=aj NH;have HLS:=aj (show LiS k lo g (m+1+1) log q' from by
  refine⟨HS.out.1.se,by rw[uD];show na<=_;omega,by rw[uD];exact HS.out.1.nd na hnb.1 hnb.2,.inr (.inl oP),NH,λe=>HS.out.2.2 (by rw[AX,e];rfl),λo qb e=>Js (N:=1000) (by have:=HS.out.1.se;omega) (.inr (.inl oP)) HS.out.2.1 (NH.symm.trans e),HS.out.1.cap⟩)
 have HKK:=aj oP;clear hnb uD AX NH hqr oP mB D;have h:=yt;have n:=z.1;have s:=z.2.1;clear yt z;have c9:=k9.cell 2;have l9:=k9.lt;simp at c9;go_upto_region 10 with fail;clear c9 l9;have f:=n.aw HK6.out.2 HNE.out;refine aH (S:=λw'=>Bk w' b2 139 #[ptr k.gp]) (E:=λ_=>X) zK ?_;have L:=bD w6;replace h:=h.aw L;replace f:=f.drew;replace s:=s.drew;replace k9:=k9.drew;replace n:=n.drew;clear L;generalize w6.drew=w7 at *;refine wTq 3 [(0,47,ptr k.gp),(1,48,aa H na),(2,49,aa H 1)] ?_ f ?_
 ·intro w' qe;have A:=qe.cell 0;simp at A;exact zT
 have KV:k.gp<w7.heap.size:=h.lt;have h5B:qa<w7.heap.size:=s.lt;have h9B:b9<w7.heap.size:=k9.lt;have h5g:qa≠k.gp:=by have:=HN.out;omega
 have KL:w.heap.size<=w7.heap.size:=n.size;have N0:k.gp<b9:=HB9.out.2.1;refine oX (QP:=λc w'=>∃x,q= .ask x/\c=[{ v:=uO k.l x,recovered:=X }]/\Stp k.gp w w') (U:=[3,4,5,6,7,8,9,10]) (tmp:=Dn) (pre:=qF) (T:=coT k.gp qa w7.heap.size w) (N:=Lm k g (m+1+1) log b9) (G:=IN k.gp b9 w7.heap.size)
  (R:=c10R k lo g (m+1+1) log q' b9 w7.heap.size (pw 1)) zK (λ_ _=>Z) (λw2 z=>z.1.aw HK6.out.2 HNE.out) ⟨n,s,aq _⟩
  (λi _ w1 w2 z qc=>Lj h5g h5B (by have:=HB9.out;omega) KL HB9.out.2.2 z qc) (λi hi=>?_) (λi _ j _ yw w1 w2 _ hn qc=>Ll KV N0 h9B yw hn qc) (λi _ j _ yw nf v u w1 w2 _ _ hj _ D qc=>Lk KV N0 h9B yw hj D qc) (λi hi o ho nf w1 K BB z hN J d=>?_) (λc a' w' hqp hd=>?_) 0 (λnf w8 B z=>?_)
 ·simp only[aL,be,or_false]at hi;rcases hi with rfl|rfl|rfl|rfl|rfl|rfl|rfl|rfl
  ·trivial
  ·exact h
  ·trivial
  ·trivial
  ·trivial
  ·trivial
  ·exact k9
  trivial
 ·simp only[aL,be,or_false]at hi;rcases hi with rfl|rfl|rfl|rfl|rfl|rfl|rfl|rfl
  ·obtain rfl:=aP ho;simp only[qF,ba]at d ⊢;go_simp;refine(K9 1 w1).mono ?_;rintro e w2 ⟨rfl,rfl⟩;exact d _ _ rfl bS
  ·obtain rfl:=aP ho;obtain⟨v3,Q,rfl⟩:=J 3 (by simp[qF]);simp only[qF,ba,Q,Dn]at d ⊢;go_simp;have KQ:=z.1;have KZ:=hN;unfold Lm at KZ;have hd:=slist KZ HLS.out;rw[HLO.out]at hd;(with_reducible refine hd.mono ?_);rw[<- HLO.out];rintro e w2 (⟨x,F,rfl,V⟩|⟨v,rfl,⟨o,qb,gG,gn,gc,pk,pc,po,pv,W,rfl,yt,a,yC,ha2⟩,O⟩)
   ·exact⟨x,by rw[HQC.out,F];rfl,Z,KQ.trans V⟩
   refine d _ _ ⟨_,_,Z,⟨o,qb,gG,gn,gc,a,W,Z,yC,ha2⟩,λo2 z2 qd=>?_⟩ O;rw[W]at qd;injection qd with qd;injection qd with qd Q;subst Q;exact yt
  ·obtain rfl:=aP ho;obtain⟨v4,C,c1,A,rfl,P,-⟩:=J 4 (by simp[qF]);simp only[qF,ba,C,Dn]at d ⊢;go_simp;exact d _ _ ⟨c1,A,Z,P⟩ bS
  ·obtain rfl:=aP ho;obtain⟨v4,C,c1,A,rfl,P⟩:=J 5 (by simp[qF]);simp only[qF,ba,C,Dn]at d ⊢;go_simp;exact d _ _ ⟨c1,A,Z,P⟩ bS
  ·obtain rfl:=aP ho;obtain⟨v4,C,c1,A,rfl,P⟩:=J 5 (by simp[qF]);simp only[qF,ba,C,Dn]at d ⊢;go_simp;exact d _ _ ⟨c1,A,Z,P⟩ bS
  ·obtain rfl:=aP ho;simp only[qF,ba]at d ⊢;go_simp;exact d _ _ ⟨_,Z,z.2.2,λ_=>Bk.made _ _ _⟩ (aA bS _)
  ·obtain rfl:=aP ho;obtain⟨v6,e6,c1,A,rfl,P⟩:=J 6 (by simp[qF]);have KZ:=hN;unfold Lm at KZ;have hl0:=P;obtain⟨o,qb,gG,gn,gc,a,W,rfl,yC,rfl⟩:=P;simp only[qF,ba,e6,Dn]at d ⊢;(try simp only[au,ar,an]);refine eC 70 (.tmp 9) (.tmp 52) Z b9 _ Z Z 70 aW KZ zK Z (by simp[aB]) ?_;exact d undef _ ⟨_,_,hl0,Bk.bG KZ _⟩ ⟨_,KZ,Z⟩
  obtain rfl:=aP ho;obtain⟨v7,e7,c1,A,rfl,P⟩:=J 7 (by simp[qF]);obtain⟨v8,e8,g10,rfl,h10,k10⟩:=J 8 (by simp[qF]);have k10:=k10 BB;have hl0:=P;obtain⟨o,qb,gG,gn,gc,a,W,rfl,yC,rfl⟩:=P;simp only[qF,ba,e7,e8,Dn]at d ⊢;(try simp only[au,ar,an]);refine eC 67 (.tmp 10) (.tmp 53) Z g10 _ Z Z 67 cG k10 zK Z (by simp[aB]) ?_;exact d undef _ ⟨g10,_,_,by simp only[upd];exact e8,h10,hl0,k10.bG _⟩ ⟨g10,_,h10,k10,Z⟩
 ·obtain⟨x,F,rfl,V⟩:=hqp;exact⟨hd,.inl ⟨x,F,Z,V⟩⟩
 obtain⟨v3,Q,rfl⟩:=B 3 zS;obtain⟨v4,C,c1,A,rfl,P,yt⟩:=B 4 zS;obtain⟨v5,e5,c1',c2',rfl,-⟩:=B 5 zS;obtain⟨v6,e6,d1,d2,rfl,-⟩:=B 6 zS;obtain⟨v7,e7,f1,f2,rfl,-⟩:=B 7 zS;obtain⟨v8,e8,g10,rfl,hg10,-⟩:=B 8 zS;obtain⟨v9,e9,o1,o2,hl9,k9'⟩:=B 9 zS;obtain⟨v10,uN,g10',a1,a2,e8',-,hl10,k10⟩:=B 10 zS;rw[e8]at e8';obtain rfl:=mM e8';clear B e8' k9;refine aG (by simp only[dj,Q,C,e5,e6,e7,e8,e9,uN,cZ,if_true];kernel_rfl) ?_ _;simp only[ba,Q,C,e5,e6,e7,e8,e9,uN,Dn];clear Q C e5 e6 e7 e8 e9 uN;(try simp only[Act.put,ak,ay,az,eM]);obtain⟨o,qb,gG,gn,gc,a,W,rfl,yC,-⟩:=hl9;obtain⟨Y,z'',_,_,_,a',hqf',-,ha',rfl⟩:=hl10;have hoo:Y=o:=by
  rw[W]at hqf';injection hqf' with e;injection e with e1 qd;exact e1.symm
 subst hoo;have haa:a'=a:=by
  rw[yC]at ha';injection ha' with e;exact e.symm
 subst haa;have HFC:=aj (MI HKK.out (HQ'.out.symm.trans W));obtain⟨pp,NJ⟩:=nM (((m+1+1+Y.bc:Nat):Int));rw[NJ]at k9';have HPP:=aj NJ;clear NJ;have DB:=aj W;have HA1:=aj yC;have HG9:=aj (show qb.gone.length<=1000 from Js (N:=1000) (by have:=HS.out.1.se;omega) (.inr (.inl HKK.out)) HS.out.2.1 (HQ'.out.symm.trans W));have iB:=aj (show q=doM ⟨3,.bucket 1,0,aV Y.node⟩ (λr l'=>eD (2*k.l.c.aO) bk k.me op ((MPh.m4 sz Y.node).stp (2*k.l.c.aO) bk op (m+1+1+qb.made) qb.gone r) l') (log.drop (m+1+1+qb.made))from by
  rw[HQC.out,W];show eD _ _ _ _ (MX.go (.m4 sz Y.node) (m+1+1+qb.made) qb.gone) ((log.drop (m+1+1)).drop qb.made)=_;rw[List.drop_drop];exact mJ _ _ _ _ _ _ _ _)
 have h:=yt _ _ W;have n:=z.1;have s:=z.2.1;have f:=n.aw HK6.out.2 HNE.out;have N8:b9<w8.heap.size:=k9'.lt;clear yt z P W hqf' yC ha' KV h5B h9B h5g KL N0 hg10;have c9:=k9'.cell 2;have l9:=k9'.lt;simp at c9;go_upto_region 13 with fail;clear c9 l9;have A:=f.cell 0;have l2:=f.lt;simp at A;go_wp2_with (first
  | (refine aM Z 70 (.tmp 9) Z b9 Z 70 _ (0,0) _ k9' aJ Z zK ?_)
  | (refine aM Z 67 (.tmp 10) Z g10 Z 67 _ (0,0) _ k10 cF Z zK ?_))
 have rr:Calls ao 123 #[ptr k.gp,.agg (bg Y.val Y.is 0 pp (.slice gG gn gc)),.agg (bj a'.k (adr k.l a'.c) a'.o a'.v)] w8 λe w'=>e=ai (aa H Y.node)/\Below w8.heap.size w8 w':=by
  rw[<- HPP.out];obtain⟨f1,f2,f3⟩:=HFC.out;have qD:idxOf (aV Y.node)=Y.node:=gw _ _ _ f3.1 f3.2;cases Iv:Y.is with
  | true=>
   obtain⟨a2,F,h2⟩:=f1 Iv;have:a2=a':=by
    have V:An.ask a2=An.ask a':=F.symm.trans HA1.out;injection V
   subst this;refine(L4 _ _ _ _ _ _ _ _ _ _).mono ?_;rintro e w' ⟨rfl,y⟩;exact⟨by rw[h2,qD],y⟩
  | false=>
   obtain⟨r2,F,h2⟩:=f2 Iv;rw[List.getElem?_drop]at F;refine(L3 _ _ _ _ _ _ _ _ r2 h (by rw[<- F];congr 1)).mono ?_;rintro e w' ⟨rfl,y⟩;exact⟨by rw[h2,qD],y⟩
 (with_reducible refine rr.mono ?_);rintro e w9 ⟨rfl,y⟩;replace h:=h.aw y;replace f:=f.aw y;replace s:=s.aw y;replace n:=n.trans (Stp.aT _ y);clear rr y A l2 k9' k10 N8;obtain⟨nn,LI⟩:=nM (Y.node);have I1:=aj LI;rw[LI];clear LI;go_upto_region 14 with fail;refine aH (S:=λw'=>Bk w' b2 139 #[ptr k.gp]) (E:=λ_=>X) zK ?_;have L:=bD w9;replace h:=h.aw L;replace f:=f.drew;replace s:=s.drew;replace n:=n.drew;clear L;generalize w9.drew=wA at *;refine wTq 4 [(0,62,ptr k.gp),(1,63,aa H (dM k.l 0 1)),(2,64,aa H nn),(3,65,mW nn X 0)] ?_ f ?_
 ·intro w' qe;have A:=qe.cell 0;simp at A;exact zT
 refine wOq 4 (λKK d=>?_);go_simp;refine(gk nn X 0 wA).mono ?_;rintro e wB ⟨rfl,y⟩;replace h:=h.aw y;replace f:=f.aw y;replace s:=s.aw y;replace n:=n.trans (Stp.aT _ y);refine sO d (λ_=>f) ?_;clear d KK y;rw[show dL nn X 0=aV nn from rfl];refine wTq 1 [(5,67,.agg #[aa H 3,aa H (dM k.l 0 1),aa H 0,aa H (aV nn)])] ?_ f ?_
 ·intro w' qe;exact zT
 refine wOq 6 (λKK d=>?_);go_simp;refine(sdo ⟨3,.bucket 1,0,aV nn⟩ (dM k.l 0 1) _ h Z (I1.out ▸ iB.out)).mono ?_;rintro e wC (⟨x,F,rfl,V⟩|⟨v,rfl,⟨⟨y1,y2⟩,hy,rfl,DF,BE⟩,O⟩)
 ·exact⟨Z,.inl ⟨x,F,Z,n.trans V⟩⟩
 have rK:=aj (show q=eD (2*k.l.c.aO) bk k.me op (iH op sz nn (m+1+1+qb.made+1) qb.gone) (log.drop (m+1+1+qb.made+1))from by rw[BE,<- I1.out];rfl);replace n:=n.trans O;replace f:=O.aw f HNE.out;replace s:=O.aw s (by have:=HN.out;omega);clear h hy BE O iB;have h:=DF;clear DF;refine sO d (λ_=>f) ?_;clear d KK;refine aG zK ?_ _;go_wp2_with (refine aI Z 70 (.tmp 5) (.tmp 70) Z Z qa aW Z Z 70 aW s zK Z (by simp[aB]) ?_);have h9:=h.row s (by have:=HN.out;have:=h.bp;omega) zD aW;replace s:=s.bG aW;replace n:=n.row (b:=qa) (.inl (by have:=HN.out;omega)) aW;exact aS (v:=.tuple #[aa H nn,.agg aW]) (nX (p:=5) (t:=4) (t1:=70) Z _ _ qa aW (0,0) _ _ Z Z s aJ Z zK) Z (.inr ⟨_,Z,⟨nn,_,_,Z,h9,HG9.out,rK.out⟩,n⟩)
end
end split
end Go.Proofs.YtikdaeddbkopeaaGreatR
