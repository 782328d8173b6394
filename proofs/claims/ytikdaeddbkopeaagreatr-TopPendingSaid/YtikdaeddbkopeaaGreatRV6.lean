/- A part of the proof. -/
import Derived.Test.YtikdaeddbkopeaaGreatRV5
import Derived.Test.YtikdaeddbkopeaaGreatRV1
import Derived.Test.YtikdaeddbkopeaaGreatRV4
import Derived.Test.YtikdaeddbkopeaaGreatRV2
set_option linter.unusedVariables false
set_option linter.unusedSimpArgs false
set_option maxRecDepth 100000
set_option maxHeartbeats 16000000
open Go.Proofs.Tryz
open And renaming intro → al
open Array renaming getElem?_eq_some_iff → a9, getElem?_setIfInBounds_self_of_lt → bK
open Bool renaming false → X, true → O
open Classical renaming byContradiction → db
open Go renaming Calls → U, Value → I, World → W, Program → J4, run_loadVar_row → a7, wpList_store_rowTo → aI, wpList_load_row → aM, wp_at_zero → aQ, wp_at_succ → aR, bodyPost_ret → aS, TypeId → bM, results_cell_row → bQ, loadVar → cL, wp_store_row → eC, results_none → gT, Ending → jK, execOp → nO, Operand → vn
open Go.Ending renaming returned → ai
open Go.Instr renaming sureAddr → uS, makeFunc → uT
open Go.IntKind renaming i64 → H, i64 → ab
open Go.IntWalk renaming i64_in → dh
open Go.Lib renaming hid → N, hid → aj
open Go.Obj renaming cells → ag
open Go.Proofs.Tryz renaming underlying70 → aJ, underlying34 → aK, prog → ao, underlying67 → cF
open Go.Region renaming wanted → sZ
open Go.Result renaming andThen_ok → bC
open Go.RowKit renaming Below → D
open Go.RowKit.Below renaming heap_setCell → jL
open Go.Sem renaming run_bind → cD, run_pure → dF
open Go.Value renaming int → V, oneCell' → aB, bool → ah, int → aa, pointer → ae
open List renaming mem_cons → aL, setIfInBounds_toArray → ak, getElem_cons_zero → an, getElem_cons_succ → ar, getElem_toArray → au, set_cons_zero → ay, set_cons_succ → az, not_mem_nil → be, set_nil → eM
open Nat renaming le_trans → aF, zero_le → aN, lt_of_lt_of_le → aZ, le_refl → aq
open Option renaming none → Y, some → J, isSome_some → cZ
open Option.some renaming inj → aP
open Or renaming inl → jI
open True renaming intro → bd
namespace Go.Proofs.YtikdaeddbkopeaaGreatR
namespace split
open Go.RowKit
attribute [local go_sem ↓] aQ aR
section
variable {w:W} {k:Sk} {g:cq} {m:Nat} {log:Log} {q:An Out}
def IV(k:Sk)(w:W):Prop:=(∀(j:Nat) (v:I),(lyC k.l)[j]? =J v->w.cell? ⟨k.gp,0+j,Y⟩=J v)/\w.cell? ⟨k.gp,27,Y⟩=J (V H 0)
theorem eU.hd(h:eU w k g m log):IV k w:=by
 obtain⟨b,a,-⟩:=h.kp;exact⟨Hq a,a.cell 27⟩
theorem IV.lay(h:IV k w):(cL 34 ⟨k.gp,0,Y⟩).run ao w= .ok (lyV k.l) w:=de w k.gp 0 34 (lyC k.l) _ h.1 aK Z zK
theorem kq.trans{β:Type}{q:An β}{w f:W}{R:I->W->Prop}{e:jK}{w':W}(h:kq k q f R e w')(i:Stp k.gp w f):kq k q w R e w':=by
 rcases h with⟨a,c,d,b⟩|⟨v,c,d,b⟩
 ·exact .inl ⟨a,c,d,i.trans b⟩
 exact .inr ⟨v,c,d,i.trans b⟩
theorem Lc(b:Int)(B:b=0\/b=1)(c d:Nat)(bk:Int)(op:MOp)(sz:Int)(h:eU w k g m log)(o:Bk w c 139 #[ptr k.gp])(z:Bk w d 150 #[.func (.func 120) #[] #[ptr c,ptr d]])(A:MpS k log)(i:g.length<=1000)(j:q=nW (2*k.l.c.aO) bk k.me op (.m2 sz b) m g (log.drop m))(f:q≠ .stuck):
  U ao 120 #[V H b,ptr c,ptr d] w (kq k q w (Bw k bk op sz log q)):=by
 rcases B with rfl|rfl;rotate_left
 ·exact Lb c d bk op sz h o z A i j f
 have y:=j.trans (mJ _ _ _ _ _ _ _ _);refine(come0 c d _ h o y (λr l e=>?_) f).mono ?_
 ·simp only[MPh.stp];rw[if_neg (by simp[e]),if_neg zD];simp[eD]
 rintro e E (⟨a,C,rfl,x⟩|⟨v,rfl,⟨r,D,rfl,u,s⟩,t⟩)
 ·exact .inl ⟨a,C,Z,x⟩
 refine .inr ⟨_,Z,⟨_,_,_,Z,u,i,?_⟩,t⟩;by_cases n:idxOf r.1=0
 ·exfalso;refine f (s.trans ?_);simp only[MPh.stp];rw[if_neg (by simp[n]),if_neg zD];simp[eD]
 rw[s];simp only[MPh.stp];rw[if_pos n]
theorem Ow(b:Int)(P:b=0\/b=1)(bk:Int)(op:MOp)(sz:Int)(h:eU w k g m log)(H:MpS k log)(M:g.length<=1000)(E:q=nW (2*k.l.c.aO) bk k.me op (.m2 sz b) m g (log.drop m))(qa:q≠ .stuck):
  Calls ao 89 #[ptr k.gp,aa ab b] w (kq k q w (Bw k bk op sz log q)):=by
 have s:=((Bk.made w 139 #[ptr k.gp]).alloc (ag aW 70)).alloc (ag #[.nilFunc] 150);have f:=(Bk.new (w.alloc (ag #[ptr k.gp] 139)) (g:=w.heap.size+1) zS 70 aW).alloc (ag #[.nilFunc] 150);have d:=Bk.new ((w.alloc (ag #[ptr k.gp] 139)).alloc (ag aW 70)) (g:=w.heap.size+1+1) zS 150 #[.nilFunc];have z:=aA (aA (bA w (ag #[ptr k.gp] 139)) (ag aW 70)) (ag #[.nilFunc] 150);have j:=Stp.aT k.gp z;have B:=h.lt;replace h:=h.aw z;have u:=aj (al P (al H (al M (al E qa))));have X:∀(fn:Fn) (first N:Array I) (w:W),(uT fn first N).run ao w= .ok (.func fn first N) w:=λ_ _ _ _=>Z;clear P H M E qa z;go_enter func89,ntmps89;go_upto_region 2 with fail;generalize ((w.alloc (ag #[ptr k.gp] 139)).alloc (ag aW 70)).alloc (ag #[.nilFunc] 150)=O at *;obtain⟨i,y⟩:=nM (w.heap.size);have K:=aj y;rw[y]at s f d B ⊢;clear y;obtain⟨o,C⟩:=nM (i+1);obtain⟨c,F⟩:=nM (o+1);rw[C]at f;rw[C,F]at d ⊢;have l:=aj (show k.B<=k.gp/\k.gp<i/\i<o/\o<c from⟨h.bp,B,zO,zO⟩);clear C F B;have x:=d.cell 0;have U:=d.free 0;have D:=d.lt;simp at x;go_upto_region 3 with fail;clear x U D;replace h:=h.pz d (by have:=l.out;omega) zD 0 (.func (.func 120) #[] #[ptr i,ptr c]);replace s:=s.other (p:=⟨c,0,Y⟩) (by have:=l.out;dsimp only;omega) (.func (.func 120) #[] #[ptr i,ptr c]);replace f:=f.other (p:=⟨c,0,Y⟩) (by have:=l.out;dsimp only;omega) (.func (.func 120) #[] #[ptr i,ptr c]);replace j:=j.cell (p:=⟨c,0,Y⟩) (.inl (by have:=l.out;rw[K.out];dsimp only;omega)) (.func (.func 120) #[] #[ptr i,ptr c]);replace d:Bk (O.setCell ⟨c,0,Y⟩ (.func (.func 120) #[] #[ptr i,ptr c])) c 150 #[.func (.func 120) #[] #[ptr i,ptr c]]:=d.stored 0 _;generalize O.setCell ⟨c,0,Y⟩ (.func (.func 120) #[] #[ptr i,ptr c])=qd at *;have x:=d.cell 0;have D:=d.lt;simp at x;go_wp2_with fail;have hd:=Lc b u.out.1 i c bk op sz h s d u.out.2.1 u.out.2.2.1 u.out.2.2.2.1 u.out.2.2.2.2;(with_reducible refine hd.mono ?_);rintro e qc (⟨a,S,rfl,qb⟩|⟨v,rfl,⟨n,V,T,rfl,Q,J,L⟩,A⟩)
 ·exact⟨Z,.inl ⟨a,S,Z,j.trans qb⟩⟩
 replace j:=j.trans A;replace f:=A.aw f (by have:=l.out;omega);have G:=aj (al J L);clear hd h s d x D J L A;go_wp2_with (refine aI Z 70 (.tmp 5) (.tmp 12) Z Z o aW Z Z 70 aW f zK Z (by simp[aB]) ?_);have R:=Q.row f (by have:=l.out;omega) zD aW;replace f:=f.bG aW;replace j:=j.row (b:=o) (.inl (by have:=l.out;rw[K.out];omega)) aW;exact aS (v:=.tuple #[aa ab n,.agg aW]) (nX (p:=5) (t:=4) (t1:=70) Z _ _ o aW (0,0) _ _ Z Z f aJ Z zK) Z (.inr ⟨_,Z,⟨n,V,T,Z,R,G.out.1,G.out.2⟩,j⟩)
def O5(k:Sk)(o:dx)(g:cq)(log:Log)(q:An Out)(u:I)(a:W):Prop:=∃b,u= .tuple #[]/\eU a k g b log/\q= .fin ⟨o.val,o.is,o.bc,g⟩
theorem Dq(d i:Nat)(sz:Int)(bk:Int)(op:MOp)(o:dx)(h:eU w k g m log)(a:Bk w d 139 #[ptr k.gp])(b:Bk w i 3 #[V H (ft k.l 0 1)])(c:q=nW (2*k.l.c.aO) bk k.me op (.m7 o) m g (log.drop m)):
  U ao 118 #[V H sz,ptr d,ptr i] w (kq k q w (O5 k o g log q)):=by
 have y:=N (c.trans (mJ _ _ _ _ _ _ _ _));have l:=a.cell 0;have f:=b.cell 0;have A:=a.lt;have B:=b.lt;simp at l f;clear c;go_enter func118,ntmps118;go_wp2_with fail;refine(sdo ⟨4,.mcount,0,-1⟩ (ft k.l 0 1) _ h Z y.out).mono ?_;rintro e E (⟨x,s,rfl,z⟩|⟨v,rfl,⟨⟨F,D⟩,t,rfl,C,j⟩,u⟩)
 ·exact⟨Z,.inl ⟨x,s,Z,z⟩⟩
 have n:=N (show q= .fin ⟨o.val,o.is,o.bc,g⟩from by rw[j];simp only[MPh.stp,yn];simp[eD]);clear h a b l f A B t j;go_wp2_with fail;exact bodyPost_end (gT Z _ _ _) Z (.inr ⟨_,Z,⟨_,Z,C,n.out⟩,u⟩)
theorem Dr(y R:Nat)(sz:Int)(op:MOp)(o:dx)(rI:sz=1\/sz=2)(h:eU w k g m log)(a:Bk w y 139 #[ptr k.gp])(C:Bk w R 3 #[aa H (ft k.l 0 1)])(J:q=nW (2*k.l.c.aO) k.l.c.buckets k.me op (.m5 sz o) m g (log.drop m)):
  Calls ao 117 #[aa H sz,ptr y,ptr R] w (kq k q w (O5 k o g log q)):=by
 have T:=N (J.trans (mJ _ _ _ _ _ _ _ _));have V:=N (show y≠k.gp by obtain⟨_,Y,-⟩:=h.kp;exact(Y.typ a zD).symm);have d:=a.cell 0;have qb:=C.cell 0;have G:=a.lt;have l3:=C.lt;have KW:=jY;have hs1:1<=sz/\sz<=2:=zO;simp at d qb;clear J rI;go_enter func117,ntmps117;go_wp2_with fail;refine(sdo ⟨4,.mcount,0,1⟩ (ft k.l 0 1) _ h Z T.out).mono ?_;rintro e P (⟨x,A,rfl,F⟩|⟨v,rfl,⟨⟨c,x2⟩,qe,rfl,l,z⟩,qa⟩)
 ·exact⟨Z,.inl ⟨x,A,Z,F⟩⟩
 have b:=qa;replace a:=qa.aw a V.out;have t:=N (show q=eD (2*k.l.c.aO) k.l.c.buckets k.me op (if c>=2*sz/\sz<k.l.c.buckets then .go (.m6 sz o) (m+1) g else yn o g) (log.drop (m+1))from z);clear h qe z qa d qb G l3 C T;have h:=l;clear l;obtain⟨gv,f,U⟩:=h.kp;have Q:=f.cell 2;have lp:=f.lt;have d:=a.cell 0;have G:=a.lt;simp at Q d;by_cases hd:c>=2*sz/\sz<k.l.c.buckets;rotate_left
 ·have u:=N (show q= .fin ⟨o.val,o.is,o.bc,g⟩from by rw[t.out,if_neg hd];simp[eD,yn]);have M:=N h;clear U t;by_cases L:2*sz<=c
  ·have I:decide (2*sz<=c)=O:=zP;have B:decide (c>=2*sz)=O:=zP;have hd2:decide (sz<k.l.c.buckets)=X:=zP;clear hd L;go_wp2_with fail;exact bodyPost_end (gT Z _ _ _) Z (.inr ⟨_,Z,⟨_,Z,M.out,u.out⟩,b⟩)
  have I:decide (2*sz<=c)=X:=zP;have B:decide (c>=2*sz)=X:=zP;clear hd L;go_wp2_with fail;exact bodyPost_end (gT Z _ _ _) Z (.inr ⟨_,Z,⟨_,Z,M.out,u.out⟩,b⟩)
 have mB:=N (show q=doM ⟨3,.msize,sz,2*sz⟩ (λr l'=>eD (2*k.l.c.aO) k.l.c.buckets k.me op ((MPh.m6 sz o).stp (2*k.l.c.aO) k.l.c.buckets op (m+1) g r) l') (log.drop (m+1))from by
  rw[t.out,if_pos hd];exact mJ _ _ _ _ _ _ _ _)
 have I:decide (2*sz<=c)=O:=zP;have B:decide (c>=2*sz)=O:=zP;have hd2:decide (sz<k.l.c.buckets)=O:=zP;clear hd t;go_upto_region 2 with fail;clear d Q G lp I B hd2;refine aH (S:=λi=>IV k i/\Bk i y 139 #[ptr k.gp]) (E:=λ_=>X) zK ?_;have qc:=bD P;replace h:=h.aw qc;replace f:=f.drew;replace a:=a.drew;replace b:=b.drew;clear qc U;generalize P.drew=w4 at *;refine wTq 11 [(0,24,ptr k.gp),(1,25,ptr k.gp),(2,26,ptr k.gp),(3,27,ptr k.gp),(5,29,ptr k.gp),(6,30,ptr k.gp),(7,31,ae (some ⟨k.gp,27,none⟩)),(8,32,aa H 0),(10,34,aa H sz),(11,35,aa H sz),(12,36,aa H (2*sz))] ?_ ⟨h.hd,a⟩ ?_
 ·intro i n;have W:=n.1.2;have d:=n.2.cell 0;have hwr:IntKind.i64.wrap (2*sz)=2*sz:=dh _ zO;simp at W d;exact zT
 refine wTq 1 [(4,28,lyV k.l)] ?_ ⟨h.hd,a⟩ ?_
 ·intro i n;have qd:=n.1.lay
  (repeat' (first|exact bd|refine al ⟨_,Z,.inl ⟨Z,?_⟩⟩ ?_))
  all_goals exact list.dp Z Z qd
 refine wOq 9 (λD j=>?_);go_simp;refine(pU k.l 0 0 w4 h.f).mono ?_;rintro e w5 ⟨rfl,s⟩;replace h:=h.aw s;replace f:=f.aw s;replace a:=a.aw s;replace b:=b.trans (Stp.aT _ s);refine sO j (λ_=>⟨h.hd,a⟩) ?_;clear j D s;refine wTq 1 [(13,37,.agg #[aa H 3,aa H (ft k.l 0 0),aa H sz,aa H (2*sz)])] ?_ ⟨h.hd,a⟩ ?_
 ·intro i n;exact zT
 refine wOq 14 (λD j=>?_);go_simp;refine(sdo ⟨3,.msize,sz,2*sz⟩ (ft k.l 0 0) _ h Z mB.out).mono ?_;rintro e w6 (⟨x,A,rfl,F⟩|⟨v,rfl,⟨⟨y1,y2⟩,hy,rfl,l,z⟩,K⟩)
 ·exact⟨Z,.inl ⟨x,A,Z,b.trans F⟩⟩
 have u:=N (show q= .fin ⟨o.val,o.is,o.bc,g⟩from by rw[z];simp only[MPh.stp,yn];simp[eD]);replace b:=b.trans K;replace a:=K.aw a V.out;refine sO j (λ_=>⟨l.hd,a⟩) ?_;clear j D;refine aG zK ?_ _;go_wp2_with fail;exact bodyPost_end (gT Z _ _ _) Z (.inr ⟨_,Z,⟨_,Z,l,u.out⟩,b⟩)
end
variable {B gp i j n:Nat} {a w2:W}
def c4T:Nat->Nat|5=>41|6=>35|7=>42|8=>43|9=>7|10=>6|11=>67|_=>68
def c4P:Nat->List Nat|6=>[5]|7=>[6]|8=>[6]|10=>[7]|11=>[8,9]|_=>[]
def c4R(k:Sk)(bk:Int)(op:MOp)(sz:Int)(log:Log)(q:An Out)(B:Nat)(i:Nat)(val:Nat->Option I)(v:I)(w:W):Prop:=match i with
 | 5=>Bw k bk op sz log q v w
 | 6=>val 5=J v/\∃n,v= .tuple #[V H n,.agg aW]
 | 7=>∃n,v=V H n/\val 5=J (.tuple #[V H n,.agg aW])
 | 8=>v= .agg aW
 | 9=>∃a,v=ptr a/\B<=a/\Bk w a 70 aW
 | 10=>∃n,v=V H n/\val 5=J (.tuple #[V H n,.agg aW])
 | _=>True
def c4G(gp B:Nat)(i:Nat)(a b:W):Prop:=match i with
 | 5=>Stp gp a b
 | 11=>∃c,B<=c/\Bk a c 70 aW/\b=a.setRow c aW
 | _=>D a.heap.size a b
def c4N(k:Sk)(g:cq)(n:Nat)(log:Log)(i:Nat)(w:W):Prop:=match i with
 | 5=>eU w k g n log
 | _=>True
theorem uc(h:c4G gp B i a w2):(i=5/\Stp gp a w2)\/(i=11/\∃b,B<=b/\Bk a b 70 aW/\w2=a.setRow b aW)\/D a.heap.size a w2:=by
 unfold c4G at h;split at h
 ·exact .inl ⟨Z,h⟩
 ·exact .inr (.inl ⟨Z,h⟩)
 exact .inr (.inr h)
theorem OF{b:Nat}(m:b≠gp)(s:b<B){d j:W}(t:d.heap.size<=B)(h:coT gp b B d j)(l:c4G gp B i j w2):coT gp b B d w2:=by
 obtain⟨e,f,c⟩:=h;rcases uc l with⟨rfl,a⟩|⟨rfl,o,u,n,rfl⟩|a
 ·exact⟨e.trans a,a.aw f m,aF c a.size⟩
 ·exact⟨e.row (.inl M) _,f.a6 M _,by rw[rT];exact c⟩
 exact⟨e.trans (.aT _ a),f.aw a,aF c a.size⟩
theorem yR{k:Sk}{g:cq}{log:Log}(m:k.gp<B){b:W}(i:j≠5)(h:eU a k g n log)(d:c4G k.gp B j a b):eU b k g n log:=by
 rcases uc d with⟨e,-⟩|⟨rfl,l,o,c,rfl⟩|f
 ·exact absurd e i
 ·exact h.row c (by have:=h.bp;omega) zD _
 exact h.aw f
theorem OH{k:Sk}{g:cq}{log:Log}(d:k.gp<B)(c:i≠j)(h:c4N k g n log i a)(b:c4G k.gp B j a w2):c4N k g n log i w2:=by
 unfold c4N at h ⊢;split
 ·exact yR d (λe=>c e.symm) h b
 trivial
theorem OG{k:Sk}{bk:Int}{op:MOp}{sz:Int}{log:Log}{q:An Out}(x:k.gp<B){val:Nat->Option I}{v u:I}{o:W}(s:i≠j)(f:val j=Y)(h:c4R k bk op sz log q B i val v o)(l:c4G k.gp B j o w2):c4R k bk op sz log q B i (upd val j u) v w2:=by
 unfold c4R at h ⊢;split
 ·obtain⟨n,z,A,a,b,c,y⟩:=h;exact⟨n,z,A,a,yR x (λe=>s e.symm) b l,c,y⟩
 ·exact⟨oY f h.1,h.2⟩
 ·obtain⟨n,a,b⟩:=h;exact⟨n,a,oY f b⟩
 ·exact h
 ·obtain⟨m,a,b,c⟩:=h;refine⟨m,a,b,?_⟩;rcases uc l with⟨-,d⟩|⟨-,t,D,C,rfl⟩|d
  ·exact d.aw c M
  ·by_cases e:m=t
   ·subst e;exact c.bG _
   exact c.a6 e _
  exact c.aw d
 ·obtain⟨n,a,b⟩:=h;exact⟨n,a,oY f b⟩
 trivial
theorem vy{n n':Int}{c:I}(h:J (I.tuple #[V H n,c])=J (I.tuple #[V H n',c])):n=n':=by
 injection h with h;injection h with h;have a:=congrArg (λx=>x.toList) h;simp only[List.cons.injEq,I.int.injEq,true_and,and_true]at a;exact a
def bhV(b:Int)(c a:Nat):I:=if b=1 then .func (.func 116) #[] #[]else if b=2 then .func (.func 117) #[] #[ptr c,ptr a]else .func (.func 118) #[] #[ptr c,ptr a]
section
variable {w:W} {k:Sk} {g:cq} {log:Log} {q:An Out}
theorem Ds(sz:Int)(w:W):U ao 116 #[V H sz] w λe w'=>e=ai (.tuple #[])/\w=w':=by
 go_enter func116,ntmps116;go_wp2_with fail;exact bodyPost_end (gT Z _ _ _) Z ⟨Z,Z⟩
theorem eU.hd2{w:W}{m:Nat}(h:eU w k g m log):IV k w:=h.hd
theorem tL(op:Opr)(ky b5 b8 oW e1 e3:Nat)(h:eU w k g 0 log)(s:Bk w ky 139 #[ptr k.gp])(F:Bk w b5 34 (lyC k.l))(D:Bk w b8 54 (di op))(AT:Bk w oW 142 #[bhV op.kind e1 e3])(ke1:Bk w e1 139 #[ptr k.gp])(ke3:Bk w e3 3 #[aa H (ft k.l 0 1)])(hs:MpS k log)(hbk:1<=k.l.c.buckets)(hk:op.kind=1\/op.kind=2\/op.kind=3)(ha:0<=op.a/\op.a<65536)(hg:g.length<=1000)(hq:q=nW (2*k.l.c.aO) k.l.c.buckets k.me ⟨op.kind,op.a,op.b⟩ .m1 0 g (log.drop 0))(mF:q≠ .stuck):
  Calls ao 87 #[ptr ky,ptr b5,ptr b8,ptr oW] w (kq k q w λv w'=>∃val is bc g' A m gn l,q= .fin ⟨val,is,bc,g'⟩/\g'.length<=1000/\v= .agg (bg val is 0 bc (.slice m gn l))/\eU w' k g' A log):=by
 have L:=aj (al hs (al hbk (al hk (al ha (al hg mF)))));have qa:=aj (show ky≠k.gp/\b5≠k.gp/\b8≠k.gp/\oW≠k.gp/\e1≠k.gp/\e3≠k.gp by
  obtain⟨_,hh,-⟩:=h.kp;exact⟨(hh.typ s zD).symm,(hh.typ F zD).symm,(hh.typ D zD).symm,(hh.typ AT zD).symm,(hh.typ ke1 zD).symm,(hh.typ ke3 zD).symm⟩)
 have qd:=aj (al s (al F (al D (al AT (al ke1 ke3)))));have HQ:=aj (hq.trans (mJ _ _ _ _ _ _ _ _));have d:=Bk.made w 70 aW;have a:Stp k.gp w (w.alloc (ag aW 70)):=(Stp.refl k.gp w).alloc _;have zp:=h.lt;have qc:=bA w (ag aW 70);replace h:=h.aw qc;clear s F D AT ke1 ke3 hs hbk hk ha hg hq mF qc;have KW:=jY;go_enter func87,ntmps87;go_upto_region 1 with fail;generalize w.alloc (ag aW 70)=w0 at *;obtain⟨qb,tT⟩:=nM (w.heap.size);rw[tT]at d zp ⊢;have P:=aj (show k.gp<qb/\w.heap.size=qb from⟨zp,tT⟩);clear tT zp;refine aH (S:=λw'=>IV k w'/\Bk w' ky 139 #[ptr k.gp]/\Bk w' b5 34 (lyC k.l)) (E:=λ_=>X) zK ?_;have qc:=bD w0;replace h:=h.aw qc;replace d:=d.drew;replace a:=a.drew;clear qc;generalize w0.drew=w1 at *;have s:=a.aw qd.out.1 qa.out.1;have F:=a.aw qd.out.2.1 qa.out.2.1;refine wTq 5 [(0,8,ptr k.gp),(2,10,ptr k.gp),(3,11,ptr k.gp),(4,12,ae (some ⟨k.gp,27,Y⟩)),(5,13,aa H 0)] ?_ ⟨h.hd,s,F⟩ ?_
 ·intro w' J;have c27:=J.1.2;have yd:=J.2.1.cell 0;simp at c27 yd;exact zT
 refine wTq 1 [(1,9,lyV k.l)] ?_ ⟨h.hd,s,F⟩ ?_
 ·intro w' J;have kE:(cL 34 ⟨b5,0,Y⟩).run ao w'= .ok (lyV k.l) w':=a7 w' b5 34 34 (lyC k.l) (0,0) _ J.2.2 aK Z zK;exact zL
 refine wOq 6 (λKK t=>?_);go_simp;refine(pU k.l 0 0 w1 h.f).mono ?_;rintro e w2 ⟨rfl,hb⟩;replace h:=h.aw hb;replace s:=s.aw hb;replace F:=F.aw hb;replace d:=d.aw hb;replace a:=a.trans (Stp.aT _ hb);refine sO t (λ_=>⟨h.hd,s,F⟩) ?_;clear t KK hb;refine wTq 1 [(7,15,.agg #[aa H 1,aa H (ft k.l 0 0),aa H 0,aa H 0])] ?_ ⟨h.hd,s,F⟩ ?_
 ·intro w' J;exact zT
 refine wOq 8 (λKK t=>?_);go_simp;refine(sdo ⟨1,.msize,0,0⟩ (ft k.l 0 0) _ h Z HQ.out).mono ?_;rintro e w3 (⟨x,qf,rfl,Q⟩|⟨v,rfl,⟨⟨y,s2⟩,hx,rfl,DF,BE⟩,z⟩)
 ·exact⟨Z,.inl ⟨x,qf,Z,a.trans Q⟩⟩
 replace a:=a.trans z;replace s:=z.aw s qa.out.1;replace F:=z.aw F qa.out.2.1;replace d:=z.aw d (by have:=P.out;omega);have rG:=aj BE;clear h z hx BE HQ;have h:=DF;clear DF;refine sO t (λ_=>⟨h.hd,s,F⟩) ?_;clear t KK;refine wTq 1 [(9,17,aa H y)] ?_ ⟨h.hd,s,F⟩ ?_
 ·intro w' J;exact zT
 refine wTq 1 [(10,5,aa H y)] ?_ ⟨h.hd,s,F⟩ ?_
 ·intro w' J;exact zT
 refine aG zK ?_ _;have hszc:(y=1\/y=2)/\y<=k.l.c.buckets:=by
  refine db λhc=>L.out.2.2.2.2.2 (rG.out.trans ?_);simp only[MPh.stp];rw[if_neg (by have:=L.out.2.1;omega)];simp[eD]
 have HSZ:=aj hszc;obtain⟨bb,qc⟩:=nM (op.a%y);have HBB:=aj (al qc (show bb=0\/bb=1 by rcases hszc.1 with rfl|rfl<;>omega));have sT:=aj (show q=nW (2*k.l.c.aO) k.l.c.buckets k.me ⟨op.kind,op.a,op.b⟩ (.m2 y bb) 1 g (log.drop 1)from by
  refine db λhc=>?_;by_cases hg2:y=1\/y=2/\k.l.c.buckets=2
  ·apply hc;rw[rG.out];simp only[MPh.stp];rw[if_pos hg2,<- qc];rfl
  refine L.out.2.2.2.2.2 (rG.out.trans ?_);simp only[MPh.stp];rw[if_neg hg2];simp[eD])
 clear rG qc;have c2:=F.cell 2;have l5:=F.lt;simp at c2;have tP:decide (y<1)=X:=zP;have sW:decide (k.l.c.buckets<y)=X:=zP;have hz2':decide (y > k.l.c.buckets)=X:=zP;have hz3':(bits BinOp.and IntKind.i64 y (y-1) != 0)=X:=by rcases hszc.1 with rfl|rfl<;>decide
 have z:1<=y/\y<=2:=M;clear hszc;go_upto_region 4 with fail;clear c2 l5 tP sW hz2' hz3';have D:=a.aw qd.out.2.2.1 qa.out.2.2.1;refine aH (S:=λw'=>Bk w' ky 139 #[ptr k.gp]/\Bk w' b8 54 (di op)) (E:=λ_=>X) zK ?_;have qc:=bD w3;replace h:=h.aw qc;replace s:=s.drew;replace D:=D.drew;replace d:=d.drew;replace a:=a.drew;clear qc F;generalize w3.drew=w4 at *;refine wTq 5 [(0,36,ptr k.gp),(1,37,ae (some ⟨b8,2,Y⟩)),(2,38,aa H op.a),(3,39,aa H y),(4,40,aa H bb)] ?_ ⟨s,D⟩ ?_
 ·intro w' J;have yd:=J.1.cell 0;have c8:=J.2.cell 2;simp at yd c8;have hsz0:¬y=0:=M;have hrm:op.a.tmod y=bb:=by rw[Int.tmod_eq_emod_of_nonneg L.out.2.2.2.1.1];exact HBB.out.1
  exact zT
 have KV:k.gp<w4.heap.size:=h.lt;have h5B:qb<w4.heap.size:=d.lt;have h5g:qb≠k.gp:=by have:=P.out;omega
 have KL:w.heap.size<=w4.heap.size:=a.size;refine oX (QP:=λc w'=>∃x,q= .ask x/\c=[{ v:=uO k.l x,recovered:=X }]/\Stp k.gp w w') (U:=[5,6,7,8,9,10,11]) (tmp:=c4T) (pre:=c4P) (T:=coT k.gp qb w4.heap.size w) (N:=c4N k g (0+1) log) (G:=c4G k.gp w4.heap.size)
  (R:=c4R k k.l.c.buckets ⟨op.kind,op.a,op.b⟩ y log q w4.heap.size) zK (λ_ _=>Z) (λw2 qe=>⟨qe.1.aw qd.out.1 qa.out.1,qe.1.aw qd.out.2.2.1 qa.out.2.2.1⟩) ⟨a,d,aq _⟩
  (λi _ w1 w2 qe hg=>OF h5g h5B KL qe hg) (λi hi=>?_) (λi _ j _ yw w1 w2 _ hn hg=>OH KV yw hn hg) (λi _ j _ yw nf v u w1 w2 _ _ hj _ hr hg=>OG KV yw hj hr hg) (λi hi o ho nf w1 K BB qe hN fA t=>?_) (λc a' w' hqp hd=>?_) 0 (λnf w5 eI qe=>?_)
 ·simp only[aL,be,or_false]at hi;rcases hi with rfl|rfl|rfl|rfl|rfl|rfl|rfl
  ·exact h
  all_goals trivial
 ·simp only[aL,be,or_false]at hi;rcases hi with rfl|rfl|rfl|rfl|rfl|rfl|rfl
  ·obtain rfl:=aP ho;simp only[c4P,ba]at t ⊢;go_simp;have KZ:=hN;unfold c4N at KZ;have KQ:=qe.1;refine(Ow bb HBB.out.2 k.l.c.buckets ⟨op.kind,op.a,op.b⟩ y KZ L.out.1 L.out.2.2.2.2.1 sT.out L.out.2.2.2.2.2).mono ?_;rintro e w2 (⟨x,qf,rfl,Q⟩|⟨v,rfl,hco,z⟩)
   ·exact⟨x,qf,Z,KQ.trans Q⟩
   obtain⟨n,A,g',rfl,h2,Q,h4⟩:=hco;exact t _ _ ⟨n,A,g',Z,h2,Q,h4⟩ z
  ·obtain rfl:=aP ho;obtain⟨v5,V,n,A,g',rfl,-⟩:=fA 5 (by simp[c4P]);simp only[c4P,ba,V,c4T]at t ⊢;go_simp;exact t _ _ ⟨by simp only[upd];exact V,n,Z⟩ bS
  ·obtain rfl:=aP ho;obtain⟨v6,e6,V,n,rfl⟩:=fA 6 (by simp[c4P]);simp only[c4P,ba,e6,c4T]at t ⊢;go_simp;exact t _ _ ⟨n,Z,by simp only[upd];exact V⟩ bS
  ·obtain rfl:=aP ho;obtain⟨v6,e6,V,n,rfl⟩:=fA 6 (by simp[c4P]);simp only[c4P,ba,e6,c4T]at t ⊢;go_simp;exact t _ _ Z bS
  ·obtain rfl:=aP ho;simp only[c4P,ba]at t ⊢;go_simp;exact t _ _ ⟨_,Z,qe.2.2,Bk.made _ _ _⟩ (aA bS _)
  ·obtain rfl:=aP ho;obtain⟨v7,e7,n,rfl,V⟩:=fA 7 (by simp[c4P]);simp only[c4P,ba,e7,c4T]at t ⊢;go_simp;exact t _ _ ⟨n,Z,by simp only[upd];exact V⟩ bS
  obtain rfl:=aP ho;obtain⟨v8,e8,rfl⟩:=fA 8 (by simp[c4P]);obtain⟨v9,e9,g9,rfl,W,B⟩:=fA 9 (by simp[c4P]);simp only[c4P,ba,e8,e9,c4T]at t ⊢;(try simp only[au,ar,an]);refine eC 70 (.tmp 7) (.tmp 43) Z g9 _ Z Z 70 aW B zK Z (by simp[aB]) ?_;exact t undef _ trivial ⟨g9,W,B,Z⟩
 ·obtain⟨x,qf,rfl,Q⟩:=hqp;exact⟨hd,.inl ⟨x,qf,Z,Q⟩⟩
 obtain⟨v5,V,n,A,g',rfl,yt,uM,hqn⟩:=eI 5 zS;obtain⟨v6,e6,e6',n6,rfl⟩:=eI 6 zS;obtain⟨v7,e7,n7,rfl,e7'⟩:=eI 7 zS;obtain⟨v8,e8,rfl⟩:=eI 8 zS;obtain⟨v9,e9,qg,rfl,W,B⟩:=eI 9 zS;obtain⟨v10,uN,n10,rfl,e10'⟩:=eI 10 zS;obtain⟨v11,JD,-⟩:=eI 11 zS;rw[V]at e6' e7' e10';obtain rfl:=vy e6';obtain rfl:=vy e7';obtain rfl:=vy e10';clear eI e6' e7' e10';refine aG (by simp only[dj,V,e6,e7,e8,e9,uN,JD,cZ,if_true];kernel_rfl) ?_ _;simp only[ba,V,e6,e7,e8,e9,uN,JD,c4T];clear V e6 e7 e8 e9 uN JD;(try simp only[Act.put,ak,ay,az,eM]);have h:=yt;have a:=qe.1;have d:=qe.2.1;have HB7:=aj (show qb<qg/\k.gp<qg/\w.heap.size<=qg from⟨M,M,M⟩);clear yt qe s D KV h5B h5g KL W;have hnr:1<=n/\n<=40:=by
  refine db λhc=>L.out.2.2.2.2.2 (hqn.trans ?_);unfold iH;rw[if_neg hc];simp[eD]
 obtain⟨lo,uD⟩:∃lo:LOp,lo=⟨op.kind,n,eY op.a,op.b⟩:=⟨_,Z⟩;have HLO:=aj uD;have oP:lo.kind=1\/lo.kind=2\/lo.kind=3:=by rw[uD];exact L.out.2.2.1
 obtain⟨q',NH⟩:∃q',q'=cK (2*k.l.c.aO) k.me lo (cW lo g') (log.drop A):=⟨_,Z⟩;have AX:q=Da (2*k.l.c.aO) k.l.c.buckets k.me ⟨op.kind,op.a,op.b⟩ X y A q' (log.drop A) 0:=by
  rw[hqn,NH];unfold iH;rw[if_pos hnr];show eD _ _ _ _ ((cW ⟨op.kind,n,eY op.a,op.b⟩ g').inM X y A ⟨op.kind,n,eY op.a,op.b⟩ _) _=_;rw[<- uD];exact vS _ _ _ _ _ _ _ _ _ oP _ _
 have HQC:=aj AX;have HQ':=aj NH;have HLS:=aj (show LiS k lo g' A log q' from by
  refine⟨L.out.1.se,by rw[uD];show n<=_;omega,by rw[uD];exact L.out.1.nd n hnr.1 hnr.2,oP,NH,λe=>L.out.2.2.2.2.2 (by rw[AX,e];rfl),λo C e=>Js (N:=1000) (by have:=L.out.1.se;omega) oP uM (NH.symm.trans e),L.out.1.cap⟩)
 have HKK:=aj (al oP uM);clear hnr uD AX NH hqn oP sT uM;have c7:=B.cell 2;have l7:=B.lt;simp at c7;go_upto_region 7 with fail;clear c7 l7;have s:=a.aw qd.out.1 qa.out.1;have D:=a.aw qd.out.2.2.1 qa.out.2.2.1;refine aH (S:=λw'=>Bk w' ky 139 #[ptr k.gp]/\Bk w' b8 54 (di op)) (E:=λ_=>X) zK ?_;have qc:=bD w5;replace h:=h.aw qc;replace s:=s.drew;replace D:=D.drew;replace d:=d.drew;replace B:=B.drew;replace a:=a.drew;clear qc;generalize w5.drew=w6 at *;refine wTq 8 [(0,49,ptr k.gp),(1,50,ae (some ⟨b8,0,Y⟩)),(2,51,aa H op.kind),(3,52,aa H n),(4,53,ae (some ⟨b8,2,Y⟩)),(5,54,aa H op.a),(7,56,ae (some ⟨b8,3,Y⟩)),(8,57,aa H op.b)] ?_ ⟨s,D⟩ ?_
 ·intro w' J;have yd:=J.1.cell 0;have c80:=J.2.cell 0;have c82:=J.2.cell 2;have c83:=J.2.cell 3;simp at yd c80 c82 c83;exact zT
 refine wOq 6 (λKK t=>?_);go_simp;refine(MG op.a w6).mono ?_;rintro e w7 ⟨rfl,rfl⟩;refine sO t (λ_=>⟨s,D⟩) ?_;clear t KK;refine wOq 9 (λKK t=>?_);go_simp;have hd:=slist h HLS.out;rw[HLO.out]at hd;(with_reducible refine hd.mono ?_);rw[<- HLO.out];rintro e w8 (⟨x,qf,rfl,Q⟩|⟨v,rfl,⟨o,C,m,gn,l,pk,pc,po,pv,LH,rfl,yt,-⟩,z⟩)
 ·exact⟨Z,.inl ⟨x,by rw[HQC.out,qf];rfl,Z,a.trans Q⟩⟩
 replace a:=a.trans z;replace s:=z.aw s qa.out.1;replace D:=z.aw D qa.out.2.2.1;replace d:=z.aw d (by have:=P.out;omega);replace B:=z.aw B (by have:=HB7.out;omega);have DB:=aj LH;clear h hd z LH;have h:=yt;clear yt;obtain⟨f,NJ⟩:=nM (((A+o.bc:Nat):Int));have HPP:=aj NJ;rw[NJ];clear NJ;refine sO t (λ_=>⟨s,D⟩) ?_;clear t KK;refine wTq 1 [(10,48,.tuple #[.agg (bg o.val o.is 0 f (.slice m gn l)),.agg (bj pk pc po pv)])] ?_ ⟨s,D⟩ ?_
 ·intro w' J;exact zT
 refine wTq 2 [(11,59,.agg (bg o.val o.is 0 f (.slice m gn l))),(12,60,.agg (bj pk pc po pv))] ?_ ⟨s,D⟩ ?_
 ·intro w' J;exact zT
 refine wOq 13 (λKK t=>?_);rw[if_pos (by rfl)];refine eC 70 (.tmp 7) (.tmp 59) Z qg (bg o.val o.is 0 f (.slice m gn l)) Z Z 70 aW B zK Z (by simp[aB]) ?_;replace h:=h.row B (by have:=HB7.out;have:=h.bp;omega) zD (bg o.val o.is 0 f (.slice m gn l));replace d:=d.a6 (b:=qg) (by have:=HB7.out;omega) (bg o.val o.is 0 f (.slice m gn l));replace a:=a.row (b:=qg) (.inl HB7.out.2.2) (bg o.val o.is 0 f (.slice m gn l));replace s:=a.aw qd.out.1 qa.out.1;replace D:=a.aw qd.out.2.2.1 qa.out.2.2.1;replace B:=B.bG (bg o.val o.is 0 f (.slice m gn l));generalize w8.setRow qg (bg o.val o.is 0 f (.slice m gn l))=w9 at *;refine t.out _ _ (λ_=>⟨s,D⟩) ?_;clear t KK;(try simp only[au,ar,an,Act.put]);refine aG zK ?_ _;have HG9:=aj (show C.gone.length<=1000 from Js (N:=1000) (by have:=L.out.1.se;omega) HKK.out.1 HKK.out.2 (HQ'.out.symm.trans DB.out));have mB:=aj (show q=eD (2*k.l.c.aO) k.l.c.buckets k.me ⟨op.kind,op.a,op.b⟩ (gB ⟨op.kind,op.a,op.b⟩ y { o with bc:=A+o.bc } (A+C.made) C.gone) (log.drop (A+C.made))from by
  rw[HQC.out,DB.out];show eD _ _ _ _ _ ((log.drop A).drop C.made)=_;rw[List.drop_drop];rfl)
 obtain⟨isb,hisb⟩:=nM (o.is);have HIS:=aj hisb;rw[hisb]at B;clear hisb;have c1:=B.cell 1;have l9:=B.lt;simp at c1;cases isb with
 | false=>
  have HF:=aj (show q= .fin ⟨o.val,X,f,C.gone⟩from by
   rw[mB.out];unfold gB;rw[if_pos HIS.out];show eD _ _ _ _ (MX.out ⟨o.val,o.is,((A+o.bc:Nat):Int),C.gone⟩) _=_;rw[HIS.out,HPP.out];simp[eD])
  clear mB;go_wp2_with (first
   | (refine aM Z 70 (.tmp 7) Z qg Z 70 (bg o.val X 0 f (.slice m gn l)) (0,0) _ B aJ Z zK ?_)
   | (refine aI Z 70 (.tmp 4) (.tmp 66) Z Z qb (bg o.val X 0 f (.slice m gn l)) Z Z 70 aW d zK Z (by simp[aB]) ?_))
  have W:=h.row d (by have:=P.out;have:=h.bp;omega) zD (bg o.val X 0 f (.slice m gn l));replace d:=d.bG (bg o.val X 0 f (.slice m gn l));replace a:=a.row (b:=qb) (.inl (by have:=P.out;omega)) (bg o.val X 0 f (.slice m gn l));exact aS (v:=.agg (bg o.val X 0 f (.slice m gn l))) (bQ (p:=4) (ty:=70) Z _ _ qb 70 _ (0,0) _ Z d aJ Z zK) Z (.inr ⟨_,Z,⟨_,_,_,_,_,_,_,_,HF.out,HG9.out,Z,W⟩,a⟩)
 | true=>
  have AT:=a.aw qd.out.2.2.2.1 qa.out.2.2.2.1;have yE:=AT.cell 0;have Io:=AT.lt;simp at yE;rcases L.out.2.2.1 with hk1|yu|KT
  ·have HF:=aj (show q= .fin ⟨o.val,O,f,C.gone⟩from by
    rw[mB.out];unfold gB;rw[if_neg (by show ¬(o.is=X);rw[HIS.out];decide),if_neg (by show ¬(op.kind=2);omega),if_neg (by show ¬(op.kind=3);omega)];show eD _ _ _ _ (MX.out ⟨o.val,o.is,((A+o.bc:Nat):Int),C.gone⟩) _=_;rw[HIS.out,HPP.out];simp[eD])
   have Jz:bhV op.kind e1 e3= .func (.func 116) #[] #[]:=by unfold bhV;rw[if_pos hk1]
   rw[Jz]at yE;clear mB hk1 Jz AT;go_upto_region 9 with fail;go_wp2_with fail;refine(Ds y _).mono ?_;rintro e wA ⟨rfl,rfl⟩;clear yE Io c1 l9;go_wp2_with (first
    | (refine aM Z 70 (.tmp 7) Z qg Z 70 (bg o.val O 0 f (.slice m gn l)) (0,0) _ B aJ Z zK ?_)
    | (refine aI Z 70 (.tmp 4) (.tmp 66) Z Z qb (bg o.val O 0 f (.slice m gn l)) Z Z 70 aW d zK Z (by simp[aB]) ?_))
   have W:=h.row d (by have:=P.out;have:=h.bp;omega) zD (bg o.val O 0 f (.slice m gn l));replace d:=d.bG (bg o.val O 0 f (.slice m gn l));replace a:=a.row (b:=qb) (.inl (by have:=P.out;omega)) (bg o.val O 0 f (.slice m gn l));exact aS (v:=.agg (bg o.val O 0 f (.slice m gn l))) (bQ (p:=4) (ty:=70) Z _ _ qb 70 _ (0,0) _ Z d aJ Z zK) Z (.inr ⟨_,Z,⟨_,_,_,_,_,_,_,_,HF.out,HG9.out,Z,W⟩,a⟩)
  ·have Jz:bhV op.kind e1 e3= .func (.func 117) #[] #[ptr e1,ptr e3]:=by unfold bhV;rw[if_neg M,if_pos yu]
   have iB:=aj (show q=nW (2*k.l.c.aO) k.l.c.buckets k.me ⟨op.kind,op.a,op.b⟩ (.m5 y { o with bc:=A+o.bc }) (A+C.made) C.gone (log.drop (A+C.made))from by
    rw[mB.out];unfold gB;rw[if_neg (by show ¬(o.is=X);rw[HIS.out];decide),if_pos (show op.kind=2 from yu)];rfl)
   rw[Jz]at yE;have ke1:=a.aw qd.out.2.2.2.2.1 qa.out.2.2.2.2.1;have ke3:=a.aw qd.out.2.2.2.2.2 qa.out.2.2.2.2.2;clear mB yu Jz AT;go_upto_region 9 with fail;go_wp2_with fail;refine(Dr e1 e3 y _ _ HSZ.out.1 h ke1 ke3 iB.out).mono ?_;rintro e wA (⟨x,qf,rfl,Q⟩|⟨v,rfl,⟨m9,rfl,DF,LH⟩,z⟩)
   ·exact⟨Z,.inl ⟨x,qf,Z,a.trans Q⟩⟩
   replace a:=a.trans z;replace d:=z.aw d (by have:=P.out;omega);replace B:=z.aw B (by have:=HB7.out;omega);clear h ke1 ke3 z iB yE Io c1 l9;have h:=DF;clear DF;have HF:=aj (show q= .fin ⟨o.val,O,f,C.gone⟩from by rw[LH];show An.fin (⟨o.val,o.is,((A+o.bc:Nat):Int),C.gone⟩:Go.Proofs.YtikdaeddbkopeaaGreatR.Out)=_;rw[HIS.out,HPP.out]);clear LH;go_wp2_with (first
    | (refine aM Z 70 (.tmp 7) Z qg Z 70 (bg o.val O 0 f (.slice m gn l)) (0,0) _ B aJ Z zK ?_)
    | (refine aI Z 70 (.tmp 4) (.tmp 66) Z Z qb (bg o.val O 0 f (.slice m gn l)) Z Z 70 aW d zK Z (by simp[aB]) ?_))
   have W:=h.row d (by have:=P.out;have:=h.bp;omega) zD (bg o.val O 0 f (.slice m gn l));replace d:=d.bG (bg o.val O 0 f (.slice m gn l));replace a:=a.row (b:=qb) (.inl (by have:=P.out;omega)) (bg o.val O 0 f (.slice m gn l));exact aS (v:=.agg (bg o.val O 0 f (.slice m gn l))) (bQ (p:=4) (ty:=70) Z _ _ qb 70 _ (0,0) _ Z d aJ Z zK) Z (.inr ⟨_,Z,⟨_,_,_,_,_,_,_,_,HF.out,HG9.out,Z,W⟩,a⟩)
  have Jz:bhV op.kind e1 e3= .func (.func 118) #[] #[ptr e1,ptr e3]:=by unfold bhV;rw[if_neg M,if_neg M]
  have iB:=aj (show q=nW (2*k.l.c.aO) k.l.c.buckets k.me ⟨op.kind,op.a,op.b⟩ (.m7 { o with bc:=A+o.bc }) (A+C.made) C.gone (log.drop (A+C.made))from by
   rw[mB.out];unfold gB;rw[if_neg (by show ¬(o.is=X);rw[HIS.out];decide),if_neg (by show ¬(op.kind=2);omega),if_pos (show op.kind=3 from KT)];rfl)
  rw[Jz]at yE;have ke1:=a.aw qd.out.2.2.2.2.1 qa.out.2.2.2.2.1;have ke3:=a.aw qd.out.2.2.2.2.2 qa.out.2.2.2.2.2;clear mB KT Jz AT;go_upto_region 9 with fail;go_wp2_with fail;refine(Dq e1 e3 y _ _ _ h ke1 ke3 iB.out).mono ?_;rintro e wA (⟨x,qf,rfl,Q⟩|⟨v,rfl,⟨m9,rfl,DF,LH⟩,z⟩)
  ·exact⟨Z,.inl ⟨x,qf,Z,a.trans Q⟩⟩
  replace a:=a.trans z;replace d:=z.aw d (by have:=P.out;omega);replace B:=z.aw B (by have:=HB7.out;omega);clear h ke1 ke3 z iB yE Io c1 l9;have h:=DF;clear DF;have HF:=aj (show q= .fin ⟨o.val,O,f,C.gone⟩from by rw[LH];show An.fin (⟨o.val,o.is,((A+o.bc:Nat):Int),C.gone⟩:Go.Proofs.YtikdaeddbkopeaaGreatR.Out)=_;rw[HIS.out,HPP.out]);clear LH;go_wp2_with (first
   | (refine aM Z 70 (.tmp 7) Z qg Z 70 (bg o.val O 0 f (.slice m gn l)) (0,0) _ B aJ Z zK ?_)
   | (refine aI Z 70 (.tmp 4) (.tmp 66) Z Z qb (bg o.val O 0 f (.slice m gn l)) Z Z 70 aW d zK Z (by simp[aB]) ?_))
  have W:=h.row d (by have:=P.out;have:=h.bp;omega) zD (bg o.val O 0 f (.slice m gn l));replace d:=d.bG (bg o.val O 0 f (.slice m gn l));replace a:=a.row (b:=qb) (.inl (by have:=P.out;omega)) (bg o.val O 0 f (.slice m gn l));exact aS (v:=.agg (bg o.val O 0 f (.slice m gn l))) (bQ (p:=4) (ty:=70) Z _ _ qb 70 _ (0,0) _ Z d aJ Z zK) Z (.inr ⟨_,Z,⟨_,_,_,_,_,_,_,_,HF.out,HG9.out,Z,W⟩,a⟩)
end
end split
namespace split
open Go.RowKit
attribute [local go_sem ↓] aQ aR
theorem pB(l:Ly)(x:LAc)(ga f go gb:Nat)(w:W)(i:Bk w ga 67 cG):
  CallsD ao 119 #[ptr ga,ptr f,ptr go,ptr gb] (.panicking [{ v:=uO l x,recovered:=X }]) w λe s w'=>
   e=ai (.tuple #[])/\s= .panicking [{ v:=uO l x,recovered:=O }]/\Bk w' ga 67 (bj x.k (adr l x.c) x.o x.v)/\Stp ga w w':=by
 obtain⟨k,c,o,v⟩:=x;generalize m:adr l c=a;have e0:uO l ⟨k,c,o,v⟩= .iface 170 (.agg (bj k a o v)):=by unfold uO;rw[m]
 rw[e0];refine callsD_of_wpS func119 Z λC A u=>?_;apply wpS_seq;apply wpS_region;simp[wpOpsS,go_sem,recoverD,u,ntmps119,Exit.thenS];refine wpS_of_wp ?_;have g:∀w:W,(binOp .eql 20 (.iface 170 (.agg (bj k a o v))) .nilIface).run ao w= .ok (ah X) w:=λ_=>by kernel_rfl
 have D:∀w:W,(eqGuard .eql 20 (.tmp 7) (.const .nilIface) (.iface 170 (.agg (bj k a o v))) .nilIface).run ao w= .ok () w:=λ_=>by kernel_rfl
 have t:(#[ptr ga,ptr f,ptr go,ptr gb]++(Array.replicate 19 undef).setIfInBounds 3 (.iface 170 (.agg (bj k a o v))))=#[ptr ga,ptr f,ptr go,ptr gb,undef,undef,undef,.iface 170 (.agg (bj k a o v)),undef,undef,undef,undef,undef,undef,undef,undef,undef,undef,undef,undef,undef,undef,undef]:=zK;rw[t];have z:∀w:W,(Instr.typeAssert (.iface 170 (.agg (bj k a o v))) 20 170 O).run ao w= .ok (.tuple #[.agg (bj k a o v),ah O]) w:=λ_=>by kernel_rfl
 have B:=i.lt;have j:=Bk.made w 170 (bj k a o v);have h:=i.alloc (ag (bj k a o v) 170);have d:Stp ga w (w.alloc (ag (bj k a o v) 170)):=(Stp.refl ga w).alloc _;go_wp2_with (first
  | (refine eg Z 170 (.tmp 5) (.tmp 20) Z Z w.heap.size _ _ (bj k a o v) Z Z Z Z zK Z (by simp[aB]) ?_)
  | (refine aM Z 67 (.tmp 21) Z w.heap.size Z 170 (bj k a o v) (0,0) _ j cF Z zK ?_)
  | (refine aI Z 67 (.tmp 0) (.tmp 22) Z Z ga (bj k a o v) Z Z 67 cG h zK Z (by simp[aB]) ?_))
 have n:Bk ((w.alloc (ag (bj k a o v) 170)).setRow ga (bj k a o v)) ga 67 (bj k a o v):=setRow_heap _ _ cG (bj k a o v) 67 (0,0) h;have q:Stp ga w ((w.alloc (ag (bj k a o v) 170)).setRow ga (bj k a o v)):=
  ⟨d.os,d.tape,d.output,by simp[W.setRow],λb y g=>(setRow_other _ ga b _ g).trans (d.block b y g)⟩
 exact⟨Z,_,Z,_,gT Z _ _ _,Z,Z,n,q⟩
theorem rD(ga a go gb:Nat)(w:W):
  CallsD ao 119 #[ptr ga,ptr a,ptr go,ptr gb] .returning w λe c g=>e=ai (.tuple #[])/\c= .returning/\g=w:=by
 refine callsD_of_wpS func119 Z λd i b=>?_;apply wpS_seq;apply wpS_region;simp[wpOpsS,go_sem,recoverD,b,ntmps119,Exit.thenS];refine wpS_of_wp ?_;have h:∀w:W,(binOp .eql 20 .nilIface .nilIface).run ao w= .ok (ah O) w:=λ_=>by kernel_rfl
 have j:∀w:W,(eqGuard .eql 20 (.tmp 7) (.const .nilIface) .nilIface .nilIface).run ao w= .ok () w:=λ_=>by kernel_rfl
 have f:(#[ptr ga,ptr a,ptr go,ptr gb]++(Array.replicate 19 undef).setIfInBounds 3 .nilIface)=#[ptr ga,ptr a,ptr go,ptr gb,undef,undef,undef,.nilIface,undef,undef,undef,undef,undef,undef,undef,undef,undef,undef,undef,undef,undef,undef,undef]:=zK;rw[f];go_wp2;cases d;simp only at b;subst b;exact⟨Z,_,Z,_,gT Z _ _ _,Z,Z,Z⟩
def IY{β:Type}(l:Ly)(q:An β)(T:Int->Bool->Int->cq->Prop)(gp i:Nat)(w:W)(e:jK)(f:W):Prop:=
 ((∃a,q= .ask a/\e=ai (.tuple #[.agg (bj a.k (adr l a.c) a.o a.v),.agg aW,ah X]))\/
  (∃d c b h g,T d c b h/\e=ai (.tuple #[.agg cG,.agg (bg d c 0 b g),ah O])/\bI f g h))/\cH gp i w f
theorem rW{β:Type}{k:Sk}{g:cq}{m:Nat}{log:Log}(q:An β)(T:Int->Bool->Int->cq->Prop)(qe:Nat)(X:Array I)(L:Nat)(w:W)(hbm:L<w.heap.size)(h:eU w k g m log)(hcf:∀w:W,(callFunc qe X).run ao w= .ok (.enter qe X) w)(P:∀x s l g',T x s l g'->g'.length<=1000)(hc:∀w2,Below w.heap.size w w2->U ao qe X w2 (kq k q w2 λv w3=>∃x s l g' m' A C D,T x s l g'/\v= .agg (bg x s 0 l (.slice A C D))/\eU w3 k g' m' log)):
  U ao 86 #[ptr k.gp,.func (.func qe) #[] X] w (IY k.l q T k.gp L w):=by
 have qa:=(((Bk.made w 139 #[ptr k.gp]).alloc (ag cG 67)).alloc (ag aW 70)).alloc (ag #[ah false] 4);have y:=((Bk.new (w.alloc (ag #[ptr k.gp] 139)) (g:=w.heap.size+1) zS 67 cG).alloc (ag aW 70)).alloc (ag #[ah false] 4);have j:=(Bk.new ((w.alloc (ag #[ptr k.gp] 139)).alloc (ag cG 67)) (g:=w.heap.size+1+1) zS 70 aW).alloc (ag #[ah false] 4);have u:=Bk.new (((w.alloc (ag #[ptr k.gp] 139)).alloc (ag cG 67)).alloc (ag aW 70)) (g:=w.heap.size+1+1+1) zS 4 #[ah false];have qd:=aA (aA (aA (bA w (ag #[ptr k.gp] 139)) (ag cG 67)) (ag aW 70)) (ag #[ah false] 4);have zp:=h.lt;have HH:=aj h;have HT:=aj P;have HC:=aj hc;have hmf:∀(fn:Fn) (first cap:Array I) (w:W),(uT fn first cap).run ao w= .ok (.func fn first cap) w:=λ_ _ _ _=>Z
 go_enter_defers func86,ntmps86
 go_upto_region 2 with fail;generalize ((((w.alloc (ag #[ptr k.gp] 139)).alloc (ag cG 67)).alloc (ag aW 70)).alloc (ag #[ah false] 4))=Q at *;obtain⟨qb,h0⟩:=nM (w.heap.size);have H:=aj h0;rw[h0]at qa y j u qd zp hbm ⊢;obtain⟨b1,qh⟩:=nM (qb+1);obtain⟨b2,h2⟩:=nM (b1+1);obtain⟨b3,h3⟩:=nM (b2+1);rw[qh]at y;rw[qh,h2]at j;rw[qh,h2,h3]at u ⊢;have z1:qb<b1:=M;have z2:b1<b2:=M;have z3:b2<b3:=M;have y0:=qa.lt;have y1:=y.lt;have y2:=j.lt;have y3:=u.lt;go_wp2_with fail;refine(HC.out Q (by rw[H.out];exact qd)).mono ?_;rintro e w5 (⟨a,hq,rfl,B⟩|⟨v,rfl,⟨x,s,l,g',m',A,C,D,P,rfl,hp⟩,B⟩);all_goals replace B:cH k.gp L Q w5:=B.two
 ·have HQ:=aj hq;replace y:=B.aw y M M;replace j:=B.aw j M M;replace u:=B.aw u M M;have z:=(cH.aT k.gp L (by rw[H.out];exact qd:Below w.heap.size w Q)).trans B;refine leaves_cons (f:=119) (args:=#[ptr b1,ptr qb,ptr b2,ptr b3]) zS (by simp[go_sem]) ?_;refine(pB k.l a b1 qb b2 b3 _ y).mono ?_;rintro e u' w6 ⟨rfl,rfl,ka,J⟩;replace j:=J.aw j M;replace u:=J.aw u M;refine⟨_,mL (p:=4) (q:=5) (t:=6) (t1:=67) (t2:=70) (t3:=4) rfl _ _ b1 b2 b3 (bj a.k (adr k.l a.c) a.o a.v) aW (0,0) (0,0) _ _ _ rfl rfl rfl ka j cF rfl zK aJ rfl zK (pW _ b3 false u),?_⟩;refine⟨.inl ⟨a,HQ.out,rfl⟩,?_⟩;exact⟨J.os.trans z.os,J.tape.trans z.tape,J.output.trans z.output,aF z.size J.size,λb E qg va=>(J.block b (aZ E z.size) (by rw[H.out]at E;omega)).trans (z.block b E qg va)⟩
 have HP:=aj (al P hp);have hg:=HT.out _ _ _ _ P;obtain⟨gv,N,kg⟩:=hp.kp;replace qa:=B.aw qa M M;replace y:=B.aw y M M;replace j:=B.aw j M M;replace u:=B.aw u M M;have z:=(cH.aT k.gp L (by rw[H.out];exact qd:Below w.heap.size w Q)).trans B;obtain⟨v,hv⟩:∃v,v=I.agg (bg x s 0 l (.slice A C D)):=⟨_,Z⟩;go_upto_region 3 with (refine aI Z 70 (.tmp 5) (.tmp 9) Z Z b2 (bg x s 0 l (.slice A C D)) Z Z 70 aW j zK Z (by simp[aB]) ?_);have kg2:=kg.row j zD (bg x s 0 l (.slice A C D));replace N:=Bk.a6 N (b:=b2) M (bg x s 0 l (.slice A C D));replace qa:=qa.a6 (b:=b2) M (bg x s 0 l (.slice A C D));replace y:=y.a6 (b:=b2) M (bg x s 0 l (.slice A C D));replace u:=u.a6 (b:=b2) M (bg x s 0 l (.slice A C D));replace j:=j.bG (bg x s 0 l (.slice A C D));replace z:=z.row (b:=b2) (.inl (by rw[H.out];omega)) (bg x s 0 l (.slice A C D));generalize w5.setRow b2 (bg x s 0 l (.slice A C D))=w6 at *;have c0:=qa.cell 0;have c26:=Bk.cell N 26;simp at c0 c26;have lp6:=Bk.lt N;go_wp2_with fail;refine(GnV.clone kg2 hg).mono ?_;rintro e w7 ⟨G,n,c,rfl,qg,hNil,lH,E⟩;subst qg;have HG:=aj (show bI w7 (.slice G g'.length c) g' from⟨G,c,rfl,hNil,rh lH rfl⟩);replace N:=Bk.aw N E;replace qa:=Bk.aw qa E;replace y:=Bk.aw y E;replace j:=Bk.aw j E;replace u:=Bk.aw u E;replace z:=z.trans (.aT k.gp L E);have q4:=j.cell 4;have f4:=j.free 4;have l4:=j.lt;simp at q4;go_upto_region 4 with fail;have F:=HG.out.cell j zD 4 (.slice G g'.length c);replace j:Bk (w7.setCell ⟨b2,4,Y⟩ (.slice G g'.length c)) b2 70 (bg x s 0 l (.slice G g'.length c)):=j.stored 4 (.slice G g'.length c);replace y:=y.other (p:=⟨b2,4,Y⟩) (by dsimp only;omega) (.slice G g'.length c);replace u:=u.other (p:=⟨b2,4,Y⟩) (by dsimp only;omega) (.slice G g'.length c);replace z:=z.cell (p:=⟨b2,4,Y⟩) (.inl (by rw[H.out];dsimp only;omega)) (.slice G g'.length c);obtain⟨gv2,hgv2⟩:∃v,v=I.slice G g'.length c:=⟨_,rfl⟩;generalize w7.setCell ⟨b2,4,Y⟩ (.slice G g'.length c)=LF at *;refine wp_region_held_drew (S:=λqf=>Bk qf b2 70 (bg x s 0 l (.slice G g'.length c))) zK j.drew (λhHeld=>?_);replace y:=y.drew;replace j:=j.drew;replace u:=u.drew;replace z:=z.drew;replace F:bI LF.drew (.slice G g'.length c) g':=F;generalize LF.drew=w17 at *;have oV:∀(d:Nat),d≠4/\d≠5/\d≠6->∀(v:I) {qi:jK->W->Prop} {K:Act->W->Prop} {c:List PanicEntry} {a:Act} {w:W},Exit.then K (bodyPostD ao Tryz.f86 qi) (Exit.panic c) (a.put (some d) v) w->Exit.then K (bodyPostD ao Tryz.f86 qi) (Exit.panic c) a w:=λd hd v _ _ _ _ _ h=>mi (p:=4) (q:=5) (t:=6) (t1:=67) (t2:=70) (t3:=4) results86 hd h;refine wpAnyH_take (i:=0) (oi:=_) (v:=.agg cG) rfl zK zK zK (λ_ _ _ h=>oV 16 M _ h) (jI ⟨by rfl,?_⟩) j ?_
 ·intro qf hSw;(try simp only[au,an]);go_simp
 (try simp only[au,an,Act.put,ak,ay,az]);refine wpAnyH_take (i:=1) (oi:=_) (v:=.agg (bg x s 0 l (.slice G g'.length c))) Z zK zK zK (λ_ _ _ h=>oV 17 M _ h) (jI ⟨by rfl,?_⟩) j ?_
 ·intro qf hSw;(try simp only[au,ar,an]);simp only[nO,Instr.loadAt,uS,cD,dF];rw[show (Act.eval _ (Operand.tmp 5))=I.pointer (some ⟨b2,0,Y⟩)from Z];simp only[dF,bC,a7 qf b2 70 70 (bg x s 0 l (.slice G g'.length c)) (0,0) _ hSw aJ Z zK]
 (try simp only[au,ar,an,Act.put,ak,ay,az]);refine wpAnyH_ready (rs:=[2]) zK zS ?_;refine AllReadyH.cons (o:=_) Z (λK qc=>?_) AllReadyH.nil;rw[if_pos (by rfl)];refine eC 67 (.tmp 4) (.tmp 16) Z b1 cG Z Z 67 cG y zK Z (by simp[aB]) ?_;replace F:=F.row y zD cG;replace j:=j.a6 (b:=b1) M cG;replace u:=u.a6 (b:=b1) M cG;replace y:=y.bG cG;replace z:=z.row (b:=b1) (.inl (by rw[H.out];omega)) cG;refine qc.out _ _ j (λhS'=>?_);(try simp only[au,ar,an,Act.put]);generalize w17.setRow b1 cG=w18 at *;refine wpAnyH_ready (rs:=[3]) zK zS ?_;refine AllReadyH.cons (o:=_) Z (λK qc=>?_) AllReadyH.nil;rw[if_pos (by rfl)];refine eC 70 (.tmp 5) (.tmp 17) Z b2 (bg x s 0 l (.slice G g'.length c)) Z Z 70 (bg x s 0 l (.slice G g'.length c)) j zK Z (by simp[aB]) ?_;replace F:=F.row j zD (bg x s 0 l (.slice G g'.length c));replace y:=y.a6 (b:=b2) M (bg x s 0 l (.slice G g'.length c));replace u:=u.a6 (b:=b2) M (bg x s 0 l (.slice G g'.length c));replace j:=j.bG (bg x s 0 l (.slice G g'.length c));replace z:=z.row (b:=b2) (.inl (by rw[H.out];omega)) (bg x s 0 l (.slice G g'.length c));refine qc.out _ _ j (λhS'=>?_);(try simp only[au,ar,an,Act.put]);generalize w18.setRow b2 (bg x s 0 l (.slice G g'.length c))=w19 at *;have q6:=u.cell 0;have f6:=u.free 0;have l6:=u.lt;simp at q6;refine wpAnyH_ready (rs:=[4]) zK zS ?_;refine AllReadyH.cons (o:=_) Z (λK qc=>?_) AllReadyH.nil;(try simp only[au,ar,an]);go_simp;replace F:=F.cell u zD 0 (ah O);replace u:Bk (w19.setCell ⟨b3,0,Y⟩ (ah O)) b3 4 #[ah O]:=u.stored 0 (ah O);replace y:=y.other (p:=⟨b3,0,Y⟩) (by dsimp only;omega) (ah O);replace j:=j.other (p:=⟨b3,0,Y⟩) (by dsimp only;omega) (ah O);replace z:=z.cell (p:=⟨b3,0,Y⟩) (.inl (by rw[H.out];dsimp only;omega)) (ah O);refine qc.out _ _ j (λhS'=>?_);(try simp only[au,ar,an,Act.put,ak,ay,az]);generalize w19.setCell ⟨b3,0,Y⟩ (ah O)=w20 at *;refine wpAnyH_done zK ?_ _;go_wp2;refine leaves_cons (f:=119) (args:=#[ptr b1,ptr qb,ptr b2,ptr b3]) zS (by simp[go_sem]) ?_;refine(rD b1 qb b2 b3 _).mono ?_;rintro e u' w21 ⟨rfl,rfl,rfl⟩;refine⟨_,mL (p:=4) (q:=5) (t:=6) (t1:=67) (t2:=70) (t3:=4) rfl _ _ b1 b2 b3 cG (bg x s 0 l (.slice G g'.length c)) (0,0) (0,0) _ _ _ rfl rfl rfl y j cF rfl zK aJ rfl zK (pW _ b3 O u),?_⟩;exact⟨.inr ⟨x,s,l,g',_,HP.out.1,rfl,F⟩,z⟩
theorem re(a:W)(es:Array MapEntry)(b:Nat)(k:Int)(v:I)(n:Instr.findNow (.int .i64) (V H k) es.toList 0=J Y):
  (Instr.mapUpdate 144 (.map (J a.heap.size)) (V H k) v).run ao (a.alloc (.map es b))= .ok () (a.alloc (.map (es.push { key:=V H k,val:=v,born:=b }) (b+1))):=by
 have f:(getObj a.heap.size).run ao (a.alloc (.map es b))= .ok (.map es b) (a.alloc (.map es b)):=by
  have h:=heap_alloc_new a (.map es b);simp only[getObj,Sem.run];rw[h]
 have o:∀c,(setObj a.heap.size c).run ao (a.alloc (.map es b))= .ok () (a.alloc c):=λc=>by
  have h:=heap_alloc_new a (.map es b);simp only[setObj,Sem.run];rw[h];have e:(a.alloc (.map es b)).heap.setIfInBounds a.heap.size c=(a.alloc c).heap:=by
   apply Array.ext_getElem?;intro i;by_cases hi:a.heap.size=i
   ·subst hi;rw[heap_alloc_new,bK zS]
   rw[Array.getElem?_setIfInBounds_ne hi];by_cases d:i<a.heap.size
   ·rw[heap_alloc_old (h:=d),heap_alloc_old (h:=d)]
   rw[Array.getElem?_eq_none zP,Array.getElem?_eq_none zP]
  show Result.ok () (⟨(a.alloc (.map es b)).heap.setIfInBounds a.heap.size c,_,_,_,_⟩:W)=_;rw[e];rfl
 have j:(Instr.checkKey X 10000 3 (V H k)).run ao (a.alloc (.map es b))= .ok () (a.alloc (.map es b)):=by
  show (Instr.checkKey X (9999+1) 3 (V H k)).run ao _=_;unfold Instr.checkKey;simp only[cD,run_underlying underlying3,bC,dF]
 have l:(Instr.findKey 3 (V H k) es.toList).run ao (a.alloc (.map es b))= .ok Y (a.alloc (.map es b)):=by
  unfold Instr.findKey;simp only[cD,run_underlying underlying3,bC,n,dF]
 unfold Instr.mapUpdate;simp only[cD,run_underlying underlying144,bC,f,j,l,o]
theorem Mr(w:W)(r:Nat)(es:Array MapEntry)(a:Nat)(k:Int)(res:Option (Nat × I))(f:w.heap[r]? =J (.map es a))(i:Instr.findNow (.int .i64) (V H k) es.toList 0=J res):
  (Instr.lookup 144 (.map (J r)) (V H k) O).run ao w= .ok (.tuple #[(res.map (·.2)).getD .nilFunc,.bool res.isSome]) w:=by
 have c:(getObj r).run ao w= .ok (.map es a) w:=by
  simp only[getObj,Sem.run];rw[f]
 have d:∀b,(Instr.checkKey b 10000 3 (V H k)).run ao w= .ok () w:=λb=>by
  show (Instr.checkKey b (9999+1) 3 (V H k)).run ao _=_;unfold Instr.checkKey;simp only[cD,run_underlying underlying3,bC,dF]
 have h:(Instr.findKey 3 (V H k) es.toList).run ao w= .ok res w:=by
  unfold Instr.findKey;simp only[cD,run_underlying underlying3,bC,i,dF]
 have e:(zeroValue 142).run ao w= .ok .nilFunc w:=zK;unfold Instr.lookup;simp only[cD,run_underlying underlying144,bC,c,d,dF,h];cases res with
 | none=>simp only[cD,e,bC,dF];rfl
 | some x=>simp only[cD,bC,dF];rfl
abbrev ent(k:Int)(v:I)(n:Nat):MapEntry:={ key:=V H k,val:=v,born:=n }
abbrev qZ(a b:Nat):Array MapEntry:=#[ent 1 (.func (.func 116) #[] #[]) 0,ent 2 (.func (.func 117) #[] #[ptr a,ptr b]) 1,ent 3 (.func (.func 118) #[] #[ptr a,ptr b]) 2]
def bdT:Nat->Nat|8=>12|_=>3
def bdP:Nat->List Nat|_=>[]
def bdR(k:Sk)(B:Nat)(i:Nat)(_:Nat->Option I)(v:I)(w:W):Prop:=match i with
 | 8=>v=V H (ft k.l 0 1)
 | 9=>∃a,v=ptr a/\B<=a/\Bk w a 3 #[V H 0]
 | _=>True
theorem OL{k:Sk}{B:Nat}(i:Nat)(val b:Nat->Option I)(v:I)(a w2:W)(_:∀j u,val j=J u->b j=J u)(d:D a.heap.size a w2)(h:bdR k B i val v a):bdR k B i b v w2:=by
 unfold bdR at h ⊢;split
 ·exact h
 ·obtain⟨f,e,l,c⟩:=h;exact⟨f,e,l,c.aw d⟩
 trivial
section
variable {w:W} {k:Sk} {g:cq} {m:Nat} {log:Log} {q:An Out}
theorem IP(h:eU w k g m log):Calls ao 84 #[ptr k.gp] w λe w'=>∃r e1 e3,e=ai (.map (J r))/\w.heap.size<=e1/\w.heap.size<=e3/\Bk w' e1 139 #[ptr k.gp]/\Bk w' e3 3 #[V H (ft k.l 0 1)]/\w'.heap[r]? =J (.map (qZ e1 e3) 3)/\D w.heap.size w w':=by
 have hmf:∀(fn:Fn) (first cap:Array I) (w:W),(uT fn first cap).run ao w= .ok (.func fn first cap) w:=λ_ _ _ _=>Z;have uC:∀w,(Instr.makeMap 144 Y).run ao w= .ok (.map (J w.heap.size)) (w.alloc (.map #[] 0)):=λw=>Z;have k1:=Bk.made w 139 #[ptr k.gp];have sy:=bA w (ag #[ptr k.gp] 139);have fH:=h.lt;replace h:=h.aw sy;go_enter func84,ntmps84;go_upto_region 1 with fail;generalize w.alloc (ag #[ptr k.gp] 139)=w0 at *;obtain⟨e1,N3⟩:=nM (w.heap.size);have HW:=N N3;rw[N3]at k1 fH ⊢;clear N3;refine aH (S:=λw'=>IV k w'/\Bk w' e1 139 #[ptr k.gp]) (E:=λ_=>X) zK ?_;have CV:=bD w0;replace h:=h.aw CV;replace k1:=k1.drew;replace sy:=sy.drew;clear CV;generalize w0.drew=w1 at *;refine wTq 7 [(0,4,ptr k.gp),(1,5,ptr k.gp),(2,6,ptr k.gp),(4,8,ptr k.gp),(5,9,ptr k.gp),(6,10,ae (J ⟨k.gp,27,Y⟩)),(7,11,V H 0)] ?_ ⟨h.hd,k1⟩ ?_
 ·intro w' hS;have c27:=hS.1.2;have c1:=hS.2.cell 0;simp at c27 c1;exact zT
 refine wTq 1 [(3,7,lyV k.l)] ?_ ⟨h.hd,k1⟩ ?_
 ·intro w' hS;have kE:=hS.1.lay;exact zL
 refine eh (U:=[8,9]) (tmp:=bdT) (pre:=bdP) (R:=bdR k w1.heap.size) zK (λ_ _=>Z) (λw2 hb=>⟨(h.aw hb).hd,k1.aw hb⟩) OL (λi hi=>?_) 1 (λval w2 eI kW=>?_)
 ·simp only[aL,be,or_false]at hi;rcases hi with rfl|rfl
  ·refine⟨_,Z,λval w3 K A4 fA hK=>?_⟩;simp only[bdP,ba]at hK ⊢;go_simp;refine(pU k.l 0 1 w3 h.f).mono ?_;rintro e w4 ⟨rfl,tT⟩;exact hK _ _ rfl tT
  refine⟨_,Z,λval w3 K A4 fA hK=>?_⟩;simp only[bdP,ba]at hK ⊢;go_simp;exact hK _ _ ⟨_,Z,A4.size,Bk.made _ _ _⟩ (aA bS _)
 obtain⟨v8,e8,rfl⟩:=eI 8 zS;obtain⟨v9,e9,g3,rfl,hg3,k3⟩:=eI 9 zS;simp only[bdT,ba,dj,e8,e9,cZ,if_true];clear eI e8 e9;(try simp only[Act.put,ak,ay,az]);have hw1:w.heap.size<=w1.heap.size:=sy.size;have h13:e1<w1.heap.size:=k1.lt;replace h:=h.aw kW;replace k1:=k1.aw kW;replace sy:=aE sy kW;clear kW;have c3:=k3.cell 0;have f3:=k3.free 0;have l3:=k3.lt;simp at c3;refine wOq 10 (λKK hK=>?_);go_simp;clear c3 f3 l3;replace h:=h.pz k3 (by have:=h.bp;omega) zD 0 (V H (ft k.l 0 1));replace k1:=k1.other (p:=⟨g3,0,Y⟩) (by dsimp only;omega) (V H (ft k.l 0 1));replace sy:=bu sy (p:=⟨g3,0,Y⟩) (by dsimp only;omega) (V H (ft k.l 0 1));replace k3:Bk (w2.setCell ⟨g3,0,Y⟩ (V H (ft k.l 0 1))) g3 3 #[V H (ft k.l 0 1)]:=k3.stored 0 _;generalize w2.setCell ⟨g3,0,Y⟩ (V H (ft k.l 0 1))=w3 at *;refine sO hK (λ_=>⟨h.hd,k1⟩) ?_;clear hK KK;refine aG zK ?_ _;have i1:=re w3 #[] 0 1 (.func (.func 116) #[] #[]) Z;have i2:=re w3 #[ent 1 (.func (.func 116) #[] #[]) 0] 1 2 (.func (.func 117) #[] #[ptr e1,ptr g3]) Z;have i3:=re w3 #[ent 1 (.func (.func 116) #[] #[]) 0,ent 2 (.func (.func 117) #[] #[ptr e1,ptr g3]) 1] 2 3 (.func (.func 118) #[] #[ptr e1,ptr g3]) Z;simp only[List.push_toArray,List.nil_append,List.cons_append]at i1 i2 i3;have hr:(w3.alloc (.map (qZ e1 g3) 3)).heap[w3.heap.size]? =J (.map (qZ e1 g3) 3):=heap_alloc_new w3 _;have HP:=N (al (k1.alloc (.map (qZ e1 g3) 3)) (al (k3.alloc (.map (qZ e1 g3) 3)) (al hr (al (aA sy (.map (qZ e1 g3) 3)) (show w.heap.size<=e1/\w.heap.size<=g3 from⟨by rw[HW.out];exact aq _,M⟩)))));clear k1 k3 hr sy h hw1 h13 hg3 fH;go_wp2;go_ret;obtain⟨p1,p2,p3,p4,p5,p6⟩:=HP.out;exact⟨w3.heap.size,e1,g3,Z,p5,p6,p1,p2,p3,p4⟩
end
variable {B i:Nat} {a b w w2:W} {k:Sk}
def nxT:Nat->Nat|1=>26|4=>29|5=>24|6=>30|7=>31|8=>14|9=>62|10=>15|_=>63
def nxP:Nat->List Nat|4=>[1]|5=>[4]|6=>[5]|7=>[5]|9=>[6,8]|10=>[7]|_=>[]
def Bx(k:Sk)(a b:Nat)(w:W):Prop:=Bk w a 139 #[ptr k.gp]/\Bk w b 3 #[V H (ft k.l 0 1)]
def nxR(k:Sk)(d:Int)(B:Nat)(i:Nat)(val:Nat->Option I)(v:I)(w:W):Prop:=match i with
 | 1=>∃r a b,v= .map (J r)/\Bx k a b w/\w.heap[r]? =J (.map (qZ a b) 3)
 | 4=>∃a b,v= .tuple #[bhV d a b,ah O]/\Bx k a b w
 | 5=>∃a b,v= .tuple #[bhV d a b,ah O]/\Bx k a b w
 | 6=>∃a b,v=bhV d a b/\Bx k a b w
 | 7=>v=ah O
 | 8=>∃c,v=ptr c/\B<=c/\(val 9=Y->Bk w c 142 #[.nilFunc])
 | 9=>∃c a b,val 8=J (ptr c)/\B<=c/\Bk w c 142 #[bhV d a b]/\Bx k a b w
 | 10=>v=ah O
 | _=>True
def nxG(B:Nat)(i:Nat)(a d:W):Prop:=match i with
 | 9=>∃b u c,B<=b/\Bk a b 142 c/\d=a.setCell ⟨b,0,Y⟩ u
 | _=>D a.heap.size a d
theorem nw(h:nxG B i a w2):(i=9/\∃b u c,B<=b/\Bk a b 142 c/\w2=a.setCell ⟨b,0,Y⟩ u)\/D a.heap.size a w2:=by
 unfold nxG at h;split at h
 ·exact .inl ⟨Z,h⟩
 exact .inr h
theorem fZ{P:J4}{c:Array Oper}{rest:List Oper}{o:Oper}{a:Act}{Q:Exit->Act->W->Prop}(j:sZ o (yielded c a.tmps)=O)(ty:bM)(x:vn)(ho:o.op= .load ty x)(g:Nat)(i:a.eval x=ae (J ⟨g,0,Y⟩))(t:bM)(b:Array I)(e:Nat × Nat)(d:TypeDesc)(f:w.heap[g]? =J (ag b t e))(k:P.underlying ty=J d)(hd:(match d with|.struct _|.array _ _=>O|_=>X)=O)(hi:(P.info? ty).map (·.size)=J b.size)(h:wpList P c Q rest (a.put o.dst (.agg b)) w):wpList P c Q (o :: rest) a w:=by
 simp only[wpList,j,if_true];exact .inl (wp_load_row ty x ho g i t b e d f k hd hi h)
theorem bhV_is{a:Int}(h:a=1\/a=2\/a=3)(b c:Nat):bhV a b c= .func (.func 116) #[] #[]\/bhV a b c= .func (.func 117) #[] #[ptr b,ptr c]\/bhV a b c= .func (.func 118) #[] #[ptr b,ptr c]:=by
 rcases h with rfl|rfl|rfl
 ·exact .inl Z
 ·exact .inr (.inl Z)
 exact .inr (.inr Z)
theorem M4(d:D a.heap.size a b)(e:nxG a.heap.size i b w2):D a.heap.size a w2:=by
 rcases nw e with⟨-,f,u,c,g,j,rfl⟩|h
 ·exact bu d (p:=⟨f,0,Y⟩) g u
 exact aE d h
theorem Bx.zF{d g:Nat}(h:Bx k d g b)(j:nxG B i b w2):Bx k d g w2:=by
 rcases nw j with⟨-,a,u,c,l,f,rfl⟩|e
 ·exact⟨h.1.other (p:=⟨a,0,Y⟩) (h.1.typ f zD) u,h.2.other (p:=⟨a,0,Y⟩) (h.2.typ f zD) u⟩
 exact⟨h.1.aw e,h.2.aw e⟩
theorem Ng{r:Nat}{es:Array MapEntry}{n:Nat}(h:w.heap[r]? =J (.map es n))(b:D w.heap.size w a):a.heap[r]? =J (.map es n):=(b.block r (a9.1 h).1).trans h
theorem M5{q:Int}{j:Nat}{val:Nat->Option I}{v u:I}{n:W}(z:i≠j)(x:val j=Y)(h:nxR k q B i val v n)(g:nxG B j n w2):nxR k q B i (upd val j u) v w2:=by
 unfold nxR at h ⊢;split
 ·obtain⟨r,a,f,d,b,l⟩:=h;refine⟨r,a,f,d,b.zF g,?_⟩;rcases nw g with⟨-,Oe,u,c,A,w,rfl⟩|m
  ·have s:r≠Oe:=by
    rintro rfl;have:=l.symm.trans w;cases this
   exact(jL n ⟨Oe,0,Y⟩ u r s).trans l
  exact Ng l m
 ·obtain⟨a,f,d,b⟩:=h;exact⟨a,f,d,b.zF g⟩
 ·obtain⟨a,f,d,b⟩:=h;exact⟨a,f,d,b.zF g⟩
 ·obtain⟨a,f,d,b⟩:=h;exact⟨a,f,d,b.zF g⟩
 ·exact h
 ·obtain⟨Oe,d,b,l⟩:=h;refine⟨Oe,d,b,λe=>?_⟩;obtain⟨a,y⟩:=BR e;rcases nw g with⟨o,-⟩|m
  ·exact absurd o.symm y
  exact(l a).aw m
 ·obtain⟨Oe,a,f,d,b,l,t⟩:=h;refine⟨Oe,a,f,oY x d,b,?_,t.zF g⟩;rcases nw g with⟨o,-⟩|m
  ·exact absurd o.symm z
  exact l.aw m
 ·exact h
 trivial
theorem snext(l:Ly)(me:Nat)(op:Opr)(g:cq)(gv:I)(A:Option Addr)(cap:Nat)(log:Log)(w:W)(f:eu l)(LG:1<=l.c.aO/\l.c.aO<=8)(hbk:1<=l.c.buckets)(sY:∀n,1<=n->n<=40->0<=nodeAt l n 0/\nodeAt l n 0<l.size)(hmp:0<=ft l 0 0)(ho:op.obj=0)(hk:op.kind=1\/op.kind=2\/op.kind=3)(ha:0<=op.a/\op.a<65536)(hg:bI w gv g)(uM:g.length<=1000)(hs:gH w w.heap.size A log)(hl:log.length<=100000)(ID:log.length<=cap)(q:An Out)(hq:q=nW (2*l.c.aO) l.c.buckets me ⟨op.kind,op.a,op.b⟩ .m1 0 g log)(mF:q≠ .stuck):
  Calls ao 71 #[lyV l,aa H me,gv,.agg (di op),.slice A log.length cap] w (hJ l q w):=by
 obtain⟨G,gc,rfl,hN,yc⟩:=hg;have HG:=aj (show bI w (.slice G g.length gc) g from⟨G,gc,Z,hN,yc⟩);have HA:=aj (al f (al LG (al hs (al hl (al ID uM)))));have HQ:=aj (al hq mF);have HK:=aj (al hk (al ha (al hbk (al sY hmp))));obtain⟨k,oP⟩:∃k:Sk,k=⟨l,me,A,cap,w.heap.size,w.heap.size+1+1+1+1⟩:=⟨_,Z⟩;have qa:=aj (show k.l=l/\k.me=me/\k.A=A/\k.cap=cap/\k.B=w.heap.size/\k.gp=w.heap.size+1+1+1+1 from oP ▸ ⟨Z,Z,Z,Z,Z,Z⟩);have hspc:spC k (.slice G g.length gc) 0 log.length=#[aa H l.c.aO,aa H l.c.nodes,aa H l.c.buckets,aa H l.c.slots,aa H l.c.tasks,aa H l.c.cells,aa H l.c.maps,aa H l.c.stacks,aa H l.c.chans,aa H l.done,aa H l.count,aa H l.era,aa H l.free,aa H l.alive,aa H l.owner,aa H l.resv,aa H l.deque,aa H l.ring,aa H l.task,aa H l.cell,aa H l.map,aa H l.stack,aa H l.chan,aa H l.node,aa H l.size,aa H me,.slice G g.length gc,aa H 0,.slice A log.length cap,aa H 0]:=by rw[oP];rfl
 have HSPC:=aj hspc;clear f LG hk ha hbk sY hmp uM hs hl ID hq mF hN yc oP hspc;have l0:=Bk.made w 34 (lyC l);go_enter func71,ntmps71;go_upto_region 1 with fail;have M:=(((Bk.made w 34 (lyC l)).alloc (ag (di op) 54)).alloc (ag cG 67)).alloc (ag aW 70);have c:=((Bk.new (w.alloc (ag (lyC l) 34)) (g:=w.heap.size+1) zS 54 (di op)).alloc (ag cG 67)).alloc (ag aW 70);have C:=(Bk.new ((w.alloc (ag (lyC l) 34)).alloc (ag (di op) 54)) (g:=w.heap.size+1+1) zS 67 cG).alloc (ag aW 70);have y:=Bk.new (((w.alloc (ag (lyC l) 34)).alloc (ag (di op) 54)).alloc (ag cG 67)) (g:=w.heap.size+1+1+1) zS 70 aW;have P:=aA (aA (aA (bA w (ag (lyC l) 34)) (ag (di op) 54)) (ag cG 67)) (ag aW 70);have hsz4:((((w.alloc (ag (lyC l) 34)).alloc (ag (di op) 54)).alloc (ag cG 67)).alloc (ag aW 70)).heap.size=k.gp:=by rw[qa.out.2.2.2.2.2];simp
 clear l0;generalize (((w.alloc (ag (lyC l) 34)).alloc (ag (di op) 54)).alloc (ag cG 67)).alloc (ag aW 70)=w4 at *;obtain⟨b0,h0⟩:=nM (w.heap.size);have HW:=aj h0;rw[h0]at M c C y ⊢;clear h0;obtain⟨b1,h1⟩:=nM (b0+1);obtain⟨b2,F⟩:=nM (b1+1);obtain⟨b3,h3⟩:=nM (b2+1);rw[h1]at c;rw[h1,F]at C;rw[h1,F,h3]at y ⊢;have qd:=aj (show b0<b1/\b1<b2/\b2<b3/\b3<k.gp from⟨zO,zO,zO,by rw[<- hsz4];exact y.lt⟩);clear h1 F h3;have qb:=c.cell 1;simp at qb;rw[ho]at qb;have l1:=c.lt;go_upto_region 2 with (refine aM Z 34 (.tmp 5) Z b0 Z 34 (lyC l) (0,0) _ M aK Z zK ?_);rw[<- HSPC.out];have kp:=(Bk.new w4 hsz4 141 (spC k (.slice G g.length gc) 0 log.length)).alloc (ag #[ptr k.gp] 139);have J:=Bk.new (w4.alloc (ag (spC k (.slice G g.length gc) 0 log.length) 141)) (g:=k.gp+1) (by rw[<- hsz4];simp) 139 #[ptr k.gp];have yA:=aA (bA w4 (ag (spC k (.slice G g.length gc) 0 log.length) 141)) (ag #[ptr k.gp] 139);replace M:=M.aw yA;replace c:=c.aw yA;replace C:=C.aw yA;replace y:=y.aw yA;replace P:=aE P yA;clear yA hsz4 qb l1;generalize (w4.alloc (ag (spC k (.slice G g.length gc) 0 log.length) 141)).alloc (ag #[ptr k.gp] 139)=w6 at *;obtain⟨ky,h13⟩:=nM (k.gp+1);rw[h13]at J ⊢;have HZ2:=aj (show k.gp<ky from by omega);clear h13;have h:eU w6 k g 0 log:=⟨⟨_,kp,(HG.out.gnV (gp:=k.gp) (by rw[qa.out.2.2.2.2.2];omega)).aw P⟩,by rw[qa.out.2.2.2.2.1,qa.out.2.2.1];exact HA.out.2.2.1.below P,by rw[qa.out.2.2.2.2.1,qa.out.2.2.2.2.2];omega,HA.out.2.2.2.1,aN _,by rw[qa.out.1];exact HA.out.1⟩;clear kp;refine aH (S:=λw'=>Bk w' ky 139 #[ptr k.gp]/\Bk w' b1 54 (di op)) (E:=λ_=>X) zK ?_;have CV:=bD w6;replace h:=h.aw CV;replace M:=M.drew;replace c:=c.drew;replace C:=C.drew;replace y:=y.drew;replace J:=J.drew;replace P:=P.drew;clear CV;generalize w6.drew=w7 at *;refine wTq 3 [(0,25,ptr k.gp),(2,27,ae (some ⟨b1,0,none⟩)),(3,28,aa H op.kind)] ?_ ⟨J,c⟩ ?_
 ·intro w' hS;have yd:=hS.1.cell 0;have qb:=hS.2.cell 0;simp at yd qb;exact zT
 refine jR (U:=[1,4,5,6,7,8,9,10]) (tmp:=nxT) (pre:=nxP) (T:=λw'=>Below w7.heap.size w7 w') (N:=λ_ _=>True) (G:=nxG w7.heap.size) (R:=nxR k op.kind w7.heap.size) zK (λ_ _=>Z) (λw2 d=>⟨J.aw d,c.aw d⟩) bS
  (λi _ w1 w2 d hg=>M4 d hg) (λ_ _=>trivial) (λ_ _ _ _ _ _ _ _ _ _=>trivial) (λi _ j _ yw nf v u w1 w2 _ _ hj _ hr hg=>M5 yw hj hr hg) (λi hi o ho' nf w1 K BB d hN fA s=>?_) 0 (λnf w8 eI d=>?_)
 ·simp only[aL,be,or_false]at hi;rcases hi with rfl|rfl|rfl|rfl|rfl|rfl|rfl|rfl
  ·obtain rfl:=aP ho';simp only[nxP,ba]at s ⊢;go_simp;refine(IP (h.aw d)).mono ?_;rintro e w2 ⟨r,O,e3,rfl,-,-,q1,q2,q3,z⟩;exact s _ _ ⟨r,O,e3,rfl,⟨q1,q2⟩,q3⟩ z
  ·obtain rfl:=aP ho';obtain⟨v1,O,r,Y,qe,rfl,V,hr⟩:=fA 1 (by simp[nxP]);simp only[nxP,ba,O,nxT]at s ⊢;have qR:(Instr.lookup 144 (.map (some r)) (aa H op.kind) true).run ao w1= .ok (.tuple #[bhV op.kind Y qe,ah true]) w1:=by
    rcases HK.out.1 with hk|hk|hk<;>rw[hk]<;>exact Mr w1 r _ 3 _ (some (_,_)) hr rfl
   go_simp;exact s _ _ ⟨Y,qe,Z,V⟩ bS
  ·obtain rfl:=aP ho';obtain⟨v1,O,Y,qe,rfl,V⟩:=fA 4 (by simp[nxP]);simp only[nxP,ba,O,nxT]at s ⊢;go_simp;exact s _ _ ⟨Y,qe,Z,V⟩ bS
  ·obtain rfl:=aP ho';obtain⟨v1,O,Y,qe,rfl,V⟩:=fA 5 (by simp[nxP]);simp only[nxP,ba,O,nxT]at s ⊢;go_simp;exact s _ _ ⟨Y,qe,Z,V⟩ bS
  ·obtain rfl:=aP ho';obtain⟨v1,O,Y,qe,rfl,V⟩:=fA 5 (by simp[nxP]);simp only[nxP,ba,O,nxT]at s ⊢;go_simp;exact s _ _ Z bS
  ·obtain rfl:=aP ho';simp only[nxP,ba]at s ⊢;go_simp;exact s _ _ ⟨_,Z,d.size,λ_=>Bk.made _ _ _⟩ (aA bS _)
  ·obtain rfl:=aP ho';obtain⟨v6,e6,Y,qe,rfl,V⟩:=fA 6 (by simp[nxP]);obtain⟨v8,e8,Oe,rfl,Oc,L⟩:=fA 8 (by simp[nxP]);have L:=L BB;simp only[nxP,ba,e6,e8,nxT]at s ⊢;have yE:=L.cell 0;have f14:=L.free 0;have Io:=L.lt;simp at yE;rcases bhV_is HK.out.1 Y qe with Jz|Jz|Jz;all_goals
    have HBV:=aj Jz;rw[Jz]at s ⊢;clear Jz;go_simp;refine s undef _ ⟨Oe,Y,qe,by simp only[upd];exact e8,Oc,?_,(V.zF (B:=w7.heap.size) (i:=9) ⟨Oe,_,_,Oc,L,Z⟩)⟩ ⟨Oe,_,_,Oc,L,Z⟩;rw[HBV.out];exact L.stored 0 _
  obtain rfl:=aP ho';obtain⟨v7,e7,rfl⟩:=fA 7 (by simp[nxP]);simp only[nxP,ba,e7,nxT]at s ⊢;go_simp;exact s _ _ Z bS
 obtain⟨v1,O,r,Y,qe,rfl,-,-⟩:=eI 1 zS;obtain⟨v4,e4,y1,y3,rfl,-⟩:=eI 4 zS;obtain⟨v5,e5,z1,z3,rfl,-⟩:=eI 5 zS;obtain⟨v6,e6,t1,t3,rfl,-⟩:=eI 6 zS;obtain⟨v7,e7,rfl⟩:=eI 7 zS;obtain⟨v8,e8,oW,rfl,Oc,-⟩:=eI 8 zS;obtain⟨v9,e9,Oe,LQ,IG,e8',-,L,V⟩:=eI 9 zS;obtain⟨v10,uN,rfl⟩:=eI 10 zS;rw[e8]at e8';obtain rfl:=mM e8';clear eI e8';refine aG (by simp only[dj,O,e4,e5,e6,e7,e8,e9,uN,cZ,if_true];kernel_rfl) ?_ _;simp only[ba,O,e4,e5,e6,e7,e8,e9,uN,nxT];clear O e4 e5 e6 e7 e8 e9 uN;(try simp only[Act.put,ak,ay,az,eM]);obtain⟨u1,hu1⟩:=nM (I.tuple #[bhV op.kind y1 y3,ah true]);obtain⟨u2,hu2⟩:=nM (I.tuple #[bhV op.kind z1 z3,ah true]);obtain⟨u3,hu3⟩:=nM (bhV op.kind t1 t3);rw[hu1,hu2,hu3];clear hu1 hu2 hu3;replace h:=h.aw d;replace M:=M.aw d;replace c:=c.aw d;replace C:=C.aw d;replace y:=y.aw d;replace J:=J.aw d;replace P:=aE P d;clear d Oc;have qb:=c.cell 1;have Dm:=c.cell 2;simp at qb Dm;rw[ho]at qb;have l1:=c.lt;have BF:decide (ft l 0 0<0)=X:=by have:=HK.out.2.2.2.2;simp;omega
 have ha0:decide (op.a<0)=X:=by have:=HK.out.2.1;simp;omega
 have yC:decide (op.a>=65536)=X:=by have:=HK.out.2.1;simp;omega
 have ha2:decide (65536<=op.a)=X:=by have:=HK.out.2.1;simp;omega
 go_wp2_with (refine fZ Z 34 (.tmp 5) Z b0 Z 34 (lyC l) (0,0) _ M aK Z zK ?_);refine(pU l 0 0 w8 HA.out.1).mono ?_;rintro e w9 ⟨rfl,z⟩;replace h:=h.aw z;replace M:=M.aw z;replace c:=c.aw z;replace C:=C.aw z;replace y:=y.aw z;replace J:=J.aw z;replace L:=L.aw z;have hbh2:Bx k LQ IG w9:=⟨V.1.aw z,V.2.aw z⟩;replace P:=aE P z;clear z qb Dm l1 V;have qb:=c.cell 2;simp at qb;have l1:=c.lt;go_upto_region 5 with fail;clear qb l1 BF ha0 yC ha2;have uQ:=aj (cH.aT k.gp k.gp P);have HB:=aj (al C (al y P));have HC:=aj (al h (al J (al M (al c (al L hbh2)))));have yd:=J.cell 0;have Nr:=J.lt;have lb3:=y.lt;simp at yd;have hmf:∀(fn:Fn) (first cap:Array I) (w:W),(uT fn first cap).run ao w= .ok (.func fn first cap) w:=λ_ _ _ _=>rfl;have hgpl:=h.lt;have hqk:q=nW (2*k.l.c.aO) k.l.c.buckets k.me ⟨op.kind,op.a,op.b⟩ .m1 0 g (log.drop 0):=by rw[qa.out.1,qa.out.2.1];exact HQ.out.1
 have hmps:MpS k log:=⟨by rw[qa.out.1];exact HA.out.2.1,by rw[qa.out.2.2.2.1];exact HA.out.2.2.2.2.1,by rw[qa.out.1];exact HK.out.2.2.2.1⟩;have HMP:=aj (al hqk hmps);clear h M c C y J L hbh2 P hqk hmps;go_wp2_with fail;have qB:=rW (k:=k) (g:=g) (m:=0) (log:=log) q (λval D bc g'=>q= .fin ⟨val,D,bc,g'⟩/\g'.length<=1000) 87 #[ptr ky,ptr b0,ptr b1,ptr oW] k.gp w9 hgpl HC.out.1 (by intro w;simp[go_sem]) (λval D bc g' d=>d.2)
  (λw2 F=>(tL op ky b0 b1 oW LQ IG (HC.out.1.aw F) (HC.out.2.1.aw F) (by rw[qa.out.1];exact HC.out.2.2.1.aw F) (HC.out.2.2.2.1.aw F) (HC.out.2.2.2.2.1.aw F) (HC.out.2.2.2.2.2.1.aw F) (HC.out.2.2.2.2.2.2.aw F) HMP.out.2 (by rw[qa.out.1];exact HK.out.2.2.1) HK.out.1 HK.out.2.1 HA.out.2.2.2.2.2 HMP.out.1 HQ.out.2).mono
   λe w3 hh=>by
    rcases hh with⟨a,h1,F,h3⟩|⟨v,h1,⟨val,D,bc,g',m',gG,gn,gc,F,h3,h4,h5⟩,h6⟩
    ·exact .inl ⟨a,h1,F,h3⟩
    exact .inr ⟨v,h1,⟨val,D,bc,g',m',gG,gn,gc,⟨F,h3⟩,h4,h5⟩,h6⟩)
 clear yd Nr hgpl;(with_reducible refine qB.mono ?_);rintro e qJ ⟨ib,lh⟩;obtain⟨c0',c1',c2',c3',J6,D,er,pt,Q,rn,qc,dn,rfl,ie⟩:∃c0 qb c2 c3 val D er pt Q rn qc dn,e=ai (.tuple #[.agg (bj c0 qb c2 c3),.agg (bg val D er pt (.slice Q rn qc)),.bool dn])/\∀w':W,(∀gg,bI qJ (.slice Q rn qc) gg->bI w' (.slice Q rn qc) gg)->Below w.heap.size w w'->hJ l q w (ai (.tuple #[.agg (bj c0 qb c2 c3),.agg (bg val D er pt (.slice Q rn qc)),.bool dn])) w':=by
  rcases ib with⟨x,hx,rfl⟩|⟨val,D,bc,g',gv,d,rfl,mD⟩
  ·exact⟨_,_,_,_,_,_,_,_,_,_,_,_,Z,λw' _ z=>⟨.inl ⟨x,hx,by rw[qa.out.1]⟩,z⟩⟩
  obtain⟨Q,qc,rfl,r1,r2⟩:=mD;exact⟨_,_,_,_,_,_,_,_,_,_,_,_,Z,λw' hk z=>⟨.inr ⟨⟨val,D,bc,g'⟩,_,d.1,Z,hk _ ⟨Q,qc,Z,r1,r2⟩⟩,z⟩⟩
 have HF:=aj ie;have C:=lh.aw HB.out.1 (by have:=qd.out;omega) (by have:=qd.out;omega);have y:=lh.aw HB.out.2.1 (by have:=qd.out;omega) (by have:=qd.out;omega);have nC:=uQ.out.trans lh;clear ib ie lh qB lb3;go_wp2_with (first
  | (refine aI Z 67 (.tmp 10) (.tmp 59) Z Z b2 (bj c0' c1' c2' c3') Z Z 67 cG C zK Z (by simp[aB]) ?_)
  | (refine aI Z 70 (.tmp 11) (.tmp 60) Z Z b3 (bg J6 D er pt (.slice Q rn qc)) Z Z 70 aW (y.a6 (b:=b2) (by have:=qd.out;omega) (bj c0' c1' c2' c3')) zK Z (by simp[aB]) ?_))
 have xc:=y.a6 (b:=b2) (by have:=qd.out;omega) (bj c0' c1' c2' c3');have ys:=(C.bG (bj c0' c1' c2' c3')).a6 (b:=b3) (by have:=qd.out;omega) (bg J6 D er pt (.slice Q rn qc));have yr:=xc.bG (bg J6 D er pt (.slice Q rn qc));have lG:=(nC.row (b:=b2) (.inl (by rw[HW.out];have:=qd.out;omega)) (bj c0' c1' c2' c3')).row (b:=b3) (.inl (by rw[HW.out];have:=qd.out;omega)) (bg J6 D er pt (.slice Q rn qc));exact aS (v:=.tuple #[.agg (bj c0' c1' c2' c3'),.agg (bg J6 D er pt (.slice Q rn qc)),.bool dn]) (eo (p:=10) (q:=11) (t:=12) (t1:=67) (t2:=70) Z _ _ b2 b3 _ _ (0,0) (0,0) _ _ _ Z Z Z ys yr cF Z zK aJ Z zK) Z
  (HF.out _ (λgg hg=>(hg.row C zD _).row xc zD _) (lG.part (by have:=qd.out;rw[HW.out];omega) (by have:=qd.out;rw[HW.out];omega) (aq _)))
end split
section
open Go.RowKit
attribute [local go_sem ↓] aQ aR
abbrev mX:Array I:=#[V H 1,V H 3,.func (.func 71) #[] #[],V H 4,V H 5,.func (.func 72) #[] #[],V H 6,V H 7,.func (.func 73) #[] #[]]
theorem K8(w:W):U ao 45 #[] w λe w'=>e=ai (.agg mX)/\D w.heap.size w w':=by
 go_enter func45,ntmps45;go_wp2_with fail;have a:=Bk.made w 106 mX;exact aS (v:=.agg mX) (bQ (p:=0) (ty:=106) Z _ _ w.heap.size 106 mX (0,0) _ Z a underlying106 Z zK) Z ⟨Z,aA bS _⟩
def FcRel(w:W)(b:Nat)(a:I)(wr:W):Prop:=∃i:Nat,a=V H (i:Nat)/\i<=b/\D w.heap.size w wr
def faceFn(a:Nat):Nat:=if a=0 then 71 else if a=1 then 72 else 73
theorem rj(l:Ly)(me:Nat)(op:Opr)(gv:I)(A:Option Addr)(n cap:Nat)(w:W)(q:An Out)(fi:Nat)(V:(fi=0/\1<=op.kind/\op.kind<=3)\/(fi=1/\4<=op.kind/\op.kind<=5)\/(fi=2/\6<=op.kind/\op.kind<=7))(ha:0<=op.a/\op.a<4294967296)(hc:∀w2,Below w.heap.size w w2->U ao (faceFn fi) #[lyV l,aa H me,gv,.agg (di op),.slice A n cap] w2 (hJ l q w2)):
  U ao 21 #[lyV l,aa H me,gv,.agg (di op),.slice A n cap] w (hJ l q w):=by
 have HC:=N hc;have HK:=N (al V ha);have qb:=(((Bk.made w 34 (lyC l)).alloc (ag (di op) 54)).alloc (ag cG 67)).alloc (ag aW 70);have s:=((Bk.new (w.alloc (ag (lyC l) 34)) (g:=w.heap.size+1) zS 54 (di op)).alloc (ag cG 67)).alloc (ag aW 70);have f:=(Bk.new ((w.alloc (ag (lyC l) 34)).alloc (ag (di op) 54)) (g:=w.heap.size+1+1) zS 67 cG).alloc (ag aW 70);have m:=Bk.new (((w.alloc (ag (lyC l) 34)).alloc (ag (di op) 54)).alloc (ag cG 67)) (g:=w.heap.size+1+1+1) zS 70 aW;have sy:=aA (aA (aA (bA w (ag (lyC l) 34)) (ag (di op) 54)) (ag cG 67)) (ag aW 70);have hfi:fi<=2:=M;go_enter func21,ntmps21;go_upto_region 1 with fail;generalize (((w.alloc (ag (lyC l) 34)).alloc (ag (di op) 54)).alloc (ag cG 67)).alloc (ag aW 70)=w4 at *;obtain⟨b0,h0⟩:=nM (w.heap.size);have qi:=N h0;rw[h0]at qb s f m ⊢;obtain⟨qk,Y⟩:=nM (b0+1);obtain⟨C,h2⟩:=nM (qk+1);obtain⟨J,h3⟩:=nM (C+1);rw[Y]at s;rw[Y,h2]at f;rw[Y,h2,h3]at m ⊢;have qa:=N (show b0<qk/\qk<C/\C<J from⟨M,M,M⟩);have K:=s.cell 0;have P:=s.cell 2;simp at K P;have l1:=s.lt;have ha0:decide (op.a>=0)=O:=zP;have ha0':decide (0<=op.a)=O:=zP;have yC:decide (op.a<4294967296)=O:=zP;have HBL:=N sy;have key:∀bb:Bool,(op.kind != 6)=bb->True:=λ_ _=>trivial;obtain⟨k6,hk6⟩:=nM ((op.kind != 6));cases k6<;>(go_upto_region 2 with fail);all_goals
  go_wp2_with fail;refine(K8 w4).mono ?_;rintro e w5 ⟨rfl,E⟩;replace qb:=qb.aw E;replace s:=s.aw E;replace f:=f.aw E;replace m:=m.aw E;have HB5:=N (aE HBL.out E);go_wp2_with fail;go_loopw [30] (λv30 wr=>FcRel w5 fi v30 wr) (λv30 _=>3-(intOf v30).toNat)
  case atStart=>exact⟨0,Z,aN _,bS⟩
  case round=>
  obtain⟨i,rfl,hi,qj⟩:=hrel;replace qb:=qb.aw qj;replace s:=s.aw qj;replace f:=f.aw qj;replace m:=m.aw qj;have HB6:=N (aE HB5.out qj);have HBW:=N qj;have K:=s.cell 0;simp at K;have l1:=s.lt;rcases HK.out.1 with⟨rfl,Y,h2⟩|⟨rfl,Y,h2⟩|⟨rfl,Y,h2⟩
  ·obtain rfl:i=0:=M;have qD:∀w',(Instr.index 106 (.agg mX) (aa H 0)).run ao w'= .ok (.agg #[aa H 1,aa H 3,.func (.func 71) #[] #[]]) w':=λw'=>by kernel_rfl
   have d1:decide ((1:Int)<=op.kind)=O:=zP;have d2:decide (op.kind<=3)=O:=zP;go_upto_region 6 with fail;have D:=bA wr (ag #[aa H 1,aa H 3,.func (.func 71) #[] #[]] 105);have L:=Bk.made wr 105 #[aa H 1,aa H 3,.func (.func 71) #[] #[]];replace qb:=qb.aw D;replace s:=s.aw D;replace f:=f.aw D;replace m:=m.aw D;have T:=N (aE HB6.out D);generalize wr.alloc (ag #[aa H 1,aa H 3,.func (.func 71) #[] #[]] 105)=qf at *;obtain⟨bf,hbf⟩:=nM (wr.heap.size);rw[hbf]at L ⊢;have cf:=L.cell 2;have lf:=L.lt;simp at cf;go_wp2_with (first
    | (refine aM Z 34 (.tmp 5) Z b0 Z 34 (lyC l) (0,0) _ qb aK Z zK ?_)
    | (refine aM Z 54 (.tmp 8) Z qk Z 54 (di op) (0,0) _ s underlying54 Z zK ?_))
   have tR:U ao 71 #[lyV l,aa H me,gv,.agg (di op),.slice A n cap] qf (hJ l q qf):=HC.out qf T.out;(with_reducible refine tR.mono ?_);rintro e w8 ⟨ib,qe⟩;obtain⟨B,z,u,y,F,h,j,k,a,d,c,qc,rfl,ie⟩:∃K qg P Q qh h j k a d c qc,e=ai (.tuple #[.agg (bj K qg P Q),.agg (bg qh h j k (.slice a d c)),.bool qc])/\∀w':W,(∀qd,bI w8 (.slice a d c) qd->bI w' (.slice a d c) qd)->Below w.heap.size w w'->hJ l q w (ai (.tuple #[.agg (bj K qg P Q),.agg (bg qh h j k (.slice a d c)),.bool qc])) w':=by
    rcases ib with⟨x,hx,rfl⟩|⟨o,gv',hT,rfl,mD⟩
    ·exact⟨_,_,_,_,_,_,_,_,_,_,_,_,Z,λw' _ E=>⟨.inl ⟨x,hx,Z⟩,E⟩⟩
    obtain⟨a,c,rfl,r1,r2⟩:=mD;exact⟨_,_,_,_,_,_,_,_,_,_,_,_,Z,λw' V E=>⟨.inr ⟨o,_,hT,Z,V _ ⟨a,c,Z,r1,r2⟩⟩,E⟩⟩
   have HF:=N ie;replace f:=f.aw qe;replace m:=m.aw qe;have HB8:=N (aE T.out qe);go_wp2_with (first
    | (refine aI Z 67 (.tmp 10) (.tmp 56) Z Z C (bj B z u y) Z Z 67 cG f zK Z (by simp[aB]) ?_)
    | (refine aI Z 70 (.tmp 11) (.tmp 57) Z Z J (bg F h j k (.slice a d c)) Z Z 70 aW (m.a6 (b:=C) (by have:=qa.out;omega) (bj B z u y)) zK Z (by simp[aB]) ?_))
   have S:=m.a6 (b:=C) (by have:=qa.out;omega) (bj B z u y);have ys:=(f.bG (bj B z u y)).a6 (b:=J) (by have:=qa.out;omega) (bg F h j k (.slice a d c));have yr:=S.bG (bg F h j k (.slice a d c));have xp:=eA (eA HB8.out (g:=C) (by rw[qi.out];have:=qa.out;omega) (bj B z u y)) (g:=J) (by rw[qi.out];have:=qa.out;omega) (bg F h j k (.slice a d c));exact aS (v:=.tuple #[.agg (bj B z u y),.agg (bg F h j k (.slice a d c)),.bool qc]) (eo (p:=10) (q:=11) (t:=12) (t1:=67) (t2:=70) Z _ _ C J _ _ (0,0) (0,0) _ _ _ Z Z Z ys yr cF Z zK aJ Z zK) Z
    (HF.out _ (λqd hg=>(hg.row f zD _).row S zD _) xp)
  ·rcases (show i=0\/i=1 by omega)with rfl|rfl
   ·have qD:∀w',(Instr.index 106 (.agg mX) (aa H 0)).run ao w'= .ok (.agg #[aa H 1,aa H 3,.func (.func 71) #[] #[]]) w':=λw'=>by kernel_rfl
    have d1:decide ((1:Int)<=op.kind)=O:=zP;have d2:decide (op.kind<=3)=X:=zP;go_wp2_with fail;go_roundw
    case rel=>exact⟨1,Z,zD,aA HBW.out _⟩
    case measure=>decide
   have qD:∀w',(Instr.index 106 (.agg mX) (aa H 1)).run ao w'= .ok (.agg #[aa H 4,aa H 5,.func (.func 72) #[] #[]]) w':=λw'=>by kernel_rfl
   have d1:decide ((4:Int)<=op.kind)=O:=zP;have d2:decide (op.kind<=5)=O:=zP;go_upto_region 6 with fail;have D:=bA wr (ag #[aa H 4,aa H 5,.func (.func 72) #[] #[]] 105);have L:=Bk.made wr 105 #[aa H 4,aa H 5,.func (.func 72) #[] #[]];replace qb:=qb.aw D;replace s:=s.aw D;replace f:=f.aw D;replace m:=m.aw D;have T:=N (aE HB6.out D);generalize wr.alloc (ag #[aa H 4,aa H 5,.func (.func 72) #[] #[]] 105)=qf at *;obtain⟨bf,hbf⟩:=nM (wr.heap.size);rw[hbf]at L ⊢;have cf:=L.cell 2;have lf:=L.lt;simp at cf;go_wp2_with (first
    | (refine aM Z 34 (.tmp 5) Z b0 Z 34 (lyC l) (0,0) _ qb aK Z zK ?_)
    | (refine aM Z 54 (.tmp 8) Z qk Z 54 (di op) (0,0) _ s underlying54 Z zK ?_))
   have tR:U ao 72 #[lyV l,aa H me,gv,.agg (di op),.slice A n cap] qf (hJ l q qf):=HC.out qf T.out;(with_reducible refine tR.mono ?_);rintro e w8 ⟨ib,qe⟩;obtain⟨B,z,u,y,F,h,j,k,a,d,c,qc,rfl,ie⟩:∃K qg P Q qh h j k a d c qc,e=ai (.tuple #[.agg (bj K qg P Q),.agg (bg qh h j k (.slice a d c)),.bool qc])/\∀w':W,(∀qd,bI w8 (.slice a d c) qd->bI w' (.slice a d c) qd)->Below w.heap.size w w'->hJ l q w (ai (.tuple #[.agg (bj K qg P Q),.agg (bg qh h j k (.slice a d c)),.bool qc])) w':=by
    rcases ib with⟨x,hx,rfl⟩|⟨o,gv',hT,rfl,mD⟩
    ·exact⟨_,_,_,_,_,_,_,_,_,_,_,_,Z,λw' _ E=>⟨.inl ⟨x,hx,Z⟩,E⟩⟩
    obtain⟨a,c,rfl,r1,r2⟩:=mD;exact⟨_,_,_,_,_,_,_,_,_,_,_,_,Z,λw' V E=>⟨.inr ⟨o,_,hT,Z,V _ ⟨a,c,Z,r1,r2⟩⟩,E⟩⟩
   have HF:=N ie;replace f:=f.aw qe;replace m:=m.aw qe;have HB8:=N (aE T.out qe);go_wp2_with (first
    | (refine aI Z 67 (.tmp 10) (.tmp 56) Z Z C (bj B z u y) Z Z 67 cG f zK Z (by simp[aB]) ?_)
    | (refine aI Z 70 (.tmp 11) (.tmp 57) Z Z J (bg F h j k (.slice a d c)) Z Z 70 aW (m.a6 (b:=C) (by have:=qa.out;omega) (bj B z u y)) zK Z (by simp[aB]) ?_))
   have S:=m.a6 (b:=C) (by have:=qa.out;omega) (bj B z u y);have ys:=(f.bG (bj B z u y)).a6 (b:=J) (by have:=qa.out;omega) (bg F h j k (.slice a d c));have yr:=S.bG (bg F h j k (.slice a d c));have xp:=eA (eA HB8.out (g:=C) (by rw[qi.out];have:=qa.out;omega) (bj B z u y)) (g:=J) (by rw[qi.out];have:=qa.out;omega) (bg F h j k (.slice a d c));exact aS (v:=.tuple #[.agg (bj B z u y),.agg (bg F h j k (.slice a d c)),.bool qc]) (eo (p:=10) (q:=11) (t:=12) (t1:=67) (t2:=70) Z _ _ C J _ _ (0,0) (0,0) _ _ _ Z Z Z ys yr cF Z zK aJ Z zK) Z
    (HF.out _ (λqd hg=>(hg.row f zD _).row S zD _) xp)
  rcases (show i=0\/i=1\/i=2 by omega)with rfl|rfl|rfl
  ·have qD:∀w',(Instr.index 106 (.agg mX) (aa H 0)).run ao w'= .ok (.agg #[aa H 1,aa H 3,.func (.func 71) #[] #[]]) w':=λw'=>by kernel_rfl
   have d1:decide ((1:Int)<=op.kind)=O:=zP;have d2:decide (op.kind<=3)=X:=zP;go_wp2_with fail;go_roundw
   case rel=>exact⟨1,Z,zD,aA HBW.out _⟩
   case measure=>decide
  ·have qD:∀w',(Instr.index 106 (.agg mX) (aa H 1)).run ao w'= .ok (.agg #[aa H 4,aa H 5,.func (.func 72) #[] #[]]) w':=λw'=>by kernel_rfl
   have d1:decide ((4:Int)<=op.kind)=O:=zP;have d2:decide (op.kind<=5)=X:=zP;go_wp2_with fail;go_roundw
   case rel=>exact⟨2,Z,zD,aA HBW.out _⟩
   case measure=>decide
  have qD:∀w',(Instr.index 106 (.agg mX) (aa H 2)).run ao w'= .ok (.agg #[aa H 6,aa H 7,.func (.func 73) #[] #[]]) w':=λw'=>by kernel_rfl
  have d1:decide ((6:Int)<=op.kind)=O:=zP;have d2:decide (op.kind<=7)=O:=zP;go_upto_region 6 with fail;have D:=bA wr (ag #[aa H 6,aa H 7,.func (.func 73) #[] #[]] 105);have L:=Bk.made wr 105 #[aa H 6,aa H 7,.func (.func 73) #[] #[]];replace qb:=qb.aw D;replace s:=s.aw D;replace f:=f.aw D;replace m:=m.aw D;have T:=N (aE HB6.out D);generalize wr.alloc (ag #[aa H 6,aa H 7,.func (.func 73) #[] #[]] 105)=qf at *;obtain⟨bf,hbf⟩:=nM (wr.heap.size);rw[hbf]at L ⊢;have cf:=L.cell 2;have lf:=L.lt;simp at cf;go_wp2_with (first
   | (refine aM Z 34 (.tmp 5) Z b0 Z 34 (lyC l) (0,0) _ qb aK Z zK ?_)
   | (refine aM Z 54 (.tmp 8) Z qk Z 54 (di op) (0,0) _ s underlying54 Z zK ?_))
  have tR:U ao 73 #[lyV l,aa H me,gv,.agg (di op),.slice A n cap] qf (hJ l q qf):=HC.out qf T.out;(with_reducible refine tR.mono ?_);rintro e w8 ⟨ib,qe⟩;obtain⟨B,z,u,y,F,h,j,k,a,d,c,qc,rfl,ie⟩:∃K qg P Q qh h j k a d c qc,e=ai (.tuple #[.agg (bj K qg P Q),.agg (bg qh h j k (.slice a d c)),.bool qc])/\∀w':W,(∀qd,bI w8 (.slice a d c) qd->bI w' (.slice a d c) qd)->Below w.heap.size w w'->hJ l q w (ai (.tuple #[.agg (bj K qg P Q),.agg (bg qh h j k (.slice a d c)),.bool qc])) w':=by
   rcases ib with⟨x,hx,rfl⟩|⟨o,gv',hT,rfl,mD⟩
   ·exact⟨_,_,_,_,_,_,_,_,_,_,_,_,Z,λw' _ E=>⟨.inl ⟨x,hx,Z⟩,E⟩⟩
   obtain⟨a,c,rfl,r1,r2⟩:=mD;exact⟨_,_,_,_,_,_,_,_,_,_,_,_,Z,λw' V E=>⟨.inr ⟨o,_,hT,Z,V _ ⟨a,c,Z,r1,r2⟩⟩,E⟩⟩
  have HF:=N ie;replace f:=f.aw qe;replace m:=m.aw qe;have HB8:=N (aE T.out qe);go_wp2_with (first
   | (refine aI Z 67 (.tmp 10) (.tmp 56) Z Z C (bj B z u y) Z Z 67 cG f zK Z (by simp[aB]) ?_)
   | (refine aI Z 70 (.tmp 11) (.tmp 57) Z Z J (bg F h j k (.slice a d c)) Z Z 70 aW (m.a6 (b:=C) (by have:=qa.out;omega) (bj B z u y)) zK Z (by simp[aB]) ?_))
  have S:=m.a6 (b:=C) (by have:=qa.out;omega) (bj B z u y);have ys:=(f.bG (bj B z u y)).a6 (b:=J) (by have:=qa.out;omega) (bg F h j k (.slice a d c));have yr:=S.bG (bg F h j k (.slice a d c));have xp:=eA (eA HB8.out (g:=C) (by rw[qi.out];have:=qa.out;omega) (bj B z u y)) (g:=J) (by rw[qi.out];have:=qa.out;omega) (bg F h j k (.slice a d c));exact aS (v:=.tuple #[.agg (bj B z u y),.agg (bg F h j k (.slice a d c)),.bool qc]) (eo (p:=10) (q:=11) (t:=12) (t1:=67) (t2:=70) Z _ _ C J _ _ (0,0) (0,0) _ _ _ Z Z Z ys yr cF Z zK aJ Z zK) Z
   (HF.out _ (λqd hg=>(hg.row f zD _).row S zD _) xp)
end
section
open Go.RowKit
variable {op:Opr}
def Ca(th bk a:Int)(op:Opr):Ph->Log->An Out
 | x,[]=>.ask (x.acc a op.a)
 | x,r :: l=>match x.stp th bk op r with
  | .go b=>Ca th bk a op b l
  | .out o=>.fin o
  | .stuck=>.stuck
def oO(th bk a:Int)(op:Opr):PX->Log->An Out
 | .go x,l=>Ca th bk a op x l
 | .out o,_=>.fin o
 | .stuck,_=>.stuck
theorem pQ(th bk a:Int)(op:Opr)(x:Ph)(r:Int × Bool)(l:Log):Ca th bk a op x (r :: l)=oO th bk a op (x.stp th bk op r) l:=by
 cases h:x.stp th bk op r<;>simp[Ca,oO,h]
theorem Mt(th bk a:Int)(op:Opr):∀(l:Log) (x:MPh) (n:Nat) (g:cq),Ca th bk a op (.m x n g) l=nW th bk a ⟨op.kind,op.a,op.b⟩ x n g l
 | [],_,_,_=>rfl
 | r :: l,x,n,g=>by
  rw[pQ,tt];show oO th bk a op (x.stp th bk ⟨op.kind,op.a,op.b⟩ n g r).p l=_;cases x.stp th bk ⟨op.kind,op.a,op.b⟩ n g r with
  | go d c b=>exact Mt th bk a op l d c b
  | out o=>rfl
  | stuck=>rfl
theorem Mu(th bk a:Int)(op:Opr):∀(l:Log) (x:EPh) (z:Pz),Ca th bk a op (.e x z) l=hH th a op.a x z l
 | [],_,_=>rfl
 | r :: l,x,z=>by
  rw[pQ,tu];show oO th bk a op (x.stp th op.a z r).p l=_;cases x.stp th op.a z r with
  | go c b=>exact Mu th bk a op l c b
  | out o=>rfl
  | stuck=>rfl
theorem Mv(th bk a:Int)(op:Opr):∀(l:Log) (x:CPh) (z:Pz),Ca th bk a op (.c x z) l=fU th a op.a x z l
 | [],_,_=>rfl
 | r :: l,x,z=>by
  rw[pQ,tw];show oO th bk a op (x.stp th op.a z r).p l=_;cases x.stp th op.a z r with
  | go c b=>exact Mv th bk a op l c b
  | out o=>rfl
  | stuck=>rfl
theorem runPX_e(th bk a:Int)(op:Opr)(x:EX)(l:Log):oO th bk a op x.p l=eX th a op.a x l:=by
 cases x with
 | go x z=>exact Mu th bk a op l x z
 | out o=>rfl
 | stuck=>rfl
theorem runPX_c(th bk a:Int)(op:Opr)(x:CX)(l:Log):oO th bk a op x.p l=ez th a op.a x l:=by
 cases x with
 | go x z=>exact Mv th bk a op l x z
 | out o=>rfl
 | stuck=>rfl
theorem L8(h:1<=op.kind/\op.kind<=3)(g:cq):ee op g= .go (.m .m1 0 g):=if_pos h
theorem L9(h:4<=op.kind/\op.kind<=5)(g:cq):ee op g=(te op.kind g).p:=by
 unfold ee;rw[if_neg M,if_pos h]
theorem Ma(h:6<=op.kind/\op.kind<=7)(g:cq):ee op g=(tf op.kind g).p:=by
 unfold ee;rw[if_neg M,if_neg M,if_pos h]
structure LyTop (l:Ly):Prop where
 f:eu l
 sl:l.c.slots=1
 se:1<=l.c.aO/\l.c.aO<=8
 bk:1<=l.c.buckets
 nd:∀n,1<=n->n<=40->0<=nodeAt l n 0/\nodeAt l n 0<l.size
 mp:0<=ft l 0 0
 tp:0<=fj l 0
 hd:0<=et l 0
theorem onext(l:Ly)(c:Nat)(op:Opr)(g:cq)(b:I)(A:Option Addr)(cap:Nat)(log:Log)(w:W)(L:LyTop l)(ho:kK op)(f:bI w b g)(t:g.length<=1000)(m:gH w w.heap.size A log)(i:log.length<=100000)(u:log.length<=cap)(y:∀x∈log,-4611686018427387904<=x.1/\x.1<=4611686018427387904)(q:An Out)(d:q=oO (2*l.c.aO) l.c.buckets c op (ee op g) log)(k:q≠ .stuck)(n:∀o,q= .fin o->o.gone.length<=1000):
  U ao 21 #[lyV l,V H c,b,.agg (di op),.slice A log.length cap] w (hJ l q w):=by
 obtain⟨⟨s,B⟩,j,v,z⟩:=ho;rcases (show op.kind<=3\/(4<=op.kind/\op.kind<=5)\/(6<=op.kind/\op.kind<=7)by omega)with h|h|h
 ·rw[L8 ⟨s,h⟩]at d;exact rj l c op b A log.length cap w q 0 (.inl ⟨Z,s,h⟩) M λe a=>
   split.snext l c op g b A cap log e L.f L.se L.bk L.nd L.mp j M v (f.aw a) t ((m.below a).more (a.size)) i u q (d.trans (Mt _ _ _ _ _ _ _ _)) k
 ·rw[L9 h]at d;exact rj l c op b A log.length cap w q 1 (.inr (.inl ⟨Z,h⟩)) M λe a=>
   elim.enext l c op g b A cap log e L.f L.sl L.se L.tp j M (f.aw a) ((m.below a).more (a.size)) i q (d.trans (runPX_e _ _ _ _ _ _)) k n
 rw[Ma h]at d;exact rj l c op b A log.length cap w q 2 (.inr (.inr ⟨Z,h⟩)) M λe a=>
  segment.cnext l c op g b A cap log e L.f L.hd j M (f.aw a) ((m.below a).more (a.size)) i y _ q (d.trans (runPX_c _ _ _ _ _ _)) k n
end
section
open Go.RowKit
variable {a b base n sz:Nat} {v:I} {e:bM} {xs:List I}
section
variable {w w':W} {t0:bM}
theorem bX{c:Array I}(k:Bk w b t0 c)(i:Nat)(u:I):eB t0 w (w.setCell ⟨b,i,Y⟩ u):=by
 intro g f t e h d;have a:g≠b:=by
  rintro rfl;rw[Bk,h]at k;injection k with k;injection k with _ k _;exact d k
 rw[jL w ⟨b,i,Y⟩ u g a];exact h
theorem cV{f:List I}(h:w.ownsRow base t0 sz v n f)(c:w.grownBy w' v.ownBlock):eB t0 w w':=by
 intro g j t l b i;have d:g<w.heap.size:=(a9.1 b).1;rw[c.block g d ?_]
 ·exact b
 rcases h.2 with⟨rfl,_⟩|⟨o,m,k,rfl,_,a,_⟩
 ·simp[I.ownBlock]
 simp only[I.ownBlock];intro e;injection e with e;subst e;rw[b]at a;injection a with a;injection a with _ a _;exact i a
theorem iv(b:D w.heap.size w w'):eB t0 w w':=by
 intro g d t c a _;rw[b.block g (a9.1 a).1];exact a
theorem eB.trans{w2:W}(h:eB t0 w w')(d:eB t0 w' w2):eB t0 w w2:=λg b t a e c=>d g b t a (h g b t a e c) c
theorem bY(h:w.ownsRow base e sz v n xs)(j:eB t0 w w')(ne:e≠t0):w'.ownsRow base e sz v n xs:=by
 rcases h.2 with a|⟨g,f,b,a,i,c,d⟩
 ·exact⟨h.1,.inl a⟩
 exact⟨h.1,.inr ⟨g,f,b,a,i,j g b e (0,0) c ne,d⟩⟩
theorem aY(h:w.ownsRow base e sz v n xs)(f:D w.heap.size w w'):w'.ownsRow base e sz v n xs:=by
 rcases h.2 with a|⟨g,i,c,a,j,b,d⟩
 ·exact⟨h.1,.inl a⟩
 exact⟨h.1,.inr ⟨g,i,c,a,j,(f.block g (a9.1 b).1).trans b,d⟩⟩
theorem dt(h:w.ownsRow base e sz v n xs)(f:a<=base):w.ownsRow a e sz v n xs:=by
 rcases h.2 with b|⟨g,j,c,i,k,d⟩
 ·exact⟨h.1,.inl b⟩
 exact⟨h.1,.inr ⟨g,j,c,i,aF f k,d⟩⟩
end
theorem bk_ne{w:W}{t1 t2:bM}{c1 c2:Array I}(c:Bk w a t1 c1)(d:Bk w b t2 c2)(e:t1≠t2):a≠b:=by
 rintro rfl;rw[Bk,d]at c;injection c with c;injection c with _ c _;exact e c.symm
end
end Go.Proofs.YtikdaeddbkopeaaGreatR
