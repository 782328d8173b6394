/- A part of the proof. -/
import Derived.WalkMore
import Derived.Test.YtikdaeddbkopeaaGreatRV7
import Derived.Test.YtikdaeddbkopeaaGreatRV3
set_option linter.unusedVariables false
set_option linter.unusedSimpArgs false
set_option maxRecDepth 100000
set_option maxHeartbeats 16000000
open And renaming intro → au
open Array renaming getElem?_eq_some_iff → bE
open Go renaming execOp → Av, setRow_heap → Cm, Program → Cn, wpList_store_rowTo → aK, wpList_load_row → aL, wp_at_zero → aV, wp_at_succ → aW, bodyPost_ret → aX, TypeId → bR, run_loadVar_row → be, wpList_append_own_at → cM, results_cell_row → cb, wp_store_row → dH, rounds_succ → dI, results_none → dY, loadVar → dr, Ending → lb, maxLen → nu, wpAnyH_ready → qw, info_parts → xE
open Go.Ending renaming returned → ai
open Go.Instr renaming makeFunc → kZ, sureAddr → xG
open Go.IntKind renaming i64 → ab
open Go.IntWalk renaming i64_in → cV
open Go.Lib renaming hid → ar
open Go.Obj renaming cells → ag
open Go.Proofs.Tryz renaming underlying70 → aI, underlying34 → aJ, prog → aw, underlying67 → bU
open Go.Region renaming wanted → Eg
open Go.Result renaming andThen_ok → bQ
open Go.RowKit.Below renaming heap_setCell → pM
open Go.Sem renaming run_bind → di, run_pure → dx
open Go.Value renaming oneCell' → aD, bool → ah, int → aa, pointer → ae
open Go.WideShapes renaming add_plain → fV
open List renaming setIfInBounds_toArray → aj, set_cons_zero → ak, set_cons_succ → al, getElem_cons_zero → an, getElem_cons_succ → ao, getElem_toArray → aq, mem_cons → bD, not_mem_nil → cB, length_append → cJ, set_nil → iL
open Nat renaming le_trans → aQ, zero_le → aY, le_refl → az, lt_of_lt_of_le → bg, zero_add → eE, le_add_left → fu
open Option renaming isSome_some → gQ
open Option.some renaming inj → aT
open Or renaming inl → jL
open True renaming intro → aC
namespace Go.Proofs.YtikdaeddbkopeaaGreatR.split
open Go.RowKit
attribute [local go_sem ↓] aV aW
def nxT:Nat->Nat | 1=>26 | 4=>29 | 5=>24 | 6=>30 | 7=>31 | 8=>14 | 9=>62 | 10=>15 | _=>63
def nxP:Nat->List Nat | 4=>[1] | 5=>[4] | 6=>[5] | 7=>[5] | 9=>[6,8] | 10=>[7] | _=>[]
def Ck (k:Sk) (e1 e3:Nat) (w:World):Prop:=Bk w e1 139 #[ptr k.gp]/\Bk w e3 3 #[aa ab (fP k.l 0 1)]
def nxR (k:Sk) (kind:Int) (B:Nat) (i:Nat) (val:Nat->Option Value) (v:Value) (w:World):Prop:=match i with
 | 1=>∃ r e1 e3,v= .map (some r)/\Ck k e1 e3 w/\w.heap[r]? =some (.map (tu e1 e3) 3)
 | 4=>∃ e1 e3,v= .tuple #[bhV kind e1 e3,ah true]/\Ck k e1 e3 w
 | 5=>∃ e1 e3,v= .tuple #[bhV kind e1 e3,ah true]/\Ck k e1 e3 w
 | 6=>∃ e1 e3,v=bhV kind e1 e3/\Ck k e1 e3 w
 | 7=>v=ah true
 | 8=>∃ tc,v=ptr tc/\B<=tc/\(val 9=none->Bk w tc 142 #[.nilFunc])
 | 9=>∃ tc e1 e3,val 8=some (ptr tc)/\B<=tc/\Bk w tc 142 #[bhV kind e1 e3]/\Ck k e1 e3 w
 | 10=>v=ah true
 | _=>True
def nxG (B:Nat) (i:Nat) (w1 w2:World):Prop:=match i with
 | 9=>∃ tc u c,B<=tc/\Bk w1 tc 142 c/\w2=w1.setCell ⟨tc,0,none⟩ u
 | _=>Below w1.heap.size w1 w2
theorem pd {B i:Nat} {w1 w2:World} (h:nxG B i w1 w2):(i=9/\∃ tc u c,B<=tc/\Bk w1 tc 142 c/\w2=w1.setCell ⟨tc,0,none⟩ u)\/Below w1.heap.size w1 w2:=by
 unfold nxG at h;split at h
 ·exact .inl ⟨rfl,h⟩
 ·exact .inr h
theorem ir {P:Cn} {ops:Array Oper} {rest:List Oper} {o:Oper} {a:Act} {w:World} {Q:Exit->Act->World->Prop} (hgd:Eg o (yielded ops a.tmps)=true) (ty:bR) (x:Operand) (ho:o.op= .load ty x)
  (g:Nat) (hx:a.eval x=ae (some ⟨g,0,none⟩)) (t:bR) (cs:Array Value) (fr:Nat × Nat) (d:TypeDesc) (hg:w.heap[g]? =some (ag cs t fr))
  (hu:P.underlying ty=some d) (hd:(match d with | .struct _ | .array _ _=>true | _=>false)=true) (hi:(P.info? ty).map (·.size)=some cs.size)
  (h:wpList P ops Q rest (a.put o.dst (.agg cs)) w):wpList P ops Q (o :: rest) a w:=by
 simp only [wpList,hgd,if_true];exact .inl (wp_load_row ty x ho g hx t cs fr d hg hu hd hi h)
theorem bhV_is {kind:Int} (h:kind=1\/kind=2\/kind=3) (x1 x3:Nat):bhV kind x1 x3= .func (.func 116) #[] #[]\/bhV kind x1 x3= .func (.func 117) #[] #[ptr x1,ptr x3]\/bhV kind x1 x3= .func (.func 118) #[] #[ptr x1,ptr x3]:=by
 rcases h with rfl | rfl | rfl
 ·exact .inl rfl
 ·exact .inr (.inl rfl)
 ·exact .inr (.inr rfl)
theorem Nf {w7 w1 w2:World} {i:Nat} (hT:Below w7.heap.size w7 w1) (hg:nxG w7.heap.size i w1 w2):Below w7.heap.size w7 w2:=by
 rcases pd hg with ⟨-,tc,u,c,Jm,iT,rfl⟩ | hs
 ·exact bK hT (p:=⟨tc,0,none⟩) Jm u
 ·exact aF hT hs
theorem Ck.AV {k:Sk} {e1 e3 B i:Nat} {w1 w2:World} (h:Ck k e1 e3 w1) (hg:nxG B i w1 w2):Ck k e1 e3 w2:=by
 rcases pd hg with ⟨-,tc,u,c,Jm,iT,rfl⟩ | hs
 ·exact ⟨h.1.other (p:=⟨tc,0,none⟩) (h.1.typ iT zD) u,h.2.other (p:=⟨tc,0,none⟩) (h.2.typ iT zD) u⟩
 ·exact ⟨h.1.ay hs,h.2.ay hs⟩
theorem Np {w:World} {r:Nat} {es:Array MapEntry} {n:Nat} (h:w.heap[r]? =some (.map es n)) {w2:World} (hb:Below w.heap.size w w2):w2.heap[r]? =some (.map es n):=(hb.block r (bE.1 h).1).trans h
theorem Ng {k:Sk} {kind:Int} {B i j:Nat} {val:Nat->Option Value} {v u:Value} {w1 w2:World} (oP:i≠j) (hj:val j=none) (h:nxR k kind B i val v w1) (hg:nxG B j w1 w2):nxR k kind B i (upd val j u) v w2:=by
 unfold nxR at h ⊢;split
 ·obtain ⟨r,e1,e3,h1,h2,h3⟩:=h;refine ⟨r,e1,e3,h1,h2.AV hg,?_⟩;rcases pd hg with ⟨-,tc,u,c,Jm,iT,rfl⟩ | hs
  ·have dF:r≠tc:=by
    rintro rfl;have:=h3.symm.trans iT
    cases this
   exact (pM w1 ⟨tc,0,none⟩ u r dF).trans h3
  ·exact Np h3 hs
 ·obtain ⟨e1,e3,h1,h2⟩:=h;exact ⟨e1,e3,h1,h2.AV hg⟩
 ·obtain ⟨e1,e3,h1,h2⟩:=h;exact ⟨e1,e3,h1,h2.AV hg⟩
 ·obtain ⟨e1,e3,h1,h2⟩:=h;exact ⟨e1,e3,h1,h2.AV hg⟩
 ·exact h
 ·obtain ⟨tc,h1,h2,h3⟩:=h;refine ⟨tc,h1,h2,fun e=>?_⟩
  obtain ⟨e1,e2⟩:=CD e;rcases pd hg with ⟨e9,-⟩ | hs
  ·exact absurd e9.symm e2
  ·exact (h3 e1).ay hs
 ·obtain ⟨tc,e1,e3,h1,h2,h3,h4⟩:=h;refine ⟨tc,e1,e3,qT hj h1,h2,?_,h4.AV hg⟩;rcases pd hg with ⟨e9,-⟩ | hs
  ·exact absurd e9.symm oP
  ·exact h3.ay hs
 ·exact h
 ·trivial
theorem snext (l:Ly) (me:Nat) (op:Opr) (g:cG) (gv:Value) (A:Option Addr) (cap:Nat) (log:Log) (w:World) (f:dU l) (Ld:1<=l.c.aM/\l.c.aM<=8) (Dz:1<=l.c.buckets) (gu:∀ n,1<=n->n<=40->0<=nodeAt l n 0/\nodeAt l n 0 < l.size) (hmp:0<=fP l 0 0) (ho:op.obj=0)
  (hk:op.kind=1\/op.kind=2\/op.kind=3) (ha:0<=op.a/\op.a < 65536) (hg:bN w gv g) (oe:g.length<=1000) (hs:hH w w.heap.size A log) (hl:log.length<=100000) (BQ:log.length<=cap) (q:An Out) (hq:q=pU (2 * l.c.aM) l.c.buckets me ⟨op.kind,op.a,op.b⟩ .m1 0 g log) (gq:q≠ .stuck):
  Calls aw 71 #[lyV l,aa ab me,gv,.agg (eg op),.slice A log.length cap] w (jd l q w):=by
 obtain ⟨G,gc,rfl,hN,qP⟩:=hg;have HG:=ar (show bN w (.slice G g.length gc) g from ⟨G,gc,rfl,hN,qP⟩)
 have HA:=ar (au f (au Ld (au hs (au hl (au BQ oe)))));have HQ:=ar (au hq gq);have HK:=ar (au hk (au ha (au Dz (au gu hmp))));obtain ⟨k,nm⟩:∃ k:Sk,k=⟨l,me,A,cap,w.heap.size,w.heap.size+1+1+1+1⟩:=⟨_,rfl⟩;have fU:=ar (show k.l=l/\k.me=me/\k.A=A/\k.cap=cap/\k.B=w.heap.size/\k.gp=w.heap.size+1+1+1+1 from nm ▸ ⟨rfl,rfl,rfl,rfl,rfl,rfl⟩)
 have hspc:spC k (.slice G g.length gc) 0 log.length=#[aa ab l.c.aM,aa ab l.c.nodes,aa ab l.c.buckets,aa ab l.c.slots,aa ab l.c.tasks,aa ab l.c.cells,aa ab l.c.maps,aa ab l.c.stacks,aa ab l.c.chans,aa ab l.done,aa ab l.count,aa ab l.era,aa ab l.free,aa ab l.alive,aa ab l.owner,aa ab l.resv,aa ab l.deque,aa ab l.ring,aa ab l.task,aa ab l.cell,aa ab l.map,aa ab l.stack,aa ab l.chan,aa ab l.node,aa ab l.size,aa ab me,.slice G g.length gc,aa ab 0,.slice A log.length cap,aa ab 0]:=by rw [nm];rfl
 have HSPC:=ar hspc;clear f Ld hk ha Dz gu hmp oe hs hl BQ hq gq hN qP nm hspc;have l0:=Bk.made w 34 (lyC l);go_enter Tryz.func71,Tryz.ntmps71
 go_upto_region 1 with fail
 have k0:=(((Bk.made w 34 (lyC l)).alloc (ag (eg op) 54)).alloc (ag bW 67)).alloc (ag aZ 70);have k1:=((Bk.new (w.alloc (ag (lyC l) 34)) (g:=w.heap.size+1) zS 54 (eg op)).alloc (ag bW 67)).alloc (ag aZ 70);have k2:=(Bk.new ((w.alloc (ag (lyC l) 34)).alloc (ag (eg op) 54)) (g:=w.heap.size+1+1) zS 67 bW).alloc (ag aZ 70);have k3:=Bk.new (((w.alloc (ag (lyC l) 34)).alloc (ag (eg op) 54)).alloc (ag bW 67)) (g:=w.heap.size+1+1+1) zS 70 aZ;have bz:=aB (aB (aB (aB (Below.refl w.heap.size w) (ag (lyC l) 34)) (ag (eg op) 54)) (ag bW 67)) (ag aZ 70);have hsz4:((((w.alloc (ag (lyC l) 34)).alloc (ag (eg op) 54)).alloc (ag bW 67)).alloc (ag aZ 70)).heap.size=k.gp:=by rw [fU.out.2.2.2.2.2];simp
 clear l0;generalize (((w.alloc (ag (lyC l) 34)).alloc (ag (eg op) 54)).alloc (ag bW 67)).alloc (ag aZ 70)=w4 at *;obtain ⟨b0,h0⟩:∃ x,w.heap.size=x:=⟨_,rfl⟩;have HW:=ar h0;rw [h0] at k0 k1 k2 k3 ⊢;clear h0;obtain ⟨b1,h1⟩:∃ x,b0+1=x:=⟨_,rfl⟩;obtain ⟨b2,h2⟩:∃ x,b1+1=x:=⟨_,rfl⟩;obtain ⟨b3,h3⟩:∃ x,b2+1=x:=⟨_,rfl⟩;rw [h1] at k1;rw [h1,h2] at k2;rw [h1,h2,h3] at k3 ⊢;have HZ:=ar (show b0 < b1/\b1 < b2/\b2 < b3/\b3 < k.gp from ⟨zO,zO,zO,by rw [<- hsz4];exact k3.lt⟩)
 clear h1 h2 h3;have c1:=k1.cell 1;simp at c1;rw [ho] at c1;have l1:=k1.lt
 go_upto_region 2 with (refine aL rfl 34 (.tmp 5) rfl b0 rfl 34 (lyC l) (0,0) _ k0 aJ rfl zK ?_)
 rw [<- HSPC.out];have kp:=(Bk.new w4 hsz4 141 (spC k (.slice G g.length gc) 0 log.length)).alloc (ag #[ptr k.gp] 139);have ep:=Bk.new (w4.alloc (ag (spC k (.slice G g.length gc) 0 log.length) 141)) (g:=k.gp+1) (by rw [<- hsz4];simp) 139 #[ptr k.gp]
 have fz:=aB (aB (Below.refl w4.heap.size w4) (ag (spC k (.slice G g.length gc) 0 log.length) 141)) (ag #[ptr k.gp] 139);replace k0:=k0.ay fz;replace k1:=k1.ay fz;replace k2:=k2.ay fz;replace k3:=k3.ay fz;replace bz:=aF bz fz;clear fz hsz4 c1 l1;generalize (w4.alloc (ag (spC k (.slice G g.length gc) 0 log.length) 141)).alloc (ag #[ptr k.gp] 139)=w6 at *;obtain ⟨jJ,h13⟩:∃ x,k.gp+1=x:=⟨_,rfl⟩;rw [h13] at ep ⊢;have HZ2:=ar (show k.gp < jJ from by omega)
 clear h13;have h:fD w6 k g 0 log:=⟨⟨_,kp,(HG.out.gnV (gp:=k.gp) (by rw [fU.out.2.2.2.2.2];omega)).ay bz⟩,by rw [fU.out.2.2.2.2.1,fU.out.2.2.1];exact HA.out.2.2.1.below bz,by rw [fU.out.2.2.2.2.1,fU.out.2.2.2.2.2];omega,HA.out.2.2.2.1,aY _,by rw [fU.out.1];exact HA.out.1⟩
 clear kp;refine aP (S:=fun w'=>Bk w' jJ 139 #[ptr k.gp]/\Bk w' b1 54 (eg op)) (E:=fun _=>false) zK ?_
 have ey:=aU (Below.refl w6.heap.size w6);replace h:=h.ay ey;replace k0:=k0.drew;replace k1:=k1.drew;replace k2:=k2.drew;replace k3:=k3.drew;replace ep:=ep.drew;replace bz:=bz.drew;clear ey;generalize w6.drew=w7 at *;refine wTk 3 [(0,25,ptr k.gp),(2,27,ae (some ⟨b1,0,none⟩)),(3,28,aa ab op.kind)] ?_ ⟨ep,k1⟩ ?_
 ·intro w' hS;have pF:=hS.1.cell 0;have c1:=hS.2.cell 0;simp at pF c1
  (repeat' (first | exact aC | refine au ⟨_,rfl,.inl ⟨rfl,?_⟩⟩ ?_))
  all_goals exact zG
 simp only [aR,Act.put,aj,ak,al];refine ma (U:=[1,4,5,6,7,8,9,10]) (tmp:=nxT) (pre:=nxP) (T:=fun w'=>Below w7.heap.size w7 w') (N:=fun _ _=>True) (G:=nxG w7.heap.size) (R:=nxR k op.kind w7.heap.size) zK (fun _ _=>rfl) (fun w2 hT=>⟨ep.ay hT,k1.ay hT⟩) (Below.refl _ _)
  (fun i _ w1 w2 hT hg=>Nf hT hg) (fun _ _=>trivial) (fun _ _ _ _ _ _ _ _ _ _=>trivial) (fun i _ j _ oP oZ v u w1 w2 _ _ hj _ hr hg=>Ng oP hj hr hg) (fun i hi o oq oZ w1 K qD hT hN cd hK=>?_) 0 (fun oZ w8 bS hT=>?_)
 ·simp only [bD,cB,or_false] at hi;rcases hi with rfl | rfl | rfl | rfl | rfl | rfl | rfl | rfl
  ·obtain rfl:=aT oq;simp only [nxP,bq] at hK ⊢;go_simp
   (with_reducible refine (Jx (h.ay hT)).mono ?_)
   rintro e w2 ⟨r,e1,e3,rfl,-,-,q1,q2,q3,hb⟩;exact hK _ _ ⟨r,e1,e3,rfl,⟨q1,q2⟩,q3⟩ hb
  ·obtain rfl:=aT oq;obtain ⟨v1,e1,r,x1,x3,rfl,Ma,hr⟩:=cd 1 (by simp [nxP])
   simp only [nxP,bq,e1,nxT] at hK ⊢;have tJ:(Instr.lookup 144 (.map (some r)) (aa ab op.kind) true).run aw w1= .ok (.tuple #[bhV op.kind x1 x3,ah true]) w1:=by
    rcases HK.out.1 with hk | hk | hk <;> rw [hk] <;> exact MF w1 r _ 3 _ (some (_,_)) hr rfl
   go_simp;exact hK _ _ ⟨x1,x3,rfl,Ma⟩ (Below.refl _ _)
  ·obtain rfl:=aT oq;obtain ⟨v1,e1,x1,x3,rfl,Ma⟩:=cd 4 (by simp [nxP])
   simp only [nxP,bq,e1,nxT] at hK ⊢;go_simp;exact hK _ _ ⟨x1,x3,rfl,Ma⟩ (Below.refl _ _)
  ·obtain rfl:=aT oq;obtain ⟨v1,e1,x1,x3,rfl,Ma⟩:=cd 5 (by simp [nxP])
   simp only [nxP,bq,e1,nxT] at hK ⊢;go_simp;exact hK _ _ ⟨x1,x3,rfl,Ma⟩ (Below.refl _ _)
  ·obtain rfl:=aT oq;obtain ⟨v1,e1,x1,x3,rfl,Ma⟩:=cd 5 (by simp [nxP])
   simp only [nxP,bq,e1,nxT] at hK ⊢;go_simp;exact hK _ _ rfl (Below.refl _ _)
  ·obtain rfl:=aT oq;simp only [nxP,bq] at hK ⊢;go_simp;exact hK _ _ ⟨_,rfl,hT.size,fun _=>Bk.made _ _ _⟩ (aB (Below.refl _ _) _)
  ·obtain rfl:=aT oq;obtain ⟨v6,e6,x1,x3,rfl,Ma⟩:=cd 6 (by simp [nxP])
   obtain ⟨v8,e8,tc,rfl,Jm,iT⟩:=cd 8 (by simp [nxP])
   have iT:=iT qD;simp only [nxP,bq,e6,e8,nxT] at hK ⊢;have vK:=iT.cell 0;have f14:=iT.free 0;have BG:=iT.lt;simp at vK;rcases bhV_is HK.out.1 x1 x3 with Kc | Kc | Kc
   all_goals
    have HBV:=ar Kc;rw [Kc] at hK ⊢;clear Kc;go_simp;refine hK undef _ ⟨tc,x1,x3,by simp only [upd];exact e8,Jm,?_,(Ma.AV (B:=w7.heap.size) (i:=9) ⟨tc,_,_,Jm,iT,rfl⟩)⟩ ⟨tc,_,_,Jm,iT,rfl⟩
    rw [HBV.out];exact iT.stored 0 _
  ·obtain rfl:=aT oq;obtain ⟨v7,e7,rfl⟩:=cd 7 (by simp [nxP])
   simp only [nxP,bq,e7,nxT] at hK ⊢;go_simp;exact hK _ _ rfl (Below.refl _ _)
 obtain ⟨v1,e1,r,x1,x3,rfl,-,-⟩:=bS 1 zS;obtain ⟨v4,e4,y1,y3,rfl,-⟩:=bS 4 zS;obtain ⟨v5,e5,z1,z3,rfl,-⟩:=bS 5 zS;obtain ⟨v6,e6,t1,t3,rfl,-⟩:=bS 6 zS;obtain ⟨v7,e7,rfl⟩:=bS 7 zS;obtain ⟨v8,e8,oW,rfl,Jm,-⟩:=bS 8 zS;obtain ⟨v9,e9,tc,Ki,zd,e8',-,iT,Ma⟩:=bS 9 zS;obtain ⟨v10,xh,rfl⟩:=bS 10 zS;rw [e8] at e8';obtain rfl:=oz e8';clear bS e8';refine aN (by simp only [dC,e1,e4,e5,e6,e7,e8,e9,xh,gQ,if_true];kernel_rfl) ?_ _
 simp only [bq,e1,e4,e5,e6,e7,e8,e9,xh,nxT];clear e1 e4 e5 e6 e7 e8 e9 xh
 (try simp only [Act.put,aj,ak,al,iL])
 obtain ⟨u1,Eh⟩:∃ v,Value.tuple #[bhV op.kind y1 y3,ah true]=v:=⟨_,rfl⟩;obtain ⟨u2,xN⟩:∃ v,Value.tuple #[bhV op.kind z1 z3,ah true]=v:=⟨_,rfl⟩;obtain ⟨u3,hu3⟩:∃ v,bhV op.kind t1 t3=v:=⟨_,rfl⟩;rw [Eh,xN,hu3];clear Eh xN hu3;replace h:=h.ay hT;replace k0:=k0.ay hT;replace k1:=k1.ay hT;replace k2:=k2.ay hT;replace k3:=k3.ay hT;replace ep:=ep.ay hT;replace bz:=aF bz hT;clear hT Jm;have c1:=k1.cell 1;have Cu:=k1.cell 2;simp at c1 Cu;rw [ho] at c1;have l1:=k1.lt;have A5:decide (fP l 0 0 < 0)=false:=by have:=HK.out.2.2.2.2;simp;omega
 have ha0:decide (op.a < 0)=false:=by have:=HK.out.2.1;simp;omega
 have xz:decide (op.a>=65536)=false:=by have:=HK.out.2.1;simp;omega
 have ha2:decide (65536<=op.a)=false:=by have:=HK.out.2.1;simp;omega
 go_wp2_with (refine ir rfl 34 (.tmp 5) rfl b0 rfl 34 (lyC l) (0,0) _ k0 aJ rfl zK ?_)
 (with_reducible refine (rW l 0 0 w8 HA.out.1).mono ?_)
 rintro e w9 ⟨rfl,hb⟩;replace h:=h.ay hb;replace k0:=k0.ay hb;replace k1:=k1.ay hb;replace k2:=k2.ay hb;replace k3:=k3.ay hb;replace ep:=ep.ay hb;replace iT:=iT.ay hb;have hbh2:Ck k Ki zd w9:=⟨Ma.1.ay hb,Ma.2.ay hb⟩;replace bz:=aF bz hb;clear hb c1 Cu l1 Ma;have c1:=k1.cell 2;simp at c1;have l1:=k1.lt
 go_upto_region 5 with fail
 clear c1 l1 A5 ha0 xz ha2;have xC:=ar (cL.aS k.gp k.gp bz);have HB:=ar (au k2 (au k3 bz));have HC:=ar (au h (au ep (au k0 (au k1 (au iT hbh2)))));have pF:=ep.cell 0;have xu:=ep.lt;have lb3:=k3.lt;simp at pF;have Dv:∀ (fn:Fn) (first cap:Array Value) (w:World),(kZ fn first cap).run aw w= .ok (.func fn first cap) w:=fun _ _ _ _=>rfl
 have hgpl:=h.lt;have hqk:q=pU (2 * k.l.c.aM) k.l.c.buckets k.me ⟨op.kind,op.a,op.b⟩ .m1 0 g (log.drop 0):=by rw [fU.out.1,fU.out.2.1];exact HQ.out.1
 have hmps:MpS k log:=⟨by rw [fU.out.1];exact HA.out.2.1,by rw [fU.out.2.2.2.1];exact HA.out.2.2.2.2.1,by rw [fU.out.1];exact HK.out.2.2.2.1⟩
 have HMP:=ar (au hqk hmps);clear h k0 k1 k2 k3 ep iT hbh2 bz hqk hmps
 go_wp2_with fail
 have lH:=q9 (k:=k) (g:=g) (m:=0) (log:=log) q (fun val is aH g'=>q= .fin ⟨val,is,aH,g'⟩/\g'.length<=1000) 87 #[ptr jJ,ptr b0,ptr b1,ptr oW] k.gp w9 hgpl HC.out.1 (by intro w;simp [go_sem]) (fun val is aH g' hT=>hT.2)
  (fun w2 h2=>(vn op jJ b0 b1 oW Ki zd (HC.out.1.ay h2) (HC.out.2.1.ay h2) (by rw [fU.out.1];exact HC.out.2.2.1.ay h2) (HC.out.2.2.2.1.ay h2) (HC.out.2.2.2.2.1.ay h2) (HC.out.2.2.2.2.2.1.ay h2) (HC.out.2.2.2.2.2.2.ay h2) HMP.out.2 (by rw [fU.out.1];exact HK.out.2.2.1) HK.out.1 HK.out.2.1 HA.out.2.2.2.2.2 HMP.out.1 HQ.out.2).mono
   fun e w3 hh=>by
    rcases hh with ⟨a,h1,h2,h3⟩ | ⟨v,h1,⟨val,is,aH,g',m',gG,gn,gc,h2,h3,h4,h5⟩,h6⟩
    ·exact .inl ⟨a,h1,h2,h3⟩
    ·exact .inr ⟨v,h1,⟨val,is,aH,g',m',gG,gn,gc,⟨h2,h3⟩,h4,h5⟩,h6⟩)
 clear pF xu hgpl
 (with_reducible refine lH.mono ?_)
 rintro e tZ ⟨fI,aG⟩;obtain ⟨iX,iR,iQ,iW,dV,is,er,pt,rG,rn,rc,dn,rfl,gW⟩:∃ c0 c1 c2 c3 val is er pt rG rn rc dn,e=ai (.tuple #[.agg (bj c0 c1 c2 c3),.agg (br val is er pt (.slice rG rn rc)),.bool dn])/\∀ w':World,(∀ gg,bN tZ (.slice rG rn rc) gg->bN w' (.slice rG rn rc) gg)->Below w.heap.size w w'->jd l q w (ai (.tuple #[.agg (bj c0 c1 c2 c3),.agg (br val is er pt (.slice rG rn rc)),.bool dn])) w':=by
  rcases fI with ⟨x,hx,rfl⟩ | ⟨val,is,aH,g',gv,hT,rfl,jQ⟩
  ·exact ⟨_,_,_,_,_,_,_,_,_,_,_,_,rfl,fun w' _ hb=>⟨.inl ⟨x,hx,by rw [fU.out.1]⟩,hb⟩⟩
  ·obtain ⟨rG,rc,rfl,r1,r2⟩:=jQ;exact ⟨_,_,_,_,_,_,_,_,_,_,_,_,rfl,fun w' hk hb=>⟨.inr ⟨⟨val,is,aH,g'⟩,_,hT.1,rfl,hk _ ⟨rG,rc,rfl,r1,r2⟩⟩,hb⟩⟩
 have HF:=ar gW;have k2:=aG.ay HB.out.1 (by have:=HZ.out;omega) (by have:=HZ.out;omega)
 have k3:=aG.ay HB.out.2.1 (by have:=HZ.out;omega) (by have:=HZ.out;omega)
 have nM:=xC.out.trans aG;clear fI gW aG lH lb3
 go_wp2_with (first
  | (refine aK rfl 67 (.tmp 10) (.tmp 59) rfl rfl b2 (bj iX iR iQ iW) rfl rfl 67 bW k2 zK rfl (by simp [aD]) ?_)
  | (refine aK rfl 70 (.tmp 11) (.tmp 60) rfl rfl b3 (br dV is er pt (.slice rG rn rc)) rfl rfl 70 aZ (k3.a7 (b:=b2) (by have:=HZ.out;omega) (bj iX iR iQ iW)) zK rfl (by simp [aD]) ?_))
 have sX:=k3.a7 (b:=b2) (by have:=HZ.out;omega) (bj iX iR iQ iW)
 have Ag:=(k2.bL (bj iX iR iQ iW)).a7 (b:=b3) (by have:=HZ.out;omega) (br dV is er pt (.slice rG rn rc))
 have Af:=sX.bL (br dV is er pt (.slice rG rn rc));have nk:=(nM.row (b:=b2) (.inl (by rw [HW.out];have:=HZ.out;omega)) (bj iX iR iQ iW)).row (b:=b3) (.inl (by rw [HW.out];have:=HZ.out;omega)) (br dV is er pt (.slice rG rn rc))
 exact aX (v:=.tuple #[.agg (bj iX iR iQ iW),.agg (br dV is er pt (.slice rG rn rc)),.bool dn]) (eH (p:=10) (q:=11) (t:=12) (t1:=67) (t2:=70) rfl _ _ b2 b3 _ _ (0,0) (0,0) _ _ _ rfl rfl rfl Ag Af bU rfl zK aI rfl zK) rfl
  (HF.out _ (fun gg hg=>(hg.row k2 zD _).row sX zD _) (nk.part (by have:=HZ.out;rw [HW.out];omega) (by have:=HZ.out;rw [HW.out];omega) (az _)))
end Go.Proofs.YtikdaeddbkopeaaGreatR.split
namespace Go.Proofs.YtikdaeddbkopeaaGreatR.elim
open Go.RowKit
attribute [local go_sem ↓] aV aW
abbrev doV:=doG 126
abbrev df:=PcG 174 154 126
abbrev np:=D3 126
abbrev ki {β:Type}:=@im β 126
abbrev ji {β:Type}:=@Kx β 126
section
variable {β:Type} {w:World} {k:Pk} {z:Pz} {log:Log} {q:An β}
theorem uh (n:Int) (F:Ret->Pz->Log->An β) (h:df w k z log) (hs:1<=k.l.c.aM/\k.l.c.aM<=8) (hq:q=jO (2 * k.l.c.aM) k.me F (.r1 n) z (log.drop z.made)) (gq:q≠ .stuck):
  Calls aw 142 #[ptr k.gp,aa ab n] w (ki k q w fun u w'=>∃ z',u= .tuple #[]/\df w' k z' log/\q=F .un z' (log.drop z'.made)/\z.made<=z'.made):=by
 have lp:=h.lt;have Mg:=h.hd.at_ 11 _ rfl;have HN:=ar gq;clear gq;go_enter Tryz.func142,Tryz.ntmps142
 go_wp2_with fail
 (with_reducible refine (jt .era k.l.era (fun r _ l'=>eM (2 * k.l.c.aM) k.me F (Sub.stp (2 * k.l.c.aM) z (.r1 n) r) l') h rfl (hq.trans (gj _ _ _ _ _ _))).mono ?_)
 rintro e w2 (⟨a,h1,rfl,h3⟩ | ⟨v,rfl,⟨⟨x1,x2⟩,hx,rfl,eB,mP⟩,aG⟩)
 ·exact ⟨rfl,.inl ⟨a,h1,rfl,h3⟩⟩
 have fR:=ar (show q=jO (2 * k.l.c.aM) k.me F (.r2 n x1) z.got (log.drop z.got.made) from mP)
 clear h hq hx mP Mg lp
 go_upto_region 1 with fail
 refine aP (S:=fun w'=>Hd k w'/\w'.cell? ⟨k.gp,31,none⟩=some (doV k)) (E:=fun _=>false) zK ?_
 replace eB:df w2.drew k z.got log:=eB.ay (aU (Below.refl w2.heap.size w2));replace aG:=aG.drew;generalize w2.drew=w3 at *;refine wTk 10 [(0,19,ptr k.gp),(1,20,ptr k.gp),(2,21,ae (some ⟨k.gp,31,none⟩)),(3,22,doV k),(4,23,ptr k.gp),(5,24,ptr k.gp),(6,25,ptr k.gp),(7,26,ae (some ⟨k.gp,11,none⟩)),(8,27,aa ab k.l.era),(9,28,.agg #[aa ab 4,aa ab k.l.era,aa ab 0,aa ab 1])] ?_ ⟨eB.hd,Hd.fn eB⟩ ?_
 ·intro w' hS;have Mg:=hS.1.at_ 11 _ rfl;have Ba:=hS.2
  (repeat' (first | exact aC | refine au ⟨_,rfl,.inl ⟨rfl,?_⟩⟩ ?_))
  all_goals exact zG
 simp only [aR,Act.put,aj,ak,al];refine aE (i:=10) (o:=_) zK rfl (fun K hK=>?_)
 (try simp only [aq,ao,an])
 unfold doV doG;go_simp;have hd:Calls aw 126 #[.agg #[aa ab 4,aa ab k.l.era,aa ab 0,aa ab 1],ptr k.gv,ptr k.gl] w3 _:=pdo ⟨4,.era,0,1⟩ (fun r _ l'=>eM (2 * k.l.c.aM) k.me F (Sub.stp (2 * k.l.c.aM) z.got (.r2 n x1) r) l') eB (fR.out.trans (gj _ _ _ _ _ _))
 (with_reducible refine hd.mono ?_)
 rintro e w4 (⟨a,h1,rfl,h3⟩ | ⟨v,rfl,⟨⟨y1,y2⟩,hy,rfl,fT,mJ⟩,lV⟩)
 ·exact ⟨rfl,.inl ⟨a,h1,rfl,aG.trans h3⟩⟩
 replace aG:=aG.trans lV;refine hK.out _ _ (fun _=>⟨fT.hd,Hd.fn fT⟩) ?_
 clear hK K eB lV hy fR
 (try simp only [Act.put,aj,ak,al])
 refine aN zK ?_ _
 by_cases jl:(z.gone.length:Int)+1 < 2 * k.l.c.aM
 ·have pq:q=F .un { z.got.got with gone:=z.gone++[(n,x1)] } (log.drop z.got.got.made):=by
   rw [mJ];show eM _ k.me F (if (z.gone.length:Int)+1 < 2 * k.l.c.aM then _ else _) _=_
   rw [if_pos jl];rfl
  have gK:=ar (au pq jl);have oe:z.gone.length<=1000:=zO;clear mJ pq;obtain ⟨gv,jI,hG,-⟩:=nC fT;replace hG:GnV w4 k.gp gv z.gone:=hG;have lp:=fT.lt;have HP:=ar (au fT aG);clear hd fT aG
  go_upto_region 2 with fail
  go_wp2_with fail
  (with_reducible refine (hG.clone oe).mono ?_)
  rintro e w5 ⟨G1,m1,c1,rfl,rfl,sM,bn,hb⟩;have zb:=hb.size;obtain ⟨t0,pP,jG,mw,mI⟩:=xE pa;have kr:=Bk.made w5 52 #[aa ab n,aa ab x1];have vy:=aB (Below.refl w5.heap.size w5) (ag #[aa ab n,aa ab x1] 52);have kE:=jD (show World.ownsRow w5 w4.heap.size 52 2 (.slice G1 z.gone.length c1) z.gone.length (cN z.gone) from bn) vy
  have fz:=aF hb vy;have jI:=(HP.out.1.ay fz).lt;have zs6:w4.heap.size<=(w5.alloc (ag #[aa ab n,aa ab x1] 52)).heap.size:=fz.size;clear jI hG bn
  go_upto_region 3 with (at_builtin;go_must (refine cM _ rfl (.tmp 35) (.tmp 39) _ rfl w4.heap.size 52 t0 _ 2 16 Tryz.underlying44 pP jG mw mI rfl zO (.slice G1 z.gone.length c1) z.gone.length (cN z.gone) rfl kE ⟨w5.heap.size,0,none⟩ 1 1 [aa ab n,aa ab x1] rfl rfl (fun j u hu=>by rw [fV,eE,kr.cell j];simpa using hu) (by simp [aD]) (by simp only [nu];omega) zO zP ?_;intro v9 w7 hrow7 hgrow7 _ _;have jc:=bY fz kE hgrow7 zs6 (az _);obtain ⟨gv7,q26,_,f26⟩:=nC (HP.out.1.ay jc);have l26:=(HP.out.1.ay jc).lt;obtain ⟨G9,c9,rfl⟩:=cj hrow7))
  have wy:iq w7 w4.heap.size (.slice G9 (z.gone.length+1) c9) (z.gone++[(n,x1)]):=by
   unfold iq;rw [ju,cJ];exact hrow7
  have hG7:GnV w7 k.gp (.slice G9 (z.gone.length+1) c9) (z.gone++[(n,x1)]):=Bw wy zS lp;have Ei:=(HP.out.1.ay jc).BU hG7;have yM:=(HP.out.2.trans (Stp.aS _ jc)).trans (Stp.set w7 k.gp 26 (.slice G9 (z.gone.length+1) c9));have jI:(w7.setCell ⟨k.gp,26,none⟩ (.slice G9 (z.gone.length+1) c9)).cell? ⟨k.gp,26,none⟩=some (.slice G9 (z.gone.length+1) c9):=by
   obtain ⟨gv,e0,e1,e2,kp,-,-⟩:=(HP.out.1.ay jc).kp;have:=(kp.stored 26 (.slice G9 (z.gone.length+1) c9)).cell 26
   simpa using this
  clear hrow7 wy hG7 hgrow7 jc fz hb vy kE kr q26 f26 l26 HP zb zs6 lp;generalize w7.setCell ⟨k.gp,26,none⟩ (.slice G9 (z.gone.length+1) c9)=w8 at *;refine aP (S:=fun w'=>Hd k w'/\w'.cell? ⟨k.gp,26,none⟩=some (.slice G9 (z.gone.length+1) c9)) (E:=fun _=>false) zK ?_
  replace Ei:=Ei.ay (aU (Below.refl w8.heap.size w8));replace yM:=yM.drew;replace jI:w8.drew.cell? ⟨k.gp,26,none⟩=some (.slice G9 (z.gone.length+1) c9):=jI;generalize w8.drew=w9 at *;refine wTk 13 [(0,43,ptr k.gp),(1,44,ptr k.gp),(2,45,ae (some ⟨k.gp,26,none⟩)),(3,46,.slice G9 (z.gone.length+1) c9),(4,47,aa ab ((z.gone.length+1:Nat):Int)),(5,48,ptr k.gp),(6,49,ptr k.gp),(7,50,ptr k.gp),(8,51,ptr k.gp),(9,52,ptr k.gp),(10,53,aa ab k.l.c.aM),(11,54,aa ab (2 * k.l.c.aM)),(12,55,ah true)] ?_ ⟨Ei.hd,jI⟩ ?_
  ·intro w' hS;have c0:=hS.1.at_ 0 _ rfl;have jI:=hS.2;have hw1:IntKind.i64.wrap (2 * k.l.c.aM)=2 * k.l.c.aM:=cV _ zO;have hw2:decide (((z.gone.length+1:Nat):Int) < 2 * k.l.c.aM)=true:=by simp;omega
   have hw3:(z.gone.length:Int)+1 < 2 * k.l.c.aM:=jl
   (repeat' (first | exact aC | refine au ⟨_,rfl,.inl ⟨rfl,?_⟩⟩ ?_))
   all_goals exact zG
  simp only [aR,Act.put,aj,ak,al];refine aN zK ?_ _
  go_wp2_with fail
  exact aX (v:=.tuple #[]) (dY rfl _ _ _) rfl (.inr ⟨_,rfl,⟨_,rfl,Ei,gK.out.1,by show z.made<=z.made+1+1;omega⟩,yM⟩)
 ·exact absurd (by rw [mJ];show eM _ k.me F (if (z.gone.length:Int)+1 < 2 * k.l.c.aM then _ else _) _=_;rw [if_neg jl];rfl) HN.out
end
def lA (w:World) (l:Ly) (me:Nat) (A:Option Addr) (cap:Nat):Pk:=⟨l,me,A,cap,w.heap.size,w.heap.size+1+1,w.heap.size+1+1+1,w.heap.size+1⟩
abbrev pcZ (l:Ly) (me:Nat) (gv:Value):Array Value:=#[aa ab l.c.aM,aa ab l.c.nodes,aa ab l.c.buckets,aa ab l.c.slots,aa ab l.c.tasks,aa ab l.c.cells,aa ab l.c.maps,aa ab l.c.stacks,aa ab l.c.chans,aa ab l.done,aa ab l.count,aa ab l.era,aa ab l.free,aa ab l.alive,aa ab l.owner,aa ab l.resv,aa ab l.deque,aa ab l.ring,aa ab l.task,aa ab l.cell,aa ab l.map,aa ab l.stack,aa ab l.chan,aa ab l.node,aa ab l.size,aa ab me,gv,aa ab 0,aa ab 0,aa ab 0,aa ab 0,.nilFunc]
theorem yA (l:Ly) (me:Nat) (gv:Value) (g:cG) (A:Option Addr) (cap:Nat) (log:Log) (w:World) (f:dU l) (hg:bN w gv g) (hs:hH w w.heap.size A log) (hl:log.length<=100000):
  Calls aw 93 #[lyV l,aa ab me,gv,.slice A log.length cap] w fun e w'=>e=ai (ptr (w.heap.size+1+1))/\df w' (lA w l me A cap) ⟨[0,0,0],g,0⟩ log/\Below w.heap.size w w':=by
 obtain ⟨G,gc,rfl,hN,qP⟩:=hg;obtain ⟨gv,hgv⟩:∃ v,v=Value.slice G g.length gc:=⟨_,rfl⟩;have HG:=ar (show bN w (.slice G g.length gc) g from ⟨G,gc,rfl,hN,qP⟩)
 have HS:=ar hs;have k1:=((Bk.new (w.alloc (ag (lyC l) 34)) (g:=w.heap.size+1) zS 43 #[.slice A log.length cap]).alloc (ag (pcZ l me (.slice G g.length gc)) 174)).alloc (ag #[ptr (w.heap.size+1+1)] 154);have k2:=(Bk.new ((w.alloc (ag (lyC l) 34)).alloc (ag #[.slice A log.length cap] 43)) (g:=w.heap.size+1+1) zS 174 (pcZ l me (.slice G g.length gc))).alloc (ag #[ptr (w.heap.size+1+1)] 154);have k3:=Bk.new (((w.alloc (ag (lyC l) 34)).alloc (ag #[.slice A log.length cap] 43)).alloc (ag (pcZ l me (.slice G g.length gc)) 174)) (g:=w.heap.size+1+1+1) zS 154 #[ptr (w.heap.size+1+1)];have bz:=aB (aB (aB (aB (Below.refl w.heap.size w) (ag (lyC l) 34)) (ag #[.slice A log.length cap] 43)) (ag (pcZ l me (.slice G g.length gc)) 174)) (ag #[ptr (w.heap.size+1+1)] 154);have k0:=(Bk.made w 34 (lyC l)).alloc (ag #[.slice A log.length cap] 43);clear hN qP hs hgv gv;have Dv:∀ (fn:Fn) (first cap:Array Value) (w:World),(kZ fn first cap).run aw w= .ok (.func fn first cap) w:=fun _ _ _ _=>rfl
 go_enter Tryz.func93,Tryz.ntmps93
 go_upto_region 2 with (refine aL rfl 34 (.tmp 4) rfl w.heap.size rfl 34 (lyC l) (0,0) _ k0 aJ rfl zK ?_)
 generalize ((((w.alloc (ag (lyC l) 34)).alloc (ag #[.slice A log.length cap] 43)).alloc (ag (pcZ l me (.slice G g.length gc)) 174)).alloc (ag #[ptr (w.heap.size+1+1)] 154))=w4 at *;clear k0;obtain ⟨b1,h1⟩:∃ x,w.heap.size+1=x:=⟨_,rfl⟩;obtain ⟨b2,h2⟩:∃ x,b1+1=x:=⟨_,rfl⟩;obtain ⟨b3,h3⟩:∃ x,b2+1=x:=⟨_,rfl⟩;rw [h1] at k1;rw [h1,h2] at k2;rw [h1,h2,h3] at k3 ⊢;have z1:w.heap.size < b1:=zO;have z2:b1 < b2:=zO;have z3:b2 < b3:=zO;have c3:=k3.cell 0;have Ba:=k2.cell 31;have f31:=k2.free 31;have l2:=k2.lt;simp at c3 Ba
 go_upto_region 3 with fail
 clear Ba f31 l2 c3;replace k1:=k1.other (p:=⟨b2,31,none⟩) (by dsimp only;omega) (.func (.func 126) #[] #[ptr b3,ptr b1])
 replace k3:=k3.other (p:=⟨b2,31,none⟩) (by dsimp only;omega) (.func (.func 126) #[] #[ptr b3,ptr b1])
 replace bz:=bK bz (p:=⟨b2,31,none⟩) (by dsimp only;omega) (.func (.func 126) #[] #[ptr b3,ptr b1])
 replace k2:Bk (w4.setCell ⟨b2,31,none⟩ (.func (.func 126) #[] #[ptr b3,ptr b1])) b2 174 #[aa ab l.c.aM,aa ab l.c.nodes,aa ab l.c.buckets,aa ab l.c.slots,aa ab l.c.tasks,aa ab l.c.cells,aa ab l.c.maps,aa ab l.c.stacks,aa ab l.c.chans,aa ab l.done,aa ab l.count,aa ab l.era,aa ab l.free,aa ab l.alive,aa ab l.owner,aa ab l.resv,aa ab l.deque,aa ab l.ring,aa ab l.task,aa ab l.cell,aa ab l.map,aa ab l.stack,aa ab l.chan,aa ab l.node,aa ab l.size,aa ab me,.slice G g.length gc,aa ab 0,aa ab 0,aa ab 0,aa ab 0,.func (.func 126) #[] #[ptr b3,ptr b1]]:=k2.stored 31 (.func (.func 126) #[] #[ptr b3,ptr b1]);generalize w4.setCell ⟨b2,31,none⟩ (.func (.func 126) #[] #[ptr b3,ptr b1])=w6 at *;have c3:=k3.cell 0;simp at c3
 go_wp2_with fail
 go_ret
 subst h3 h2 h1;refine ⟨rfl,⟨⟨_,0,0,0,k2,(HG.out.gnV (gp:=w.heap.size+1+1) zO).ay bz,rfl⟩,k3,k1,HS.out.below bz,⟨by unfold lA;dsimp only;omega,by unfold lA;dsimp only;omega⟩,by unfold lA;dsimp only;omega,hl,aY _,f⟩,bz⟩
theorem jz (l:Ly) (x:LAc) (ga g7 go gb:Nat) (w:World) (ka:Bk w ga 67 bW):
  CallsD aw 128 #[ptr ga,ptr g7,ptr go,ptr gb] (.panicking [{ v:=np l x,recovered:=false }]) w fun e u' w'=>
   e=ai (.tuple #[])/\u'= .panicking [{ v:=np l x,recovered:=true }]/\Bk w' ga 67 (bj x.k (adr l x.c) x.o x.v)/\Stp ga w w':=by
 obtain ⟨k,c,o,v⟩:=x;generalize Ka:adr l c=ci;have e0:np l ⟨k,c,o,v⟩= .iface 176 (.agg (bj k ci o v)):=by unfold np D3;rw [Ka];(try rfl)
 rw [e0];clear e0 Ka;refine callsD_of_wpS Tryz.func128 rfl fun c₀ cs hu=>?_
 apply wpS_seq;apply wpS_region;simp [wpOpsS,go_sem,recoverD,hu,Tryz.ntmps128,Exit.thenS];refine wpS_of_wp ?_;have hn:∀ w:World,(binOp .eql 20 (.iface 176 (.agg (bj k ci o v))) .nilIface).run aw w= .ok (ah false) w:=fun _=>by kernel_rfl
 have heq:∀ w:World,(eqGuard .eql 20 (.tmp 7) (.const .nilIface) (.iface 176 (.agg (bj k ci o v))) .nilIface).run aw w= .ok () w:=fun _=>by kernel_rfl
 have rp:(#[ptr ga,ptr g7,ptr go,ptr gb]++(Array.replicate 19 undef).setIfInBounds 3 (.iface 176 (.agg (bj k ci o v))))=#[ptr ga,ptr g7,ptr go,ptr gb,undef,undef,undef,.iface 176 (.agg (bj k ci o v)),undef,undef,undef,undef,undef,undef,undef,undef,undef,undef,undef,undef,undef,undef,undef]:=zK;rw [rp];clear rp;have hta:∀ w:World,(Instr.typeAssert (.iface 176 (.agg (bj k ci o v))) 20 176 true).run aw w= .ok (.tuple #[.agg (bj k ci o v),ah true]) w:=fun _=>by kernel_rfl
 have l0:=ka.lt;have kx:=Bk.made w 176 (bj k ci o v);have NF:=ka.alloc (ag (bj k ci o v) 176);have aG:Stp ga w (w.alloc (ag (bj k ci o v) 176)):=(Stp.refl ga w).alloc _
 go_wp2_with (first
  | (refine dJ rfl 176 (.tmp 5) (.tmp 20) rfl rfl w.heap.size _ _ (bj k ci o v) rfl rfl rfl rfl zK rfl (by simp [aD]) ?_)
  | (refine aL rfl 67 (.tmp 21) rfl w.heap.size rfl 176 (bj k ci o v) (0,0) _ kx bU rfl zK ?_)
  | (refine aK rfl 67 (.tmp 0) (.tmp 22) rfl rfl ga (bj k ci o v) rfl rfl 67 bW NF zK rfl (by simp [aD]) ?_))
 have h1:Bk ((w.alloc (ag (bj k ci o v) 176)).setRow ga (bj k ci o v)) ga 67 (bj k ci o v):=Cm _ _ bW (bj k ci o v) 67 (0,0) NF;have h2:Stp ga w ((w.alloc (ag (bj k ci o v) 176)).setRow ga (bj k ci o v)):=
  ⟨aG.os,aG.tape,aG.output,by simp [World.setRow],fun b hb hn=>(setRow_other _ ga b _ hn).trans (aG.block b hb hn)⟩
 exact ⟨rfl,_,rfl,_,dY rfl _ _ _,rfl,rfl,h1,h2⟩
theorem j9 (ga g7 go gb:Nat) (w:World):
  CallsD aw 128 #[ptr ga,ptr g7,ptr go,ptr gb] .returning w fun e u' w'=>e=ai (.tuple #[])/\u'= .returning/\w'=w:=by
 refine callsD_of_wpS Tryz.func128 rfl fun c₀ cs hu=>?_
 apply wpS_seq;apply wpS_region;simp [wpOpsS,go_sem,recoverD,hu,Tryz.ntmps128,Exit.thenS];refine wpS_of_wp ?_;have hn:∀ w:World,(binOp .eql 20 .nilIface .nilIface).run aw w= .ok (ah true) w:=fun _=>by kernel_rfl
 have heq:∀ w:World,(eqGuard .eql 20 (.tmp 7) (.const .nilIface) .nilIface .nilIface).run aw w= .ok () w:=fun _=>by kernel_rfl
 have rp:(#[ptr ga,ptr g7,ptr go,ptr gb]++(Array.replicate 19 undef).setIfInBounds 3 .nilIface)=#[ptr ga,ptr g7,ptr go,ptr gb,undef,undef,undef,.nilIface,undef,undef,undef,undef,undef,undef,undef,undef,undef,undef,undef,undef,undef,undef,undef]:=zK;rw [rp];clear rp
 go_wp2
 cases c₀
 simp only at hu;subst hu;exact ⟨rfl,_,rfl,_,dY rfl _ _ _,rfl,rfl,rfl⟩
def tO {β:Type} (l:Ly) (q:An β) (T:Int->Bool->Int->Pz->Prop) (gp bm:Nat) (w:World) (e:lb) (w':World):Prop:=
 ((∃ a,q= .ask a/\e=ai (.tuple #[.agg (bj a.k (adr l a.c) a.o a.v),.agg aZ,ah false]))\/
  (∃ val is aH z' gv,T val is aH z'/\e=ai (.tuple #[.agg bW,.agg (br val is 0 aH gv),ah true])/\bN w' gv z'.gone))/\cL gp bm w w'
theorem q9 {β:Type} {k:Pk} {z:Pz} {log:Log} (q:An β) (T:Int->Bool->Int->Pz->Prop) (BV:Nat) (qg:Array Value) (bm:Nat) (w:World) (hbm:bm < w.heap.size) (h:df w k z log) (hcf:∀ w:World,(callFunc BV qg).run aw w= .ok (.enter BV qg) w)
  (hT:∀ val is aH z',T val is aH z'->z'.gone.length<=1000)
  (hc:∀ w2,Below w.heap.size w w2->Calls aw BV qg w2 (ji k bm q w2 fun v w3=>∃ val is aH z',T val is aH z'/\v= .agg (bu val is 0 aH)/\df w3 k z' log)):
  Calls aw 95 #[ptr k.gp,.func (.func BV) #[] qg] w (tO k.l q T k.gp bm w):=by
 have k0:=(((Bk.made w 154 #[ptr k.gp]).alloc (ag bW 67)).alloc (ag aZ 70)).alloc (ag #[ah false] 4);have k1:=((Bk.new (w.alloc (ag #[ptr k.gp] 154)) (g:=w.heap.size+1) zS 67 bW).alloc (ag aZ 70)).alloc (ag #[ah false] 4);have k2:=(Bk.new ((w.alloc (ag #[ptr k.gp] 154)).alloc (ag bW 67)) (g:=w.heap.size+1+1) zS 70 aZ).alloc (ag #[ah false] 4);have k3:=Bk.new (((w.alloc (ag #[ptr k.gp] 154)).alloc (ag bW 67)).alloc (ag aZ 70)) (g:=w.heap.size+1+1+1) zS 4 #[ah false];have bz:=aB (aB (aB (aB (Below.refl w.heap.size w) (ag #[ptr k.gp] 154)) (ag bW 67)) (ag aZ 70)) (ag #[ah false] 4);have zp:=h.lt;have zv:=h.kv.lt;have zl:=h.kl.lt;have HH:=ar h;have HT:=ar hT;have HC:=ar hc;clear h hT hc;have Dv:∀ (fn:Fn) (first cap:Array Value) (w:World),(kZ fn first cap).run aw w= .ok (.func fn first cap) w:=fun _ _ _ _=>rfl
 go_enter_defers Tryz.func95,Tryz.ntmps95
 go_upto_region 2 with fail
 generalize ((((w.alloc (ag #[ptr k.gp] 154)).alloc (ag bW 67)).alloc (ag aZ 70)).alloc (ag #[ah false] 4))=w4 at *;obtain ⟨b0,h0⟩:∃ x,w.heap.size=x:=⟨_,rfl⟩;have HW:=ar h0;rw [h0] at k0 k1 k2 k3 bz zp zv zl hbm ⊢;clear h0;obtain ⟨b1,h1⟩:∃ x,b0+1=x:=⟨_,rfl⟩;obtain ⟨b2,h2⟩:∃ x,b1+1=x:=⟨_,rfl⟩;obtain ⟨b3,h3⟩:∃ x,b2+1=x:=⟨_,rfl⟩;rw [h1] at k1;rw [h1,h2] at k2;rw [h1,h2,h3] at k3 ⊢;have z1:b0 < b1:=zO;have z2:b1 < b2:=zO;have z3:b2 < b3:=zO;clear h1 h2 h3;have y0:=k0.lt;have y1:=k1.lt;have y2:=k2.lt;have y3:=k3.lt
 go_wp2_with fail
 (with_reducible refine (HC.out w4 (by rw [HW.out];exact bz)).mono ?_)
 rintro e w5 (⟨a,hq,rfl,hs⟩ | ⟨v,rfl,⟨val,is,aH,z',hT,rfl,hp⟩,hs⟩)
 ·have HQ:=ar hq;clear hq;replace k1:=hs.ay k1 zO zO;replace k2:=hs.ay k2 zO zO;replace k3:=hs.ay k3 zO zO;have fa:=(cL.aS k.gp bm (by rw [HW.out];exact bz:Below w.heap.size w w4)).trans hs
  refine leaves_cons (f:=128) (args:=#[ptr b1,ptr b0,ptr b2,ptr b3]) zS (by simp [go_sem]) ?_
  refine (jz k.l a b1 b0 b2 b3 _ k1).mono ?_;rintro e u' w6 ⟨rfl,rfl,ka,dB⟩;replace k2:=dB.ay k2 zO;replace k3:=dB.ay k3 zO;refine ⟨_,iH (p:=4) (q:=5) (t:=6) (t1:=67) (t2:=70) (t3:=4) rfl _ _ b1 b2 b3 (bj a.k (adr k.l a.c) a.o a.v) aZ (0,0) (0,0) _ _ _ rfl rfl rfl ka k2 bU rfl zK aI rfl zK (ky _ b3 false k3),?_⟩;refine ⟨.inl ⟨a,HQ.out,rfl⟩,?_⟩;exact ⟨dB.os.trans fa.os,dB.tape.trans fa.tape,dB.output.trans fa.output,aQ fa.size dB.size,fun b hb hn uL=>(dB.block b (bg hb fa.size) (by rw [HW.out] at hb;omega)).trans (fa.block b hb hn uL)⟩
 ·have HP:=ar (au hT hp);have hg:=HT.out _ _ _ _ hT;obtain ⟨gv,e0,e1,e2,kp,kg,-⟩:=hp.kp;clear hT hp;replace k0:=hs.ay k0 zO zO;replace k1:=hs.ay k1 zO zO;replace k2:=hs.ay k2 zO zO;replace k3:=hs.ay k3 zO zO;have fa:=(cL.aS k.gp bm (by rw [HW.out];exact bz:Below w.heap.size w w4)).trans hs
  clear hs bz;obtain ⟨v,hv⟩:∃ v,v=Value.agg (bu val is 0 aH):=⟨_,rfl⟩
  go_upto_region 3 with (refine aK rfl 70 (.tmp 5) (.tmp 9) rfl rfl b2 (bu val is 0 aH) rfl rfl 70 aZ k2 zK rfl (by simp [aD]) ?_)
  clear hv v;have NC:=kg.row k2 zD (bu val is 0 aH);replace kp:=Bk.a7 kp (b:=b2) zO (bu val is 0 aH);replace k0:=k0.a7 (b:=b2) zO (bu val is 0 aH);replace k1:=k1.a7 (b:=b2) zO (bu val is 0 aH);replace k3:=k3.a7 (b:=b2) zO (bu val is 0 aH);replace k2:=k2.bL (bu val is 0 aH);replace fa:=fa.row (b:=b2) (.inl (by rw [HW.out];omega)) (bu val is 0 aH)
  clear kg;generalize w5.setRow b2 (bu val is 0 aH)=w6 at *;have c0:=k0.cell 0;have jI:=Bk.cell kp 26;simp at c0 jI;have lp6:=Bk.lt kp
  go_wp2_with fail
  (with_reducible refine (GnV.clone NC hg).mono ?_)
  rintro e w7 ⟨G,n,c,rfl,hn,yU,bn,hb⟩;subst hn;have HG:=ar (show bN w7 (.slice G z'.gone.length c) z'.gone from ⟨G,c,rfl,yU,nK bn rfl⟩)
  replace kp:=Bk.ay kp hb;replace k0:=Bk.ay k0 hb;replace k1:=Bk.ay k1 hb;replace k2:=Bk.ay k2 hb;replace k3:=Bk.ay k3 hb;replace fa:=fa.trans (.aS k.gp bm hb);clear hb c0 jI NC bn yU lp6;have q4:=k2.cell 4;have f4:=k2.free 4;have l4:=k2.lt;simp at q4
  go_upto_region 4 with fail
  clear q4 f4 l4;have qt:=HG.out.cell k2 zD 4 (.slice G z'.gone.length c);replace k2:Bk (w7.setCell ⟨b2,4,none⟩ (.slice G z'.gone.length c)) b2 70 (br val is 0 aH (.slice G z'.gone.length c)):=k2.stored 4 (.slice G z'.gone.length c);replace k1:=k1.other (p:=⟨b2,4,none⟩) (by dsimp only;omega) (.slice G z'.gone.length c)
  replace k3:=k3.other (p:=⟨b2,4,none⟩) (by dsimp only;omega) (.slice G z'.gone.length c)
  replace fa:=fa.cell (p:=⟨b2,4,none⟩) (.inl (by rw [HW.out];dsimp only;omega)) (.slice G z'.gone.length c)
  clear HG kp k0;obtain ⟨gv2,hgv2⟩:∃ v,v=Value.slice G z'.gone.length c:=⟨_,rfl⟩;generalize w7.setCell ⟨b2,4,none⟩ (.slice G z'.gone.length c)=Co at *;refine wp_region_held_drew (S:=fun w'=>Bk w' b2 70 (br val is 0 aH (.slice G z'.gone.length c))) zK k2.drew (fun uu=>?_)
  clear uu;replace k1:=k1.drew;replace k2:=k2.drew;replace k3:=k3.drew;replace fa:=fa.drew;replace qt:bN Co.drew (.slice G z'.gone.length c) z'.gone:=qt;generalize Co.drew=w17 at *;have lJ:∀ (d:Nat),d≠4/\d≠5/\d≠6->∀ (v:Value) {R:lb->World->Prop} {K:Act->World->Prop} {c:List PanicEntry} {a:Act} {w:World},Exit.then K (bodyPostD aw Tryz.f95 R) (Exit.panic c) (a.put (some d) v) w->Exit.then K (bodyPostD aw Tryz.f95 R) (Exit.panic c) a w:=fun d hd v _ _ _ _ _ h=>uj (p:=4) (q:=5) (t:=6) (t1:=67) (t2:=70) (t3:=4) Tryz.results95 hd h
  refine wpAnyH_take (i:=0) (oi:=_) (v:=.agg bW) rfl zK zK zK (fun _ _ _ h=>lJ 16 zO _ h) (jL ⟨by rfl,?_⟩) k2 ?_
  ·intro w' hSw
   (try simp only [aq,an])
   go_simp
  (try simp only [aq,an,Act.put,aj,ak,al])
  refine wpAnyH_take (i:=1) (oi:=_) (v:=.agg (br val is 0 aH (.slice G z'.gone.length c))) rfl zK zK zK (fun _ _ _ h=>lJ 17 zO _ h) (jL ⟨by rfl,?_⟩) k2 ?_
  ·intro w' hSw
   (try simp only [aq,ao,an])
   simp only [Av,Instr.loadAt,xG,di,dx];rw [show (Act.eval _ (Operand.tmp 5))=Value.pointer (some ⟨b2,0,none⟩) from rfl]
   simp only [dx,bQ,be w' b2 70 70 (br val is 0 aH (.slice G z'.gone.length c)) (0,0) _ hSw aI rfl zK]
  (try simp only [aq,ao,an,Act.put,aj,ak,al])
  refine qw (rs:=[2]) zK zS ?_;refine AllReadyH.cons (o:=_) rfl (fun K hK=>?_) AllReadyH.nil
  rw [if_pos (by rfl)]
  refine dH 67 (.tmp 4) (.tmp 16) rfl b1 bW rfl rfl 67 bW k1 zK rfl (by simp [aD]) ?_
  replace qt:=qt.row k1 zD bW;replace k2:=k2.a7 (b:=b1) zO bW;replace k3:=k3.a7 (b:=b1) zO bW;replace k1:=k1.bL bW;replace fa:=fa.row (b:=b1) (.inl (by rw [HW.out];omega)) bW
  refine hK.out _ _ k2 (fun ru=>?_)
  clear ru hK K
  (try simp only [aq,ao,an,Act.put])
  generalize w17.setRow b1 bW=Mi at *;refine qw (rs:=[3]) zK zS ?_;refine AllReadyH.cons (o:=_) rfl (fun K hK=>?_) AllReadyH.nil
  rw [if_pos (by rfl)]
  refine dH 70 (.tmp 5) (.tmp 17) rfl b2 (br val is 0 aH (.slice G z'.gone.length c)) rfl rfl 70 (br val is 0 aH (.slice G z'.gone.length c)) k2 zK rfl (by simp [aD]) ?_
  replace qt:=qt.row k2 zD (br val is 0 aH (.slice G z'.gone.length c));replace k1:=k1.a7 (b:=b2) zO (br val is 0 aH (.slice G z'.gone.length c));replace k3:=k3.a7 (b:=b2) zO (br val is 0 aH (.slice G z'.gone.length c));replace k2:=k2.bL (br val is 0 aH (.slice G z'.gone.length c));replace fa:=fa.row (b:=b2) (.inl (by rw [HW.out];omega)) (br val is 0 aH (.slice G z'.gone.length c))
  refine hK.out _ _ k2 (fun ru=>?_)
  clear ru hK K
  (try simp only [aq,ao,an,Act.put])
  generalize Mi.setRow b2 (br val is 0 aH (.slice G z'.gone.length c))=JM at *;have q6:=k3.cell 0;have f6:=k3.free 0;have l6:=k3.lt;simp at q6;refine qw (rs:=[4]) zK zS ?_;refine AllReadyH.cons (o:=_) rfl (fun K hK=>?_) AllReadyH.nil
  (try simp only [aq,ao,an])
  go_simp;clear q6 f6 l6;replace qt:=qt.cell k3 zD 0 (ah true);replace k3:Bk (JM.setCell ⟨b3,0,none⟩ (ah true)) b3 4 #[ah true]:=k3.stored 0 (ah true);replace k1:=k1.other (p:=⟨b3,0,none⟩) (by dsimp only;omega) (ah true)
  replace k2:=k2.other (p:=⟨b3,0,none⟩) (by dsimp only;omega) (ah true)
  replace fa:=fa.cell (p:=⟨b3,0,none⟩) (.inl (by rw [HW.out];dsimp only;omega)) (ah true)
  refine hK.out _ _ k2 (fun ru=>?_)
  clear ru hK K
  (try simp only [aq,ao,an,Act.put,aj,ak,al])
  generalize JM.setCell ⟨b3,0,none⟩ (ah true)=w20 at *;refine wpAnyH_done zK ?_ _
  go_wp2
  refine leaves_cons (f:=128) (args:=#[ptr b1,ptr b0,ptr b2,ptr b3]) zS (by simp [go_sem]) ?_
  refine (j9 b1 b0 b2 b3 _).mono ?_;rintro e u' w21 ⟨rfl,rfl,rfl⟩;refine ⟨_,iH (p:=4) (q:=5) (t:=6) (t1:=67) (t2:=70) (t3:=4) rfl _ _ b1 b2 b3 bW (br val is 0 aH (.slice G z'.gone.length c)) (0,0) (0,0) _ _ _ rfl rfl rfl k1 k2 bU rfl zK aI rfl zK (ky _ b3 true k3),?_⟩;exact ⟨.inr ⟨val,is,aH,z',_,HP.out.1,rfl,qt⟩,fa⟩
theorem iI (th me a:Int) (x:EPh) (z:Pz) (l:Log):iZ th me a x z l=doR (x.acc me a) z (fun r _ l'=>fE th me a (x.stp th a z r) l') l:=by
 cases l with
 | nil=>rfl
 | cons r l=>exact vc th me a x z r l
section
variable {w:World} {k:Pk} {z:Pz} {log:Log} {q:An Out}
theorem CJ (th a n:Int) (h:df w k z log) (hn:n<=9223372036854775807) (hq:q=iZ th k.me a (.u2 n) z (log.drop z.made)):
  Calls aw 132 #[ptr k.gp,aa ab (eW k.l 0),aa ab n] w (ki k q w fun u w'=>∃ (b:Bool) (z':Pz),u= .bool b/\df w' k z' log/\z.made < z'.made/\
   (b=true->q= .fin ⟨0,true,((z'.made - 1:Nat):Int),z'.gone⟩)/\(b=false->q=iZ th k.me a (.u5 n) z' (log.drop z'.made))):=by
 have HP:=ar h;have HQ:=ar hq;have lp:=h.lt;clear hq;go_enter Tryz.func132,Tryz.ntmps132
 go_wp2_with fail
 (with_reducible refine (jt .top (eW k.l 0) (fun r _ l'=>fE th k.me a (EPh.stp th a z (.u2 n) r) l') h rfl (HQ.out.trans (iI _ _ _ _ _ _))).mono ?_)
 rintro e w1 (⟨x,h1,rfl,h3⟩ | ⟨v,rfl,⟨⟨x1,x2⟩,hx,rfl,hp,ei⟩,aG⟩)
 ·exact ⟨rfl,.inl ⟨x,h1,rfl,h3⟩⟩
 have lh:=ar (show q=iZ th k.me a (.u3 n x1) z.got (log.drop z.got.made) from ei)
 clear h hx ei HQ HP lp
 go_wp2_with fail
 (with_reducible refine (gV x1 _).mono ?_)
 rintro e w3 ⟨rfl,hb⟩;replace hp:=hp.ay hb;replace aG:=aG.trans (Stp.aS _ hb);clear hb;obtain ⟨ix,jZ⟩:∃ z,x1 % 65536=z:=⟨_,rfl⟩;obtain ⟨mk,mU⟩:∃ b,(x1 / 65536 % 2==1)=b:=⟨_,rfl⟩;obtain ⟨ct,xb⟩:∃ z,x1 / 131072 % 268435456=z:=⟨_,rfl⟩;rw [jZ,mU,xb];have lj:=ar (au jZ xb);clear jZ mU xb
 go_upto_region 3 with fail
 have kr:=Bk.made w3 81 #[aa ab ix,.bool mk,aa ab ct];have zg3:=hp.lt;replace hp:=hp.ay (aB (Below.refl _ _) (ag #[aa ab ix,.bool mk,aa ab ct] 81));replace aG:=aG.alloc (ag #[aa ab ix,.bool mk,aa ab ct] 81);generalize w3.alloc (ag #[aa ab ix,.bool mk,aa ab ct] 81)=w4 at *;generalize w3.heap.size=gr at *;have dF:gr≠k.gp:=zO;refine aP (S:=fun w'=>Hd k w'/\Bk w' gr 81 #[aa ab ix,.bool mk,aa ab ct]) (E:=fun _=>false) zK ?_
 replace hp:df w4.drew k z.got log:=hp.ay (aU (Below.refl w4.heap.size w4));replace aG:=aG.drew;replace kr:=kr.drew;generalize w4.drew=w5 at *;refine wTk 5 [(0,14,ptr k.gp),(1,15,ptr k.gp),(2,16,aa ab n),(4,18,ae (some ⟨gr,0,none⟩)),(5,19,aa ab ix)] ?_ ⟨hp.hd,kr⟩ ?_
 ·intro w' hS;have r0:=hS.2.cell 0;simp at r0
  (repeat' (first | exact aC | refine au ⟨_,rfl,.inl ⟨rfl,?_⟩⟩ ?_))
  all_goals exact zG
 simp only [aR,Act.put,aj,ak,al];refine aE (i:=3) (o:=_) zK rfl (fun K hK=>?_)
 (try simp only [aq,ao,an])
 go_simp
 (with_reducible refine (gY n 0 hp hn).mono ?_)
 rintro e w6 ⟨rfl,hb⟩;replace hp:=hp.ay hb;replace kr:=kr.ay hb;replace aG:=aG.trans (Stp.aS _ hb);refine hK.out _ _ (fun _=>⟨hp.hd,kr⟩) ?_
 clear hK K hb
 (try simp only [Act.put,aj,ak,al])
 refine aE (i:=6) (o:=_) zK rfl (fun K hK=>?_)
 (try simp only [aq,ao,an])
 go_simp;have oV:q=doR ⟨2,.nd n 0,0,ix⟩ z.got (fun r _ l'=>fE th k.me a (EPh.stp th a z.got (.u3 n x1) r) l') (log.drop z.got.made):=by
  have:=lh.out.trans (iI _ _ _ _ _ _)
  rwa [show (EPh.u3 n x1).acc k.me a=⟨2,.nd n 0,0,ix⟩ by simp only [EPh.acc,idxOf,lj.out.1]] at this
 (with_reducible refine (js (.nd n 0) (nodeAt k.l n 0) ix (fun r _ l'=>fE th k.me a (EPh.stp th a z.got (.u3 n x1) r) l') hp rfl oV).mono ?_)
 rintro e w7 (⟨x,h1,rfl,h3⟩ | ⟨v,rfl,⟨⟨y1,y2⟩,hy,rfl,eB,mP⟩,dB⟩)
 ·exact ⟨rfl,.inl ⟨x,h1,rfl,aG.trans h3⟩⟩
 replace aG:=aG.trans dB;replace kr:=dB.ay kr dF;have fR:=ar (show q=iZ th k.me a (.u4 n x1) z.got.got (log.drop z.got.got.made) from mP)
 refine hK.out _ _ (fun _=>⟨eB.hd,kr⟩) ?_
 clear hK K hp dB hy mP lh oV
 (try simp only [Act.put,aj,ak,al])
 refine aN zK ?_ _
 go_upto_region 4 with fail
 go_wp2_with (refine aL rfl 81 (.tmp 8) rfl gr rfl 81 #[aa ab ix,.bool mk,aa ab ct] (0,0) _ kr Tryz.underlying81 rfl zK ?_)
 (with_reducible refine (lZ ix mk ct n _).mono ?_)
 rintro e w8 ⟨rfl,hb⟩;replace eB:=eB.ay hb;replace aG:=aG.trans (Stp.aS _ hb);clear hb kr
 go_wp2_with fail
 (with_reducible refine (iy (n % 65536) false ((ct+1) % 268435456) w8).mono ?_)
 rintro e w9 ⟨rfl,hb⟩;replace eB:=eB.ay hb;replace aG:=aG.trans (Stp.aS _ hb);have AX:dS (n % 65536) false ((ct+1) % 268435456)=ed x1 n:=by unfold ed mM;rw [lj.out.2]
 rw [AX];clear hb AX
 go_wp2_with fail
 (with_reducible refine (pX .top (eW k.l 0) x1 (ed x1 n) (fun r _ l'=>fE th k.me a (EPh.stp th a z.got.got (.u4 n x1) r) l') eB rfl (fR.out.trans (iI _ _ _ _ _ _))).mono ?_)
 rintro e xo (⟨x,h1,rfl,h3⟩ | ⟨v,rfl,⟨⟨t1,t2⟩,ht,rfl,fT,mJ⟩,lV⟩)
 ·exact ⟨rfl,.inl ⟨x,h1,rfl,aG.trans h3⟩⟩
 replace aG:=aG.trans lV;have hY:=ar mJ;clear eB lV ht mJ fR
 go_wp2_with fail
 go_ret
 refine .inr ⟨_,rfl,⟨t2,_,rfl,fT,by show z.made < z.made+1+1+1;omega,?_,?_⟩,aG⟩
 ·rintro rfl;exact hY.out
 ·rintro rfl;exact hY.out
theorem met_any (th a n w0:Int) (p0:Nat) (h:df w k z log) (hq:q=iZ th k.me a (.u7 0 n w0 p0) z (log.drop z.made)):
  Calls aw 138 #[ptr k.gp,aa ab (dX k.l 0 0),aa ab (qC a w0),aa ab (noW w0)] w (ki k q w fun u w'=>∃ (b:Bool) (z':Pz),u= .bool b/\df w' k z' log/\z.made < z'.made/\
   (b=true->q=iZ th k.me a (.u9 n w0 p0) z' (log.drop z'.made))/\(b=false->q=iZ th k.me a (.u2 n) z' (log.drop z'.made))):=by
 obtain ⟨mi,hmi⟩:∃ x,qC a w0=x:=⟨_,rfl⟩;obtain ⟨no,mT⟩:∃ x,noW w0=x:=⟨_,rfl⟩;have HM:=ar (au hmi mT);have HQ:=ar hq;have lp:=h.lt;rw [hmi,mT];clear hq hmi mT;go_enter Tryz.func138,Tryz.ntmps138
 go_wp2_with fail
 refine wp_loop_rounds 3 ?_;rw [dI]
 go_wp2_with fail
 (with_reducible refine (jt .slot (dX k.l 0 0) (fun r _ l'=>fE th k.me a (EPh.stp th a z (.u7 0 n w0 p0) r) l') h rfl (HQ.out.trans (iI _ _ _ _ _ _))).mono ?_)
 rintro e w1 (⟨x,h1,rfl,h3⟩ | ⟨v,rfl,⟨⟨x1,x2⟩,hx,rfl,hp,ei⟩,aG⟩)
 ·exact ⟨rfl,.inl ⟨x,h1,rfl,h3⟩⟩
 have lh:=ar ei;clear h hx ei HQ lp
 by_cases hz:x1=mi
 ·have jG:x1=qC a w0:=hz.trans HM.out.1.symm;have fR:=ar (show q=iZ th k.me a (.u7 1 n w0 p0) z.got (log.drop z.got.made) by
   rw [lh.out];simp only [EPh.stp];rw [if_neg (by simpa using jG)]
   rfl)
  have sZ:(x1 != mi)=false:=by simp [hz]
  clear hz jG lh
  go_wp2_with fail
  rw [dI]
  go_wp2_with fail
  (with_reducible refine (jt .slot (dX k.l 0 0) (fun r _ l'=>fE th k.me a (EPh.stp th a z.got (.u7 1 n w0 p0) r) l') hp rfl (fR.out.trans (iI _ _ _ _ _ _))).mono ?_)
  rintro e w2 (⟨x,h1,rfl,h3⟩ | ⟨v,rfl,⟨⟨y1,y2⟩,hy,rfl,eB,mP⟩,dB⟩)
  ·exact ⟨rfl,.inl ⟨x,h1,rfl,aG.trans h3⟩⟩
  replace aG:=aG.trans dB;have hY:=ar mP;clear hp hy mP fR dB sZ
  by_cases hz:y1=mi
  ·have jG:y1=qC a w0:=hz.trans HM.out.1.symm;have gK:=ar (show q=iZ th k.me a (.u8 n w0 p0) z.got.got (log.drop z.got.got.made) by
    rw [hY.out];simp only [EPh.stp];rw [if_neg (by simpa using jG)]
    rfl)
   have sZ:(y1 != mi)=false:=by simp [hz]
   clear hz jG hY
   go_wp2_with fail
   rw [dI]
   go_wp2_with fail
   have oV:q=doR ⟨3,.slot,mi,no⟩ z.got.got (fun r _ l'=>fE th k.me a (EPh.stp th a z.got.got (.u8 n w0 p0) r) l') (log.drop z.got.got.made):=by
    have:=gK.out.trans (iI _ _ _ _ _ _)
    rwa [show (EPh.u8 n w0 p0).acc k.me a=⟨3,.slot,mi,no⟩ by simp only [EPh.acc,HM.out.1,HM.out.2]] at this
   (with_reducible refine (pX .slot (dX k.l 0 0) mi no (fun r _ l'=>fE th k.me a (EPh.stp th a z.got.got (.u8 n w0 p0) r) l') eB rfl oV).mono ?_)
   rintro e w3 (⟨x,h1,rfl,h3⟩ | ⟨v,rfl,⟨⟨t1,t2⟩,hy,rfl,fT,mJ⟩,lV⟩)
   ·exact ⟨rfl,.inl ⟨x,h1,rfl,aG.trans h3⟩⟩
   replace aG:=aG.trans lV;have oh:=ar mJ;clear eB hy mJ gK lV sZ oV
   go_wp2_with fail
   go_ret
   refine .inr ⟨_,rfl,⟨!t2,_,rfl,fT,by show z.made < z.made+1+1+1;omega,?_,?_⟩,aG⟩
   ·cases t2 <;> simp
    exact oh.out
   ·cases t2 <;> simp
    exact oh.out
  ·have jG:y1≠qC a w0:=fun e=>hz (e.trans HM.out.1)
   have gK:=ar (show q=iZ th k.me a (.u9 n w0 p0) z.got.got (log.drop z.got.got.made) by
    rw [hY.out];simp only [EPh.stp];rw [if_pos jG];rfl)
   have sZ:(y1 != mi)=true:=by simp [hz]
   clear hz jG hY
   go_wp2_with fail
   go_ret
   exact .inr ⟨_,rfl,⟨true,_,rfl,eB,by show z.made < z.made+1+1;omega,fun _=>gK.out,fun h=>by cases h⟩,aG⟩
 ·have jG:x1≠qC a w0:=fun e=>hz (e.trans HM.out.1)
  have fR:=ar (show q=iZ th k.me a (.u9 n w0 p0) z.got (log.drop z.got.made) by
   rw [lh.out];simp only [EPh.stp];rw [if_pos jG];rfl)
  have sZ:(x1 != mi)=true:=by simp [hz]
  clear hz jG lh
  go_wp2_with fail
  go_ret
  exact .inr ⟨_,rfl,⟨true,_,rfl,hp,Nat.lt_succ_self _,fun _=>fR.out,fun h=>by cases h⟩,aG⟩
end
def uG (k:Pk) (th a n:Int) (gb:Nat) (log:Log) (q:An Out) (w wr:World):Prop:=
 ∃ z',df wr k z' log/\Stp k.gp w wr/\Bk wr gb 70 aZ/\q=iZ th k.me a (.u2 n) z' (log.drop z'.made)
section
variable {w:World} {k:Pk} {z:Pz} {log:Log} {q:An Out}
theorem MW (th a:Int) (h:df w k z log) (hq:q=iZ th k.me a (.sub .t1 .ut) z (log.drop z.made)) (gq:q≠ .stuck):
  Calls aw 97 #[ptr k.gp,aa ab (eW k.l 0),aa ab (dX k.l 0 0),aa ab a] w (ki k q w fun u w'=>∃ val is aH z',q= .fin ⟨val,is,aH,z'.gone⟩/\u= .agg (bu val is 0 aH)/\df w' k z' log):=by
 have HQ:=ar (hq.trans (o8 _ _ _ _ _ _ _));have HNS:=ar gq;have kb:=Bk.made w 70 aZ;have aG:=(Stp.refl k.gp w).alloc (ag aZ 70);have ia:=h.lt;replace h:=h.ay (aB (Below.refl _ _) (ag aZ 70));obtain ⟨gb,mD⟩:∃ x,w.heap.size=x:=⟨_,rfl⟩;have nV:=ar mD;rw [mD] at kb ia;clear hq gq;go_enter Tryz.func97,Tryz.ntmps97
 go_upto_region 1 with fail
 generalize w.alloc (ag aZ 70)=w1 at *;clear mD;have dN:k.gp < gb:=ia;have dF:gb≠k.gp:=zO
 go_wp2_with fail
 (with_reducible refine (MY th _ h HQ.out).mono ?_)
 rintro e w2 (⟨x,h1,rfl,h3⟩ | ⟨v,rfl,⟨n,p,ok,z1,rfl,hp,ei,vt,A3,-⟩,dB⟩)
 ·exact ⟨rfl,.inl ⟨x,h1,rfl,aG.trans h3⟩⟩
 replace aG:=aG.trans dB;replace kb:=dB.ay kb dF;have lh:=ar ei;clear h dB ei HQ
 cases ok with
 | false=>exact absurd lh.out HNS.out
 | true=>
 have fR:=ar (show q=iZ th k.me a (.u1 n) z1 (log.drop z1.made) from lh.out)
 clear lh
 go_upto_region 2 with fail
 go_upto_region 4 with fail
 go_wp2_with fail
 (with_reducible refine (gY n 1 hp zO).mono ?_)
 rintro e w3 ⟨rfl,hb⟩;replace hp:=hp.ay hb;replace kb:=kb.ay hb;replace aG:=aG.trans (Stp.aS _ hb);clear hb
 go_wp2_with fail
 (with_reducible refine (js (.nd n 1) (nodeAt k.l n 1) a (fun r _ l'=>fE th k.me a (EPh.stp th a z1 (.u1 n) r) l') hp rfl (fR.out.trans (iI _ _ _ _ _ _))).mono ?_)
 rintro e w4 (⟨x,h1,rfl,h3⟩ | ⟨v,rfl,⟨⟨x1,x2⟩,hx,rfl,eB,mP⟩,dB⟩)
 ·exact ⟨rfl,.inl ⟨x,h1,rfl,aG.trans h3⟩⟩
 replace aG:=aG.trans dB;replace kb:=dB.ay kb dF;have HR:=ar (show uG k th a n gb log q w w4 from ⟨z1.got,eB,aG,kb,mP⟩)
 have lp:=eB.lt;clear hp eB aG dB hx mP fR ia kb
 go_wp2_with fail
 go_loopw [12] (fun _ wr=>uG k th a n gb log q w wr) (fun _ wr=>log.length+1 - madeOf k.gp wr)
 case atStart=>exact HR.out
 case round=>
 clear HR lp;obtain ⟨z2,hp,aG,kb,hq⟩:=hrel;have HM:=ar (dj hp);have lp:=hp.lt;have HQ:=ar hq;clear hq
 go_wp2_with fail
 (with_reducible refine (CJ th a n hp zO HQ.out).mono ?_)
 rintro e w5 (⟨x,h1,rfl,h3⟩ | ⟨v,rfl,⟨b,z3,rfl,fT,hm3,hT,hF⟩,lV⟩)
 ·exact ⟨rfl,.inl ⟨x,h1,rfl,aG.trans h3⟩⟩
 replace aG:=aG.trans lV;replace kb:=lV.ay kb dF;have Ed:=ar (au HM.out hp.mle);clear hp lV lp HQ HM
 cases b with
 | true=>
  have hY:=ar (hT rfl);clear hT hF
  go_wp2_with fail
  (with_reducible refine (ly fT zO).mono ?_)
  rintro e w6 ⟨rfl,rfl⟩
  go_wp2_with (refine aK rfl 70 (.tmp 8) (.tmp 40) rfl rfl gb (bu 0 true 0 ((z3.made - 1:Nat):Int)) rfl rfl 70 aZ kb zK rfl (by simp [aD]) ?_)
  have kz:=fT.dR kb zO (bu 0 true 0 ((z3.made - 1:Nat):Int));replace kb:=kb.bL (bu 0 true 0 ((z3.made - 1:Nat):Int));replace aG:=aG.row (b:=gb) (.inl (by rw [nV.out];omega)) (bu 0 true 0 ((z3.made - 1:Nat):Int))
  exact aX (v:=.agg (bu 0 true 0 ((z3.made - 1:Nat):Int))) (cb (p:=8) (ty:=70) rfl _ _ gb 70 _ (0,0) _ rfl kb aI rfl zK) rfl (.inr ⟨_,rfl,⟨_,_,_,_,hY.out,rfl,kz⟩,aG⟩)
 | false=>
  have hY:=ar (hF rfl);clear hT hF
  go_wp2_with fail
  (with_reducible refine (jt .slot (dX k.l 0 0) (fun r _ l'=>fE th k.me a (EPh.stp th a z3 (.u5 n) r) l') fT rfl (hY.out.trans (iI _ _ _ _ _ _))).mono ?_)
  rintro e w6 (⟨x,h1,rfl,h3⟩ | ⟨v,rfl,⟨⟨x1,x2⟩,hx,rfl,kz,pq⟩,pj⟩)
  ·exact ⟨rfl,.inl ⟨x,h1,rfl,aG.trans h3⟩⟩
  replace aG:=aG.trans pj;replace kb:=pj.ay kb dF;have gK:=ar pq;clear fT pj hx pq hY
  go_wp2_with fail
  (with_reducible refine (vY x1 _).mono ?_)
  rintro e w7 ⟨rfl,rfl⟩;obtain ⟨ov,hov⟩:∃ z,x1 % 4294967296=z:=⟨_,rfl⟩;obtain ⟨ok,bG⟩:∃ z,x1 / 4294967296 % 4=z:=⟨_,rfl⟩;obtain ⟨oc,A0⟩:∃ z,x1 / 17179869184 % 268435456=z:=⟨_,rfl⟩;have hcb:0<=oc/\oc < 268435456:=zO;rw [hov,bG,A0];have HO:=ar (au bG A0);clear hov bG A0;have Er:=ar hm3;clear hm3
  by_cases hz:ok=0
  ·have oh:=ar (show q=iZ th k.me a (.u6 n x1) z3.got (log.drop z3.got.made) by
    rw [gK.out];simp only [EPh.stp];rw [if_neg (by show ¬(Ac x1≠0);unfold Ac;rw [HO.out.1];simp [hz])]
    rfl)
   have sZ:(ok != 0)=false:=by simp [hz]
   clear hz gK
   go_upto_region 10 with fail
   go_wp2_with fail
   (with_reducible refine (vk a 1 (oc+1) _).mono ?_)
   rintro e w7 ⟨rfl,hb⟩;replace kz:=kz.ay hb;replace kb:=kb.ay hb;replace aG:=aG.trans (Stp.aS _ hb);clear hb
   go_wp2_with fail
   (with_reducible refine (vk 0 0 (oc+1) _).mono ?_)
   rintro e w8 ⟨rfl,hb⟩;replace kz:=kz.ay hb;replace kb:=kb.ay hb;replace aG:=aG.trans (Stp.aS _ hb);clear hb;have e1:pY a 1 (oc+1)=qC a x1:=by unfold qC KX;rw [HO.out.2]
   have e2:pY 0 0 (oc+1)=noW x1:=by unfold noW KX;rw [HO.out.2]
   rw [e1,e2];clear e1 e2 hcb sZ
   go_wp2_with fail
   (with_reducible refine (pX .slot (dX k.l 0 0) x1 (qC a x1) (fun r _ l'=>fE th k.me a (EPh.stp th a z3.got (.u6 n x1) r) l') kz rfl (oh.out.trans (iI _ _ _ _ _ _))).mono ?_)
   rintro e w9 (⟨x,h1,rfl,h3⟩ | ⟨v,rfl,⟨⟨y1,y2⟩,hx,rfl,mS,Dq⟩,Ai⟩)
   ·exact ⟨rfl,.inl ⟨x,h1,rfl,aG.trans h3⟩⟩
   replace aG:=aG.trans Ai;replace kb:=Ai.ay kb dF;have qF:=ar Dq;clear kz Ai hx Dq oh
   cases y2 with
   | false=>
    have HR:=ar (show uG k th a n gb log q w w9 from ⟨_,mS,aG,kb,qF.out⟩)
    have wX:=dj mS;have zU:=ar (show log.length+1 - madeOf k.gp w9 < log.length+1 - madeOf k.gp wr by
     rw [wX,Ed.out.1];have h1:=Ed.out.2;have h2:=Er.out;show log.length+1 - (z3.made+1+1) < _;omega)
    clear mS aG kb wX qF
    go_wp2_with fail
    go_roundw
    case rel=>exact HR.out
    case measure=>exact zU.out
   | true=>
    have tV:=ar (show q=iZ th k.me a (.u7 0 n x1 z3.got.made) z3.got.got (log.drop z3.got.got.made) from qF.out)
    clear qF
    go_upto_region 12 with fail
    go_wp2_with fail
    (with_reducible refine (ly mS (fu _ _)).mono ?_)
    rintro e xo ⟨rfl,rfl⟩;have mV:((z3.got.got.made - 1:Nat):Int)=(z3.got.made:Nat):=by show ((z3.got.made+1 - 1:Nat):Int)=_;rw [Nat.add_sub_cancel]
    rw [mV];clear mV
    go_upto_region 13 with fail
    go_wp2_with fail
    (with_reducible refine (met_any th a n x1 z3.got.made mS tV.out).mono ?_)
    rintro e tZ (⟨x,h1,rfl,h3⟩ | ⟨v,rfl,⟨bm,z4,rfl,Le,hm6,hT,hF⟩,Dn⟩)
    ·exact ⟨rfl,.inl ⟨x,h1,rfl,aG.trans h3⟩⟩
    replace aG:=aG.trans Dn;replace kb:=Dn.ay kb dF;have HM6:=ar (show z3.got.made+1 < z4.made from hm6)
    have hple:(z3.got.made:Int)<=100000:=by have:=mS.mle;have:=mS.le;have:z3.got.got.made=z3.got.made+1:=rfl;omega
    clear mS Dn hm6 tV
    cases bm with
    | false=>
     have HR:=ar (show uG k th a n gb log q w tZ from ⟨_,Le,aG,kb,hF rfl⟩)
     have wX:=dj Le;have zU:=ar (show log.length+1 - madeOf k.gp tZ < log.length+1 - madeOf k.gp wr by
      rw [wX,Ed.out.1];have h1:=Ed.out.2;have h2:=Er.out;have h3:=HM6.out;have:z3.got.made=z3.made+1:=rfl;omega)
     clear Le aG kb wX hT hF hple
     go_wp2_with fail
     go_roundw
     case rel=>exact HR.out
     case measure=>exact zU.out
    | true=>
     have Cv:=ar (hT rfl);clear hT hF;obtain ⟨pm,qI⟩:∃ x,z3.got.made=x:=⟨_,rfl⟩;rw [qI] at Cv hple ⊢;clear qI
     go_upto_region 14 with fail
     go_wp2_with fail
     (with_reducible refine (js .slot (dX k.l 0 0) (noW x1) (fun r _ l'=>fE th k.me a (EPh.stp th a z4 (.u9 n x1 pm) r) l') Le rfl (Cv.out.trans (iI _ _ _ _ _ _))).mono ?_)
     rintro e CC (⟨x,h1,rfl,h3⟩ | ⟨v,rfl,⟨⟨y1,y2⟩,hx,rfl,hp7,NV⟩,hs7⟩)
     ·exact ⟨rfl,.inl ⟨x,h1,rfl,aG.trans h3⟩⟩
     replace aG:=aG.trans hs7;replace kb:=hs7.ay kb dF;have As:=ar ((show q=iZ th k.me a (.sub (.v1 n) (.ug pm)) z4.got (log.drop z4.got.made) from NV).trans (o8 _ _ _ _ _ _ _))
     clear Le hs7 hx NV Cv
     go_wp2_with fail
     (with_reducible refine (M0 th n _ hp7 zO As.out).mono ?_)
     rintro e w13 (⟨x,h1,rfl,h3⟩ | ⟨v,rfl,⟨z5,rfl,Ei,hq8,-⟩,hs8⟩)
     ·exact ⟨rfl,.inl ⟨x,h1,rfl,aG.trans h3⟩⟩
     replace aG:=aG.trans hs8;replace kb:=hs8.ay kb dF;have HQ10:=ar (show q= .fin ⟨0,true,-(pm:Int) - 2,z5.gone⟩ from hq8)
     clear hp7 hs8 hq8 As
     go_wp2_with (refine aK rfl 70 (.tmp 8) (.tmp 82) rfl rfl gb (bu 0 true 0 (-(pm:Int) - 2)) rfl rfl 70 aZ kb zK rfl (by simp [aD]) ?_)
     have lI:=Ei.dR kb zO (bu 0 true 0 (-(pm:Int) - 2));replace kb:=kb.bL (bu 0 true 0 (-(pm:Int) - 2));replace aG:=aG.row (b:=gb) (.inl (by rw [nV.out];omega)) (bu 0 true 0 (-(pm:Int) - 2))
     exact aX (v:=.agg (bu 0 true 0 (-(pm:Int) - 2))) (cb (p:=8) (ty:=70) rfl _ _ gb 70 _ (0,0) _ rfl kb aI rfl zK) rfl (.inr ⟨_,rfl,⟨_,_,_,_,HQ10.out,rfl,lI⟩,aG⟩)
  ·have HR:=ar (show uG k th a n gb log q w w6 from ⟨_,kz,aG,kb,by
    rw [gK.out];simp only [EPh.stp];rw [if_pos (by show Ac x1≠0;unfold Ac;rw [HO.out.1];exact hz)]
    rfl⟩)
   have wX:=dj kz;have zU:=ar (show log.length+1 - madeOf k.gp w6 < log.length+1 - madeOf k.gp wr by
    rw [wX,Ed.out.1];have h1:=Ed.out.2;have h2:=Er.out;show log.length+1 - (z3.made+1) < _;omega)
   have sZ:(ok != 0)=true:=by simp [hz]
   clear kz aG kb wX gK hz hcb
   go_wp2_with fail
   go_roundw
   case rel=>exact HR.out
   case measure=>exact zU.out
end
section
variable {w:World} {k:Pk} {z:Pz} {log:Log} {q:An Out}
def TryPost (th a:Int) (k:Pk) (log:Log) (q:An Out) (z:Pz) (u:Value) (w':World):Prop:=
 ∃ (n p c:Int) (z':Pz),u= .tuple #[aa ab n,aa ab p,aa ab c]/\df w' k z' log/\z.made < z'.made/\n<=65536/\
  ((c=0/\q=fE th k.me a (zq 0 false p z') (log.drop z'.made))\/(c=1/\q=iZ th k.me a .o5 z' (log.drop z'.made))\/(c=2/\∃ pn:Nat,p=(pn:Nat)/\q=iZ th k.me a (.o4 n pn) z' (log.drop z'.made)))
theorem Iv (th a:Int) (h:df w k z log) (hq:q=iZ th k.me a (.sub (.g1 0 .top) .og) z (log.drop z.made)):
  Calls aw 140 #[ptr k.gp,aa ab (eW k.l 0)] w (ki k q w (TryPost th a k log q z)):=by
 have HQ:=ar (hq.trans (o8 _ _ _ _ _ _ _));have lp:=h.lt;clear hq;go_enter Tryz.func140,Tryz.ntmps140
 go_wp2_with fail
 have hd:Calls aw 172 #[ptr k.gp,aa ab 0,aa ab (eW k.l 0)] w _:=yz th 0 .top (eW k.l 0) _ h zO rfl HQ.out
 (with_reducible refine hd.mono ?_)
 rintro e w1 (⟨x,h1,rfl,h3⟩ | ⟨v,rfl,⟨x1,p,z1,rfl,hp,ei,mV,-⟩,aG⟩)
 ·exact ⟨rfl,.inl ⟨x,h1,rfl,h3⟩⟩
 have lh:=ar ei;have HM1:=ar mV;clear h hd ei mV HQ lp
 go_wp2_with fail
 (with_reducible refine (gV x1 _).mono ?_)
 rintro e w3 ⟨rfl,hb⟩;replace hp:=hp.ay hb;replace aG:=aG.trans (Stp.aS _ hb);clear hb;obtain ⟨ix,jZ⟩:∃ z,x1 % 65536=z:=⟨_,rfl⟩;obtain ⟨mk,mU⟩:∃ b,(x1 / 65536 % 2==1)=b:=⟨_,rfl⟩;obtain ⟨ct,xb⟩:∃ z,x1 / 131072 % 268435456=z:=⟨_,rfl⟩;have L8:0<=ix/\ix < 65536:=zO;rw [jZ,mU,xb];have lj:=ar (au jZ xb);clear jZ mU xb
 go_upto_region 3 with fail
 have kr:=Bk.made w3 81 #[aa ab ix,.bool mk,aa ab ct];have zg3:=hp.lt;replace hp:=hp.ay (aB (Below.refl _ _) (ag #[aa ab ix,.bool mk,aa ab ct] 81));replace aG:=aG.alloc (ag #[aa ab ix,.bool mk,aa ab ct] 81);generalize w3.alloc (ag #[aa ab ix,.bool mk,aa ab ct] 81)=w4 at *;generalize w3.heap.size=gr at *;have dF:gr≠k.gp:=zO;have r0:=kr.cell 0;have lr:=kr.lt;simp at r0
 by_cases hz:ix=0
 ·have fR:=ar (show q=fE th k.me a (zq 0 false p z1) (log.drop z1.made) by
   rw [lh.out];show fE th k.me a (if idxOf x1=0 then _ else _) _=_
   rw [if_pos (show idxOf x1=0 from lj.out.1.trans hz)])
  have sZ:(ix==0)=true:=by simp [hz]
  clear hz lh
  go_wp2_with fail
  exact aX (v:=.tuple #[aa ab 0,aa ab (p:Nat),aa ab 0]) (by rw [results_tmp3 rfl];rfl) rfl (.inr ⟨_,rfl,⟨0,p,0,z1,rfl,hp,HM1.out,zO,.inl ⟨rfl,fR.out⟩⟩,aG⟩)
 ·have fR:=ar (show q=iZ th k.me a (.o2 x1) z1 (log.drop z1.made) by
   rw [lh.out];show fE th k.me a (if idxOf x1=0 then _ else _) _=_
   rw [if_neg (show ¬(idxOf x1=0) from fun e=>hz (lj.out.1.symm.trans e))];rfl)
  have sZ:(ix==0)=false:=by simp [hz]
  clear hz lh
  go_upto_region 5 with fail
  go_wp2_with fail
  (with_reducible refine (gY ix 0 hp zO).mono ?_)
  rintro e w5 ⟨rfl,hb⟩;replace hp:=hp.ay hb;replace kr:=kr.ay hb;replace aG:=aG.trans (Stp.aS _ hb);clear hb r0 lr
  go_wp2_with fail
  (with_reducible refine (jt (.nd (idxOf x1) 0) (nodeAt k.l ix 0) (fun r _ l'=>fE th k.me a (EPh.stp th a z1 (.o2 x1) r) l') hp (by rw [<- lj.out.1];simp only [adr,idxOf]) (fR.out.trans (iI _ _ _ _ _ _))).mono ?_)
  rintro e w6 (⟨x,h1,rfl,h3⟩ | ⟨v,rfl,⟨⟨y1,y2⟩,hy,rfl,eB,mJ⟩,lV⟩)
  ·exact ⟨rfl,.inl ⟨x,h1,rfl,aG.trans h3⟩⟩
  replace aG:=aG.trans lV;replace kr:=lV.ay kr dF;have hY:=ar (show q=iZ th k.me a (.o3 x1 y1) z1.got (log.drop z1.got.made) from mJ)
  clear hp lV hy mJ fR
  go_upto_region 6 with fail
  go_wp2_with (refine aL rfl 81 (.tmp 8) rfl gr rfl 81 #[aa ab ix,.bool mk,aa ab ct] (0,0) _ kr Tryz.underlying81 rfl zK ?_)
  (with_reducible refine (lZ ix mk ct y1 _).mono ?_)
  rintro e w8 ⟨rfl,hb⟩;replace eB:=eB.ay hb;replace kr:=kr.ay hb;replace aG:=aG.trans (Stp.aS _ hb);clear hb
  go_wp2_with fail
  (with_reducible refine (iy (y1 % 65536) false ((ct+1) % 268435456) w8).mono ?_)
  rintro e w9 ⟨rfl,hb⟩;replace eB:=eB.ay hb;replace kr:=kr.ay hb;replace aG:=aG.trans (Stp.aS _ hb);have AX:dS (y1 % 65536) false ((ct+1) % 268435456)=ed x1 y1:=by unfold ed mM;rw [lj.out.2]
  rw [AX];clear hb AX
  go_wp2_with fail
  (with_reducible refine (pX .top (eW k.l 0) x1 (ed x1 y1) (fun r _ l'=>fE th k.me a (EPh.stp th a z1.got (.o3 x1 y1) r) l') eB rfl (hY.out.trans (iI _ _ _ _ _ _))).mono ?_)
  rintro e xo (⟨x,h1,rfl,h3⟩ | ⟨v,rfl,⟨⟨t1,t2⟩,ht,rfl,fT,pq⟩,pj⟩)
  ·exact ⟨rfl,.inl ⟨x,h1,rfl,aG.trans h3⟩⟩
  replace aG:=aG.trans pj;replace kr:=pj.ay kr dF;have gK:=ar pq;clear eB pj ht pq hY;have J7:((z1.got.got.made - 1:Nat):Int)=(z1.got.made:Nat):=by show ((z1.got.made+1 - 1:Nat):Int)=_;rw [Nat.add_sub_cancel]
  cases t2 with
  | false=>
   go_upto_region 7 with fail
   go_wp2_with fail
   (with_reducible refine (ly fT (fu _ _)).mono ?_)
   rintro e tZ ⟨rfl,rfl⟩;rw [J7];clear J7
   go_wp2_with fail
   exact aX (v:=.tuple #[aa ab 0,aa ab (z1.got.made:Nat),aa ab 1]) (by rw [results_tmp3 rfl];rfl) rfl (.inr ⟨_,rfl,⟨0,(z1.got.made:Nat),1,z1.got.got,rfl,fT,by have:=HM1.out;show z.made < z1.made+1+1;omega,zO,.inr (.inl ⟨rfl,gK.out⟩)⟩,aG⟩)
  | true=>
   go_upto_region 8 with fail
   refine aP (S:=fun w'=>Bk w' gr 81 #[aa ab ix,.bool mk,aa ab ct]) (E:=fun _=>false) zK ?_
   replace fT:df xo.drew k z1.got.got log:=fT.ay (aU (Below.refl xo.heap.size xo));replace aG:=aG.drew;replace kr:=kr.drew;generalize xo.drew=tZ at *;refine wTk 3 [(0,39,ae (some ⟨gr,0,none⟩)),(1,40,aa ab ix),(2,41,ptr k.gp)] ?_ kr ?_
   ·intro w' hS;have r0:=hS.cell 0;simp at r0
    (repeat' (first | exact aC | refine au ⟨_,rfl,.inl ⟨rfl,?_⟩⟩ ?_))
    all_goals exact zG
   simp only [aR,Act.put,aj,ak,al];refine aE (i:=3) (o:=_) zK rfl (fun K hK=>?_)
   (try simp only [aq,ao,an])
   go_simp
   (with_reducible refine (ly fT (fu _ _)).mono ?_)
   rintro e CC ⟨rfl,rfl⟩;rw [J7];clear J7;refine hK.out _ _ (fun _=>kr) ?_
   clear hK K
   (try simp only [Act.put,aj,ak,al])
   refine wTk 3 [(4,4,aa ab ix),(5,5,aa ab (z1.got.made:Nat)),(6,6,aa ab 2)] ?_ kr ?_
   ·intro w' hS
    (repeat' (first | exact aC | refine au ⟨_,rfl,.inl ⟨rfl,?_⟩⟩ ?_))
    all_goals exact zG
   simp only [aR,Act.put,aj,ak,al];refine aN zK ?_ _
   go_wp2_with fail
   refine aX (v:=.tuple #[aa ab ix,aa ab (z1.got.made:Nat),aa ab 2]) (by rw [results_tmp3 rfl];rfl) rfl (.inr ⟨_,rfl,⟨ix,(z1.got.made:Nat),2,z1.got.got,rfl,fT,by have:=HM1.out;show z.made < z1.made+1+1;omega,zO,.inr (.inr ⟨rfl,z1.got.made,rfl,?_⟩)⟩,aG⟩)
   rw [<- lj.out.1];exact gK.out
end
theorem tF (th me a:Int) (k:EK) (y:SX) (f:Ret->Pz->EX) (l:Log) (hf:∀ t s,f t s=sx t s k):fE th me a (y.mX k f) l=eM th me (fun t z l=>fE th me a (sx t z k) l) y l:=by
 cases y with
 | go x z=>exact o8 th me a k l x z
 | ret t z=>show fE th me a (f t z) l=fE th me a (sx t z k) l;rw [hf]
 | stuck=>rfl
def Ce (k:Pk) (th a:Int) (gb go:Nat) (log:Log) (q:An Out) (w wr:World):Prop:=
 ∃ z',df wr k z' log/\Stp k.gp w wr/\Bk wr gb 70 aZ/\Bk wr go 70 aZ/\q=iZ th k.me a (.sub (.g1 0 .top) .og) z' (log.drop z'.made)
section
variable {w:World} {k:Pk} {z:Pz} {log:Log} {q:An Out}
theorem pop_any (a:Int) (h:df w k z log) (hs:1<=k.l.c.aM/\k.l.c.aM<=8) (hq:q=iZ (2 * k.l.c.aM) k.me a (.sub (.g1 0 .top) .og) z (log.drop z.made)) (gq:q≠ .stuck):
  Calls aw 99 #[ptr k.gp,aa ab (eW k.l 0),aa ab (dX k.l 0 0)] w (ki k q w fun u w'=>∃ val is aH z',q= .fin ⟨val,is,aH,z'.gone⟩/\u= .agg (bu val is 0 aH)/\df w' k z' log):=by
 have HNS:=ar gq;have HSE:=ar hs;have kb:=(Bk.made w 70 aZ).alloc (ag aZ 70);have ko:=Bk.new (w.alloc (ag aZ 70)) (g:=w.heap.size+1) zS 70 aZ;have aG:=((Stp.refl k.gp w).alloc (ag aZ 70)).alloc (ag aZ 70);have ia:=h.lt;replace h:=(h.ay (aB (Below.refl _ _) (ag aZ 70))).ay (aB (Below.refl _ _) (ag aZ 70));obtain ⟨th,jl⟩:∃ x,2 * k.l.c.aM=x:=⟨_,rfl⟩;rw [jl] at hq;have HTH:=ar jl;have HQ:=ar hq;clear hq gq jl hs;go_enter Tryz.func99,Tryz.ntmps99
 go_wp2_with fail
 go_step3
 go_wp2_with fail
 go_step3
 go_wp2_with fail
 generalize (w.alloc (ag aZ 70)).alloc (ag aZ 70)=w1 at *;obtain ⟨go,qN⟩:∃ x,w.heap.size+1=x:=⟨_,rfl⟩;obtain ⟨gb,mD⟩:∃ x,w.heap.size=x:=⟨_,rfl⟩;have nV:=ar (au mD (show gb < go by omega))
 rw [qN] at ko ⊢;rw [mD] at kb ia ⊢;clear qN mD;have dF:gb≠k.gp:=zO;have hlg:gb < go:=nV.out.2;have mT:go≠k.gp:=zO;have HR:=ar (show Ce k th a gb go log q w w1 from ⟨z,h,aG,kb,ko,HQ.out⟩)
 have lp:=h.lt;clear h aG HQ kb ko
 go_loopw [11] (fun _ wr=>Ce k th a gb go log q w wr) (fun _ wr=>log.length+1 - madeOf k.gp wr)
 case atStart=>exact HR.out
 case round=>
 clear HR lp;obtain ⟨z2,hp,aG,kb,ko,hq⟩:=hrel;have HM:=ar (dj hp);have lp:=hp.lt;have HQ:=ar hq;clear hq
 go_wp2_with fail
 (with_reducible refine (Iv th a hp HQ.out).mono ?_)
 rintro e w5 (⟨x,h1,rfl,h3⟩ | ⟨v,rfl,⟨n,p,c,z3,rfl,fT,hm3,hnb,hc⟩,lV⟩)
 ·exact ⟨rfl,.inl ⟨x,h1,rfl,aG.trans h3⟩⟩
 replace aG:=aG.trans lV;replace kb:=lV.ay kb dF;replace ko:=lV.ay ko mT;have Ed:=ar (au HM.out (au hp.mle hm3));clear hp lV lp HQ HM hm3;rcases hc with ⟨rfl,mJ⟩ | ⟨rfl,mJ⟩ | ⟨rfl,pn,rfl,mJ⟩
 ·have hY:=ar (mJ.trans (tF th k.me a (.oc ⟨0,false,p,[]⟩) (dK z3 0) _ _ (fun _ _=>rfl)))
  clear mJ
  go_upto_region 5 with fail
  go_wp2_with (refine aK rfl 70 (.tmp 7) (.tmp 26) rfl rfl go (bu 0 false 0 p) rfl rfl 70 aZ ko zK rfl (by simp [aD]) ?_)
  replace fT:=fT.dR ko zO (bu 0 false 0 p);replace kb:=kb.a7 (b:=go) zO (bu 0 false 0 p);replace aG:=aG.row (b:=go) (.inl (by rw [nV.out.1];omega)) (bu 0 false 0 p)
  replace ko:=ko.bL (bu 0 false 0 p);generalize w5.setRow go (bu 0 false 0 p)=w6 at *
  (with_reducible refine (iJ th _ fT hY.out).mono ?_)
  rintro e w7 (⟨x,h1,rfl,h3⟩ | ⟨v,rfl,⟨z4,rfl,kz,pq⟩,pj⟩)
  ·exact ⟨rfl,.inl ⟨x,h1,rfl,aG.trans h3⟩⟩
  replace aG:=aG.trans pj;replace kb:=pj.ay kb dF;replace ko:=pj.ay ko mT;have zJ:=ar (show q= .fin ⟨0,false,p,z4.gone⟩ from pq)
  clear fT pj pq hY
  go_wp2_with (first
   | (refine aL rfl 70 (.tmp 7) rfl go rfl 70 (bu 0 false 0 p) (0,0) _ ko aI rfl zK ?_)
   | (refine aK rfl 70 (.tmp 6) (.tmp 70) rfl rfl gb (bu 0 false 0 p) rfl rfl 70 aZ kb zK rfl (by simp [aD]) ?_))
  have lI:=kz.dR kb zO (bu 0 false 0 p);replace kb:=kb.bL (bu 0 false 0 p);replace aG:=aG.row (b:=gb) (.inl (by rw [nV.out.1];omega)) (bu 0 false 0 p)
  rw [Exit.noGoto_ret];exact aX (v:=.agg (bu 0 false 0 p)) (cb (p:=6) (ty:=70) rfl _ _ gb 70 _ (0,0) _ rfl kb aI rfl zK) rfl (.inr ⟨_,rfl,⟨_,_,_,_,zJ.out,rfl,lI⟩,aG⟩)
 ·have hY:=ar mJ;clear mJ
  go_wp2_with fail
  (with_reducible refine (jt .slot (dX k.l 0 0) (fun r _ l'=>fE th k.me a (EPh.stp th a z3 .o5 r) l') fT rfl (hY.out.trans (iI _ _ _ _ _ _))).mono ?_)
  rintro e w6 (⟨x,h1,rfl,h3⟩ | ⟨v,rfl,⟨⟨x1,x2⟩,hx,rfl,kz,pq⟩,pj⟩)
  ·exact ⟨rfl,.inl ⟨x,h1,rfl,aG.trans h3⟩⟩
  replace aG:=aG.trans pj;replace kb:=pj.ay kb dF;replace ko:=pj.ay ko mT;have gK:=ar pq;clear fT pj hx pq hY
  go_wp2_with fail
  (with_reducible refine (vY x1 _).mono ?_)
  rintro e w7 ⟨rfl,rfl⟩;obtain ⟨ov,hov⟩:∃ z,x1 % 4294967296=z:=⟨_,rfl⟩;obtain ⟨ok,bG⟩:∃ z,x1 / 4294967296 % 4=z:=⟨_,rfl⟩;obtain ⟨oc,A0⟩:∃ z,x1 / 17179869184 % 268435456=z:=⟨_,rfl⟩;rw [hov,bG,A0];have HO:=ar (au hov (au bG A0));clear hov bG A0
  by_cases hz:ok=1
  ·have oh:=ar (show q=iZ th k.me a (.o6 x1) z3.got (log.drop z3.got.made) by
    rw [gK.out];simp only [EPh.stp];rw [if_neg (by show ¬(Ac x1≠1);unfold Ac;rw [HO.out.2.1];simp [hz])]
    rfl)
   have sZ:(ok != 1)=false:=by simp [hz]
   clear hz gK
   go_upto_region 13 with fail
   go_wp2_with fail
   (with_reducible refine (vk ov 2 oc _).mono ?_)
   rintro e w7 ⟨rfl,hb⟩;replace kz:=kz.ay hb;replace kb:=kb.ay hb;replace ko:=ko.ay hb;replace aG:=aG.trans (Stp.aS _ hb);clear hb;have e1:pY ov 2 oc=Bh x1:=by unfold Bh IT KX;rw [HO.out.1,HO.out.2.2]
   rw [e1];clear e1 sZ
   go_wp2_with fail
   (with_reducible refine (pX .slot (dX k.l 0 0) x1 (Bh x1) (fun r _ l'=>fE th k.me a (EPh.stp th a z3.got (.o6 x1) r) l') kz rfl (oh.out.trans (iI _ _ _ _ _ _))).mono ?_)
   rintro e w9 (⟨x,h1,rfl,h3⟩ | ⟨v,rfl,⟨⟨y1,y2⟩,hx,rfl,mS,Dq⟩,Ai⟩)
   ·exact ⟨rfl,.inl ⟨x,h1,rfl,aG.trans h3⟩⟩
   replace aG:=aG.trans Ai;replace kb:=Ai.ay kb dF;replace ko:=Ai.ay ko mT;have qF:=ar Dq;clear kz Ai hx Dq oh
   cases y2 with
   | false=>
    have HR:=ar (show Ce k th a gb go log q w w9 from ⟨_,mS,aG,kb,ko,qF.out⟩)
    have wX:=dj mS;have zU:=ar (show log.length+1 - madeOf k.gp w9 < log.length+1 - madeOf k.gp wr by
     rw [wX,Ed.out.1];have h1:=Ed.out.2.1;have h2:=Ed.out.2.2;show log.length+1 - (z3.made+1+1) < _;omega)
    clear mS aG kb ko wX qF
    go_wp2_with fail
    go_roundw
    case rel=>exact HR.out
    case measure=>exact zU.out
   | true=>
    have tV:=ar ((show q=fE th k.me a (zq (IT x1) true (z3.got.made:Nat) z3.got.got) (log.drop z3.got.got.made) from qF.out).trans (tF th k.me a (.oc ⟨IT x1,true,(z3.got.made:Nat),[]⟩) (dK z3.got.got 0) _ _ (fun _ _=>rfl)))
    have hov:IT x1=ov:=HO.out.1;rw [hov] at tV;clear qF hov
    go_upto_region 14 with fail
    go_wp2_with fail
    (with_reducible refine (ly mS (fu _ _)).mono ?_)
    rintro e xo ⟨rfl,rfl⟩;have mV:((z3.got.got.made - 1:Nat):Int)=(z3.got.made:Nat):=by show ((z3.got.made+1 - 1:Nat):Int)=_;rw [Nat.add_sub_cancel]
    rw [mV];clear mV;obtain ⟨pm,qI⟩:∃ x,z3.got.made=x:=⟨_,rfl⟩;rw [qI] at tV ⊢;clear qI
    go_wp2_with (refine aK rfl 70 (.tmp 7) (.tmp 67) rfl rfl go (bu ov true 0 (pm:Nat)) rfl rfl 70 aZ ko zK rfl (by simp [aD]) ?_)
    replace mS:=mS.dR ko zO (bu ov true 0 (pm:Nat));replace kb:=kb.a7 (b:=go) zO (bu ov true 0 (pm:Nat));replace aG:=aG.row (b:=go) (.inl (by rw [nV.out.1];omega)) (bu ov true 0 (pm:Nat))
    replace ko:=ko.bL (bu ov true 0 (pm:Nat));generalize xo.setRow go (bu ov true 0 (pm:Nat))=tZ at *
    (with_reducible refine (iJ th _ mS tV.out).mono ?_)
    rintro e CC (⟨x,h1,rfl,h3⟩ | ⟨v,rfl,⟨z4,rfl,Le,hq6⟩,Dn⟩)
    ·exact ⟨rfl,.inl ⟨x,h1,rfl,aG.trans h3⟩⟩
    replace aG:=aG.trans Dn;replace kb:=Dn.ay kb dF;replace ko:=Dn.ay ko mT;have zJ:=ar (show q= .fin ⟨ov,true,(pm:Nat),z4.gone⟩ from hq6)
    clear mS Dn hq6 tV
    go_wp2_with (first
     | (refine aL rfl 70 (.tmp 7) rfl go rfl 70 (bu ov true 0 (pm:Nat)) (0,0) _ ko aI rfl zK ?_)
     | (refine aK rfl 70 (.tmp 6) (.tmp 70) rfl rfl gb (bu ov true 0 (pm:Nat)) rfl rfl 70 aZ kb zK rfl (by simp [aD]) ?_))
    have lI:=Le.dR kb zO (bu ov true 0 (pm:Nat));replace kb:=kb.bL (bu ov true 0 (pm:Nat));replace aG:=aG.row (b:=gb) (.inl (by rw [nV.out.1];omega)) (bu ov true 0 (pm:Nat))
    rw [Exit.noGoto_ret];exact aX (v:=.agg (bu ov true 0 (pm:Nat))) (cb (p:=6) (ty:=70) rfl _ _ gb 70 _ (0,0) _ rfl kb aI rfl zK) rfl (.inr ⟨_,rfl,⟨_,_,_,_,zJ.out,rfl,lI⟩,aG⟩)
  ·have HR:=ar (show Ce k th a gb go log q w w6 from ⟨_,kz,aG,kb,ko,by
    rw [gK.out];simp only [EPh.stp];rw [if_pos (by show Ac x1≠1;unfold Ac;rw [HO.out.2.1];exact hz)]
    rfl⟩)
   have wX:=dj kz;have zU:=ar (show log.length+1 - madeOf k.gp w6 < log.length+1 - madeOf k.gp wr by
    rw [wX,Ed.out.1];have h1:=Ed.out.2.1;have h2:=Ed.out.2.2;show log.length+1 - (z3.made+1) < _;omega)
   have sZ:(ok != 1)=true:=by simp [hz]
   clear kz aG kb ko wX gK hz
   go_wp2_with fail
   go_roundw
   case rel=>exact HR.out
   case measure=>exact zU.out
 ·have hY:=ar mJ;clear mJ
  go_upto_region 8 with fail
  go_wp2_with fail
  (with_reducible refine (gY n 1 fT zO).mono ?_)
  rintro e w6 ⟨rfl,hb⟩;replace fT:=fT.ay hb;replace kb:=kb.ay hb;replace ko:=ko.ay hb;replace aG:=aG.trans (Stp.aS _ hb);clear hb
  go_wp2_with fail
  (with_reducible refine (jt (.nd n 1) (nodeAt k.l n 1) (fun r _ l'=>fE th k.me a (EPh.stp th a z3 (.o4 n pn) r) l') fT rfl (hY.out.trans (iI _ _ _ _ _ _))).mono ?_)
  rintro e w7 (⟨x,h1,rfl,h3⟩ | ⟨v,rfl,⟨⟨x1,x2⟩,hx,rfl,kz,pq⟩,pj⟩)
  ·exact ⟨rfl,.inl ⟨x,h1,rfl,aG.trans h3⟩⟩
  replace aG:=aG.trans pj;replace kb:=pj.ay kb dF;replace ko:=pj.ay ko mT;have gK:=ar ((show q=fE th k.me a ((dK z3.got 0).mX (.orr n ⟨x1,true,(pn:Nat),[]⟩) fun _ s=>.go (.sub (.r1 n) (.od ⟨x1,true,(pn:Nat),[]⟩)) s) (log.drop z3.got.made) from pq).trans (tF th k.me a (.orr n ⟨x1,true,(pn:Nat),[]⟩) (dK z3.got 0) _ _ (fun _ _=>rfl)))
  clear fT pj hx pq hY
  go_wp2_with (refine aK rfl 70 (.tmp 7) (.tmp 37) rfl rfl go (bu x1 true 0 (pn:Nat)) rfl rfl 70 aZ ko zK rfl (by simp [aD]) ?_)
  replace kz:=kz.dR ko zO (bu x1 true 0 (pn:Nat));replace kb:=kb.a7 (b:=go) zO (bu x1 true 0 (pn:Nat));replace aG:=aG.row (b:=go) (.inl (by rw [nV.out.1];omega)) (bu x1 true 0 (pn:Nat))
  replace ko:=ko.bL (bu x1 true 0 (pn:Nat));generalize w7.setRow go (bu x1 true 0 (pn:Nat))=w8 at *
  (with_reducible refine (iJ th _ kz gK.out).mono ?_)
  rintro e w9 (⟨x,h1,rfl,h3⟩ | ⟨v,rfl,⟨z4,rfl,mS,Dq⟩,Ai⟩)
  ·exact ⟨rfl,.inl ⟨x,h1,rfl,aG.trans h3⟩⟩
  replace aG:=aG.trans Ai;replace kb:=Ai.ay kb dF;replace ko:=Ai.ay ko mT;have oh:=ar ((show q=iZ th k.me a (.sub (.r1 n) (.od ⟨x1,true,(pn:Nat),[]⟩)) z4 (log.drop z4.made) from Dq).trans (o8 _ _ _ _ _ _ _))
  have jl:th=2 * k.l.c.aM:=HTH.out.symm;subst jl;clear kz Ai Dq gK
  go_wp2_with fail
  (with_reducible refine (uh n _ mS HSE.out oh.out HNS.out).mono ?_)
  rintro e xo (⟨x,h1,rfl,h3⟩ | ⟨v,rfl,⟨z5,rfl,Le,hq6,-⟩,Dn⟩)
  ·exact ⟨rfl,.inl ⟨x,h1,rfl,aG.trans h3⟩⟩
  replace aG:=aG.trans Dn;replace kb:=Dn.ay kb dF;replace ko:=Dn.ay ko mT;have zJ:=ar (show q= .fin ⟨x1,true,(pn:Nat),z5.gone⟩ from hq6)
  clear mS Dn hq6 oh
  go_wp2_with (first
   | (refine aL rfl 70 (.tmp 7) rfl go rfl 70 (bu x1 true 0 (pn:Nat)) (0,0) _ ko aI rfl zK ?_)
   | (refine aK rfl 70 (.tmp 6) (.tmp 70) rfl rfl gb (bu x1 true 0 (pn:Nat)) rfl rfl 70 aZ kb zK rfl (by simp [aD]) ?_))
  have lI:=Le.dR kb zO (bu x1 true 0 (pn:Nat));replace kb:=kb.bL (bu x1 true 0 (pn:Nat));replace aG:=aG.row (b:=gb) (.inl (by rw [nV.out.1];omega)) (bu x1 true 0 (pn:Nat))
  rw [Exit.noGoto_ret];exact aX (v:=.agg (bu x1 true 0 (pn:Nat))) (cb (p:=6) (ty:=70) rfl _ _ gb 70 _ (0,0) _ rfl kb aI rfl zK) rfl (.inr ⟨_,rfl,⟨_,_,_,_,zJ.out,rfl,lI⟩,aG⟩)
end
theorem bI {o:Oper} {a:Act} {x:Operand} {w:World} {ty:bR} {g:Nat} {v:Value} (ho:o.op= .load ty x) (hx:a.eval x=ptr g) (hl:(dr ty ⟨g,0,none⟩).run aw w= .ok v w):(Av a.eval o).run aw w= .ok (.value v) w:=by
 unfold Av;simp only [ho,hx,ptr,Instr.loadAt,xG,di,dx,bQ,hl]
section
variable {w:World} {k:Pk} {z:Pz} {log:Log} {q:An Out}
theorem OP (l:Ly) (me:Nat) (s:Int) (w:World) (f:dU l) (hs:l.c.slots=1):Calls aw 94 #[lyV l,aa ab me,aa ab s] w (gh (dX l s 0) w):=by
 have k0:=Bk.made w 34 (lyC l);have hb:=aB (Below.refl w.heap.size w) (ag (lyC l) 34);have HS:=ar hs;clear hs;go_enter Tryz.func94,Tryz.ntmps94
 go_upto_region 1 with fail
 generalize w.alloc (ag (lyC l) 34)=w1 at *;obtain ⟨b0,mx⟩:∃ x,w.heap.size=x:=⟨_,rfl⟩;rw [mx] at k0 ⊢;clear mx;have c3:=k0.cell 3;simp at c3;rw [HS.out] at c3;have l0:=k0.lt
 go_upto_region 4 with fail
 clear c3 l0;refine aP (S:=fun w'=>Bk w' b0 34 (lyC l)) (E:=fun _=>false) zK ?_
 replace k0:=k0.drew;replace hb:=hb.drew;generalize w1.drew=w2 at *;have h1:((me:Int).tmod 1)=0:=Int.tmod_one _;refine wTk 9 [(0,13,lyV l),(1,14,aa ab s),(2,15,aa ab me),(3,16,aa ab 1),(4,17,aa ab 0),(5,18,aa ab 1),(6,19,aa ab 1),(7,20,aa ab 1),(8,21,aa ab 0)] ?_ k0 ?_
 ·intro w' hS;have fg:(dr 34 ⟨b0,0,none⟩).run aw w'= .ok (lyV l) w':=be w' b0 34 34 (lyC l) (0,0) _ hS aJ rfl zK
  (repeat' (first | exact aC | refine au ⟨_,rfl,.inl ⟨rfl,?_⟩⟩ ?_))
  all_goals first | exact bI rfl rfl fg | ((try simp only [aq,ao,an,Act.put,aj,ak,al]);go_simp;(try rfl);done)
 simp only [aR,Act.put,aj,ak,al];refine aE (i:=9) (o:=_) zK rfl (fun K hK=>?_)
 (try simp only [aq,ao,an])
 go_simp
 (with_reducible refine (MB l s 0 w2 f).mono ?_)
 rintro e w3 ⟨rfl,jg⟩;refine hK.out _ _ (fun _=>k0.ay jg) ?_
 clear hK K
 (try simp only [Act.put,aj,ak,al])
 refine wTk 1 [(10,6,aa ab (dX l s 0))] ?_ (k0.ay jg) ?_
 ·intro w' hS
  (repeat' (first | exact aC | refine au ⟨_,rfl,.inl ⟨rfl,?_⟩⟩ ?_))
  all_goals exact zG
 simp only [aR,Act.put,aj,ak,al];refine aN zK ?_ _
 go_wp2_with fail
 go_ret
 exact ⟨rfl,aF hb jg⟩
theorem KS (th:Int) (op:Opr) (oW jJ OH b8:Nat) (h:df w k z log) (iT:Bk w oW 154 #[ptr k.gp]) (ep:Bk w jJ 3 #[aa ab (eW k.l 0)]) (IZ:Bk w OH 3 #[aa ab (dX k.l 0 0)]) (k8:Bk w b8 54 (eg op))
  (hq:q=iZ th k.me op.a (.sub .t1 .ut) z (log.drop z.made)) (gq:q≠ .stuck):
  Calls aw 96 #[ptr oW,ptr jJ,ptr OH,ptr b8] w (ki k q w fun u w'=>∃ val is aH z',q= .fin ⟨val,is,aH,z'.gone⟩/\u= .agg (bu val is 0 aH)/\df w' k z' log):=by
 have kb:=Bk.made w 70 aZ;have ia:=h.lt;have aG:=(Stp.refl k.gp w).alloc (ag aZ 70);replace h:=h.ay (aB (Below.refl _ _) (ag aZ 70));replace iT:=iT.alloc (ag aZ 70);replace ep:=ep.alloc (ag aZ 70);replace IZ:=IZ.alloc (ag aZ 70);replace k8:=k8.alloc (ag aZ 70);have HQ:=ar (au hq gq);clear hq gq;go_enter Tryz.func96,Tryz.ntmps96
 go_upto_region 1 with fail
 generalize w.alloc (ag aZ 70)=w1 at *;obtain ⟨gb,mD⟩:∃ x,w.heap.size=x:=⟨_,rfl⟩;have nV:=ar mD;rw [mD] at kb ia ⊢;clear mD;have dF:gb≠k.gp:=zO;have vK:=iT.cell 0;have pF:=ep.cell 0;have c15:=IZ.cell 0;have c8:=k8.cell 2;simp at vK pF c15 c8;have BG:=iT.lt;have xu:=ep.lt;have l15:=IZ.lt;have l8:=k8.lt
 go_wp2_with fail
 (with_reducible refine (MW th op.a h HQ.out.1 HQ.out.2).mono ?_)
 rintro e w2 (⟨x,h1,rfl,h3⟩ | ⟨v,rfl,⟨val,is,aH,z2,hf,rfl,hp⟩,dB⟩)
 ·exact ⟨rfl,.inl ⟨x,h1,rfl,aG.trans h3⟩⟩
 replace aG:=aG.trans dB;replace kb:=dB.ay kb dF;have HF:=ar hf;clear h iT ep IZ k8 vK pF c15 c8 BG xu l15 l8 dB hf
 go_wp2_with (refine aK rfl 70 (.tmp 4) (.tmp 10) rfl rfl gb (bu val is 0 aH) rfl rfl 70 aZ kb zK rfl (by simp [aD]) ?_)
 have lI:=hp.dR kb zO (bu val is 0 aH);replace kb:=kb.bL (bu val is 0 aH);replace aG:=aG.row (b:=gb) (.inl (by rw [nV.out];omega)) (bu val is 0 aH)
 exact aX (v:=.agg (bu val is 0 aH)) (cb (p:=4) (ty:=70) rfl _ _ gb 70 _ (0,0) _ rfl kb aI rfl zK) rfl (.inr ⟨_,rfl,⟨_,_,_,_,HF.out,rfl,lI⟩,aG⟩)
theorem MZ (a:Int) (oW jJ OH:Nat) (h:df w k z log) (hs:1<=k.l.c.aM/\k.l.c.aM<=8) (iT:Bk w oW 154 #[ptr k.gp]) (ep:Bk w jJ 3 #[aa ab (eW k.l 0)]) (IZ:Bk w OH 3 #[aa ab (dX k.l 0 0)])
  (hq:q=iZ (2 * k.l.c.aM) k.me a (.sub (.g1 0 .top) .og) z (log.drop z.made)) (gq:q≠ .stuck):
  Calls aw 98 #[ptr oW,ptr jJ,ptr OH] w (ki k q w fun u w'=>∃ val is aH z',q= .fin ⟨val,is,aH,z'.gone⟩/\u= .agg (bu val is 0 aH)/\df w' k z' log):=by
 have kb:=Bk.made w 70 aZ;have ia:=h.lt;have aG:=(Stp.refl k.gp w).alloc (ag aZ 70);replace h:=h.ay (aB (Below.refl _ _) (ag aZ 70));replace iT:=iT.alloc (ag aZ 70);replace ep:=ep.alloc (ag aZ 70);replace IZ:=IZ.alloc (ag aZ 70);have HQ:=ar (au hq (au gq hs));clear hq gq hs;go_enter Tryz.func98,Tryz.ntmps98
 go_upto_region 1 with fail
 generalize w.alloc (ag aZ 70)=w1 at *;obtain ⟨gb,mD⟩:∃ x,w.heap.size=x:=⟨_,rfl⟩;have nV:=ar mD;rw [mD] at kb ia ⊢;clear mD;have dF:gb≠k.gp:=zO;have vK:=iT.cell 0;have pF:=ep.cell 0;have c15:=IZ.cell 0;simp at vK pF c15;have BG:=iT.lt;have xu:=ep.lt;have l15:=IZ.lt
 go_wp2_with fail
 (with_reducible refine (pop_any a h HQ.out.2.2 HQ.out.1 HQ.out.2.1).mono ?_)
 rintro e w2 (⟨x,h1,rfl,h3⟩ | ⟨v,rfl,⟨val,is,aH,z2,hf,rfl,hp⟩,dB⟩)
 ·exact ⟨rfl,.inl ⟨x,h1,rfl,aG.trans h3⟩⟩
 replace aG:=aG.trans dB;replace kb:=dB.ay kb dF;have HF:=ar hf;clear h iT ep IZ vK pF c15 BG xu l15 dB hf
 go_wp2_with (refine aK rfl 70 (.tmp 3) (.tmp 7) rfl rfl gb (bu val is 0 aH) rfl rfl 70 aZ kb zK rfl (by simp [aD]) ?_)
 have lI:=hp.dR kb zO (bu val is 0 aH);replace kb:=kb.bL (bu val is 0 aH);replace aG:=aG.row (b:=gb) (.inl (by rw [nV.out];omega)) (bu val is 0 aH)
 exact aX (v:=.agg (bu val is 0 aH)) (cb (p:=3) (ty:=70) rfl _ _ gb 70 _ (0,0) _ rfl kb aI rfl zK) rfl (.inr ⟨_,rfl,⟨_,_,_,_,HF.out,rfl,lI⟩,aG⟩)
end
theorem enext (l:Ly) (me:Nat) (op:Opr) (g:cG) (gv:Value) (A:Option Addr) (cap:Nat) (log:Log) (w:World) (f:dU l) (lg:l.c.slots=1) (Ld:1<=l.c.aM/\l.c.aM<=8) (htop:0<=eW l 0) (ho:op.obj=0)
  (hk:(op.kind=4/\0<=op.a/\op.a < 4294967296)\/op.kind=5) (hg:bN w gv g) (hs:hH w w.heap.size A log) (hl:log.length<=100000) (q:An Out) (hq:q=fE (2 * l.c.aM) me op.a (uU op.kind g) log) (gq:q≠ .stuck) (oe:∀ o,q= .fin o->o.gone.length<=1000):
  Calls aw 72 #[lyV l,aa ab me,gv,.agg (eg op),.slice A log.length cap] w (jd l q w):=by
 obtain ⟨G,gc,rfl,hN,qP⟩:=hg;have HG:=ar (show bN w (.slice G g.length gc) g from ⟨G,gc,rfl,hN,qP⟩)
 have HA:=ar (au f (au lg (au Ld (au hs hl))));have HQ:=ar (au hq (au gq oe));have HK:=ar (au hk htop);have k0:=(((Bk.made w 34 (lyC l)).alloc (ag (eg op) 54)).alloc (ag bW 67)).alloc (ag aZ 70);have k1:=((Bk.new (w.alloc (ag (lyC l) 34)) (g:=w.heap.size+1) zS 54 (eg op)).alloc (ag bW 67)).alloc (ag aZ 70);have k2:=(Bk.new ((w.alloc (ag (lyC l) 34)).alloc (ag (eg op) 54)) (g:=w.heap.size+1+1) zS 67 bW).alloc (ag aZ 70);have k3:=Bk.new (((w.alloc (ag (lyC l) 34)).alloc (ag (eg op) 54)).alloc (ag bW 67)) (g:=w.heap.size+1+1+1) zS 70 aZ;have bz:=aB (aB (aB (aB (Below.refl w.heap.size w) (ag (lyC l) 34)) (ag (eg op) 54)) (ag bW 67)) (ag aZ 70);clear f lg Ld htop hk hs hl hq gq oe hN qP;go_enter Tryz.func72,Tryz.ntmps72
 go_upto_region 1 with fail
 generalize (((w.alloc (ag (lyC l) 34)).alloc (ag (eg op) 54)).alloc (ag bW 67)).alloc (ag aZ 70)=w4 at *;obtain ⟨b0,h0⟩:∃ x,w.heap.size=x:=⟨_,rfl⟩;have HW:=ar h0;rw [h0] at k0 k1 k2 k3 ⊢;clear h0;obtain ⟨b1,h1⟩:∃ x,b0+1=x:=⟨_,rfl⟩;obtain ⟨b2,h2⟩:∃ x,b1+1=x:=⟨_,rfl⟩;obtain ⟨b3,h3⟩:∃ x,b2+1=x:=⟨_,rfl⟩;rw [h1] at k1;rw [h1,h2] at k2;rw [h1,h2,h3] at k3 ⊢;have z1:b0 < b1:=zO;have z2:b1 < b2:=zO;have z3:b2 < b3:=zO;clear h1 h2 h3;have c1:=k1.cell 1;simp at c1;rw [ho] at c1;have l1:=k1.lt
 go_wp2_with (refine aL rfl 34 (.tmp 5) rfl b0 rfl 34 (lyC l) (0,0) _ k0 aJ rfl zK ?_)
 (with_reducible refine (JO l 0 w4 HA.out.1).mono ?_)
 rintro e w5 ⟨rfl,hb⟩;replace k0:=k0.ay hb;replace k1:=k1.ay hb;replace k2:=k2.ay hb;replace k3:=k3.ay hb;clear c1 l1
 go_upto_region 2 with fail
 have ep:=Bk.made w5 3 #[aa ab (eW l 0)];replace k0:=k0.alloc (ag #[aa ab (eW l 0)] 3);replace k1:=k1.alloc (ag #[aa ab (eW l 0)] 3);replace k2:=k2.alloc (ag #[aa ab (eW l 0)] 3);replace k3:=k3.alloc (ag #[aa ab (eW l 0)] 3);replace bz:=aB (aF bz hb) (ag #[aa ab (eW l 0)] 3);clear hb;generalize w5.alloc (ag #[aa ab (eW l 0)] 3)=w6 at *;obtain ⟨jJ,h13⟩:∃ x,w5.heap.size=x:=⟨_,rfl⟩;rw [h13] at ep ⊢;clear h13;have pF:=ep.cell 0;have xu:=ep.lt;simp at pF;obtain ⟨tp,qG⟩:∃ x,eW l 0=x:=⟨_,rfl⟩;have HTP:=ar qG;have htz:decide (tp < 0)=false:=by have:=HK.out.2;rw [qG] at this;simp;omega
 rw [qG] at ep pF ⊢;clear qG
 go_upto_region 4 with fail
 clear pF xu htz
 go_wp2_with (refine aL rfl 34 (.tmp 5) rfl b0 rfl 34 (lyC l) (0,0) _ k0 aJ rfl zK ?_)
 have nX:w.heap.size<=w6.heap.size:=bz.size;have hG6:bN w6 (.slice G g.length gc) g:=HG.out.ay bz;have hS6:hH w6 w6.heap.size A log:=(HA.out.2.2.2.1.below bz).more nX
 (with_reducible refine (yA l me _ g A cap log w6 HA.out.1 hG6 hS6 HA.out.2.2.2.2).mono ?_)
 rintro e w7 ⟨rfl,hp,hb⟩;clear hG6 hS6;have jg:=k3.lt;replace k0:=k0.ay hb;replace k1:=k1.ay hb;replace k2:=k2.ay hb;replace k3:=k3.ay hb;replace ep:=ep.ay hb;replace bz:=aF bz hb;obtain ⟨k,nm⟩:∃ k,lA w6 l me A cap=k:=⟨_,rfl⟩;have fU:=ar (show k.l=l/\k.me=me/\k.gp=w6.heap.size+1+1 from nm ▸ ⟨rfl,rfl,rfl⟩)
 have hgp:w6.heap.size+1+1=k.gp:=fU.out.2.2.symm;rw [nm] at hp;rw [hgp];have hw6:w6.heap.size<=k.gp:=zO;have xm:=ar (au hw6 (au nX (show b3 < k.gp by omega)))
 clear nm hgp hw6 hb nX jg
 go_upto_region 5 with fail
 have iT:=Bk.made w7 154 #[ptr k.gp];have lp:=hp.lt;replace hp:=hp.ay (aB (Below.refl _ _) (ag #[ptr k.gp] 154));replace k0:=k0.alloc (ag #[ptr k.gp] 154);replace k1:=k1.alloc (ag #[ptr k.gp] 154);replace k2:=k2.alloc (ag #[ptr k.gp] 154);replace k3:=k3.alloc (ag #[ptr k.gp] 154);replace ep:=ep.alloc (ag #[ptr k.gp] 154);replace bz:=aB bz (ag #[ptr k.gp] 154);generalize w7.alloc (ag #[ptr k.gp] 154)=w8 at *;obtain ⟨oW,Jm⟩:∃ x,w7.heap.size=x:=⟨_,rfl⟩;rw [Jm] at iT lp ⊢;clear Jm;have c1:=k1.cell 1;simp at c1;rw [ho] at c1;have l1:=k1.lt
 go_wp2_with (refine aL rfl 34 (.tmp 5) rfl b0 rfl 34 (lyC l) (0,0) _ k0 aJ rfl zK ?_)
 (with_reducible refine (OP l me 0 w8 HA.out.1 HA.out.2.1).mono ?_)
 rintro e w9 ⟨rfl,hb⟩;replace hp:=hp.ay hb;replace k0:=k0.ay hb;replace k1:=k1.ay hb;replace k2:=k2.ay hb;replace k3:=k3.ay hb;replace ep:=ep.ay hb;replace iT:=iT.ay hb;replace bz:=aF bz hb;clear hb c1 l1
 go_upto_region 6 with fail
 have IZ:=Bk.made w9 3 #[aa ab (dX l 0 0)];replace hp:=hp.ay (aB (Below.refl _ _) (ag #[aa ab (dX l 0 0)] 3));replace k0:=k0.alloc (ag #[aa ab (dX l 0 0)] 3);replace k1:=k1.alloc (ag #[aa ab (dX l 0 0)] 3);replace k2:=k2.alloc (ag #[aa ab (dX l 0 0)] 3);replace k3:=k3.alloc (ag #[aa ab (dX l 0 0)] 3);replace ep:=ep.alloc (ag #[aa ab (dX l 0 0)] 3);replace iT:=iT.alloc (ag #[aa ab (dX l 0 0)] 3);replace bz:=aB bz (ag #[aa ab (dX l 0 0)] 3);generalize w9.alloc (ag #[aa ab (dX l 0 0)] 3)=xo at *;obtain ⟨OH,h15⟩:∃ x,w9.heap.size=x:=⟨_,rfl⟩;rw [h15] at IZ ⊢;clear h15;have Dv:∀ (fn:Fn) (first cap:Array Value) (w:World),(kZ fn first cap).run aw w= .ok (.func fn first cap) w:=fun _ _ _ _=>rfl
 have c0:=k1.cell 0;have c2:=k1.cell 2;have vK:=iT.cell 0;simp at c0 c2 vK;have l1:=k1.lt;have BG:=iT.lt;have k13':Bk xo jJ 3 #[aa ab (eW k.l 0)]:=by rw [fU.out.1,HTP.out];exact ep
 have k15':Bk xo OH 3 #[aa ab (dX k.l 0 0)]:=by rw [fU.out.1];exact IZ
 have HB:=ar (au bz (au k2 k3));have HC:=ar (au k1 (au iT (au k13' (au k15' hp))));have hgt:w.heap.size<=k.gp:=aQ xm.out.2.1 xm.out.1;have rL:=ar hgt;have xC:=ar (Stp.aS k.gp bz);clear k0 k1 k2 k3 ep iT IZ k13' k15' hp bz lp hgt;rcases HK.out.1 with ⟨hk4,ha0,xz⟩ | tU
 ·have jG:(op.kind==4)=true:=by simp [hk4]
  have mw:decide (0<=op.a)=true:=by simpa using ha0
  have mI:decide (op.a < 4294967296)=true:=by simpa using xz
  have gK:=ar (show q=iZ (2 * k.l.c.aM) k.me op.a (.sub .t1 .ut) ⟨[0,0,0],g,0⟩ (log.drop 0) by
   rw [HQ.out.1,hk4,fU.out.1,fU.out.2.1];rfl)
  clear hk4 ha0 xz
  go_upto_region 7 with fail
  go_wp2_with fail
  have lH:=q9 (k:=k) (z:=⟨[0,0,0],g,0⟩) (log:=log) q (fun val is aH z'=>q= .fin ⟨val,is,aH,z'.gone⟩) 96 #[ptr oW,ptr jJ,ptr OH,ptr b1] k.gp xo HC.out.2.2.2.2.lt HC.out.2.2.2.2 (by intro w;simp [go_sem]) (fun val is aH z' hT=>HQ.out.2.2 _ hT)
   (fun w2 h2=>(KS (2 * k.l.c.aM) op oW jJ OH b1 (HC.out.2.2.2.2.ay h2) (HC.out.2.1.ay h2) (HC.out.2.2.1.ay h2) (HC.out.2.2.2.1.ay h2) (HC.out.1.ay h2) gK.out HQ.out.2.1).mono fun _ _ h=>h.two)
  (with_reducible refine lH.mono ?_)
  rintro e tZ ⟨fI,aG⟩;replace aG:=aG.one;obtain ⟨iX,iR,iQ,iW,val,is,er,pt,rG,rn,rc,dn,rfl,gW⟩:∃ c0 c1 c2 c3 val is er pt rG rn rc dn,e=ai (.tuple #[.agg (bj c0 c1 c2 c3),.agg (br val is er pt (.slice rG rn rc)),.bool dn])/\∀ w':World,(∀ gg,bN tZ (.slice rG rn rc) gg->bN w' (.slice rG rn rc) gg)->Below w.heap.size w w'->jd l q w (ai (.tuple #[.agg (bj c0 c1 c2 c3),.agg (br val is er pt (.slice rG rn rc)),.bool dn])) w':=by
   rcases fI with ⟨x,hx,rfl⟩ | ⟨val,is,aH,z',gv,hT,rfl,jQ⟩
   ·exact ⟨_,_,_,_,_,_,_,_,_,_,_,_,rfl,fun w' _ hb=>⟨.inl ⟨x,hx,by rw [fU.out.1]⟩,hb⟩⟩
   ·obtain ⟨rG,rc,rfl,r1,r2⟩:=jQ;exact ⟨_,_,_,_,_,_,_,_,_,_,_,_,rfl,fun w' hk hb=>⟨.inr ⟨_,_,hT,rfl,hk _ ⟨rG,rc,rfl,r1,r2⟩⟩,hb⟩⟩
  have HF:=ar gW;have k2:=aG.ay HB.out.2.1 (by have:=xm.out.2.2;omega)
  have k3:=aG.ay HB.out.2.2 (by have:=xm.out.2.2;omega)
  have nM:=xC.out.trans aG;clear fI gW aG lH c0 c2 vK l1 BG
  go_wp2_with (first
   | (refine aK rfl 67 (.tmp 10) (.tmp 54) rfl rfl b2 (bj iX iR iQ iW) rfl rfl 67 bW k2 zK rfl (by simp [aD]) ?_)
   | (refine aK rfl 70 (.tmp 11) (.tmp 55) rfl rfl b3 (br val is er pt (.slice rG rn rc)) rfl rfl 70 aZ (k3.a7 (b:=b2) zO (bj iX iR iQ iW)) zK rfl (by simp [aD]) ?_))
  have sX:=k3.a7 (b:=b2) zO (bj iX iR iQ iW);have Ag:=(k2.bL (bj iX iR iQ iW)).a7 (b:=b3) zO (br val is er pt (.slice rG rn rc));have Af:=sX.bL (br val is er pt (.slice rG rn rc));have nk:=(nM.row (b:=b2) (.inl (by rw [HW.out];omega)) (bj iX iR iQ iW)).row (b:=b3) (.inl (by rw [HW.out];omega)) (br val is er pt (.slice rG rn rc))
  exact aX (v:=.tuple #[.agg (bj iX iR iQ iW),.agg (br val is er pt (.slice rG rn rc)),.bool dn]) (eH (p:=10) (q:=11) (t:=12) (t1:=67) (t2:=70) rfl _ _ b2 b3 _ _ (0,0) (0,0) _ _ _ rfl rfl rfl Ag Af bU rfl zK aI rfl zK) rfl
   (HF.out _ (fun gg hg=>(hg.row k2 zD _).row sX zD _) (nk.part rL.out (az _)))
 ·have jG:(op.kind==4)=false:=by simp [tU]
  have mw:(op.kind==5)=true:=by simp [tU]
  have gK:=ar (show q=iZ (2 * k.l.c.aM) k.me op.a (.sub (.g1 0 .top) .og) ⟨[0,0,0],g,0⟩ (log.drop 0) by
   rw [HQ.out.1,tU,fU.out.1,fU.out.2.1];rfl)
  have Ld:1<=k.l.c.aM/\k.l.c.aM<=8:=by rw [fU.out.1];exact HA.out.2.2.1
  clear tU
  go_upto_region 9 with fail
  go_wp2_with fail
  have lH:=q9 (k:=k) (z:=⟨[0,0,0],g,0⟩) (log:=log) q (fun val is aH z'=>q= .fin ⟨val,is,aH,z'.gone⟩) 98 #[ptr oW,ptr jJ,ptr OH] k.gp xo HC.out.2.2.2.2.lt HC.out.2.2.2.2 (by intro w;simp [go_sem]) (fun val is aH z' hT=>HQ.out.2.2 _ hT)
   (fun w2 h2=>(MZ op.a oW jJ OH (HC.out.2.2.2.2.ay h2) Ld (HC.out.2.1.ay h2) (HC.out.2.2.1.ay h2) (HC.out.2.2.2.1.ay h2) gK.out HQ.out.2.1).mono fun _ _ h=>h.two)
  (with_reducible refine lH.mono ?_)
  rintro e tZ ⟨fI,aG⟩;replace aG:=aG.one;obtain ⟨iX,iR,iQ,iW,val,is,er,pt,rG,rn,rc,dn,rfl,gW⟩:∃ c0 c1 c2 c3 val is er pt rG rn rc dn,e=ai (.tuple #[.agg (bj c0 c1 c2 c3),.agg (br val is er pt (.slice rG rn rc)),.bool dn])/\∀ w':World,(∀ gg,bN tZ (.slice rG rn rc) gg->bN w' (.slice rG rn rc) gg)->Below w.heap.size w w'->jd l q w (ai (.tuple #[.agg (bj c0 c1 c2 c3),.agg (br val is er pt (.slice rG rn rc)),.bool dn])) w':=by
   rcases fI with ⟨x,hx,rfl⟩ | ⟨val,is,aH,z',gv,hT,rfl,jQ⟩
   ·exact ⟨_,_,_,_,_,_,_,_,_,_,_,_,rfl,fun w' _ hb=>⟨.inl ⟨x,hx,by rw [fU.out.1]⟩,hb⟩⟩
   ·obtain ⟨rG,rc,rfl,r1,r2⟩:=jQ;exact ⟨_,_,_,_,_,_,_,_,_,_,_,_,rfl,fun w' hk hb=>⟨.inr ⟨_,_,hT,rfl,hk _ ⟨rG,rc,rfl,r1,r2⟩⟩,hb⟩⟩
  have HF:=ar gW;have k2:=aG.ay HB.out.2.1 (by have:=xm.out.2.2;omega)
  have k3:=aG.ay HB.out.2.2 (by have:=xm.out.2.2;omega)
  have nM:=xC.out.trans aG;clear fI gW aG lH c0 c2 vK l1 BG
  go_wp2_with (first
   | (refine aK rfl 67 (.tmp 10) (.tmp 64) rfl rfl b2 (bj iX iR iQ iW) rfl rfl 67 bW k2 zK rfl (by simp [aD]) ?_)
   | (refine aK rfl 70 (.tmp 11) (.tmp 65) rfl rfl b3 (br val is er pt (.slice rG rn rc)) rfl rfl 70 aZ (k3.a7 (b:=b2) zO (bj iX iR iQ iW)) zK rfl (by simp [aD]) ?_))
  have sX:=k3.a7 (b:=b2) zO (bj iX iR iQ iW);have Ag:=(k2.bL (bj iX iR iQ iW)).a7 (b:=b3) zO (br val is er pt (.slice rG rn rc));have Af:=sX.bL (br val is er pt (.slice rG rn rc));have nk:=(nM.row (b:=b2) (.inl (by rw [HW.out];omega)) (bj iX iR iQ iW)).row (b:=b3) (.inl (by rw [HW.out];omega)) (br val is er pt (.slice rG rn rc))
  exact aX (v:=.tuple #[.agg (bj iX iR iQ iW),.agg (br val is er pt (.slice rG rn rc)),.bool dn]) (eH (p:=10) (q:=11) (t:=12) (t1:=67) (t2:=70) rfl _ _ b2 b3 _ _ (0,0) (0,0) _ _ _ rfl rfl rfl Ag Af bU rfl zK aI rfl zK) rfl
   (HF.out _ (fun gg hg=>(hg.row k2 zD _).row sX zD _) (nk.part rL.out (az _)))
end Go.Proofs.YtikdaeddbkopeaaGreatR.elim
namespace Go.Proofs.YtikdaeddbkopeaaGreatR.segment
open Go.RowKit
attribute [local go_sem ↓] aV aW
abbrev doV:=doG 143
abbrev df:=PcG 186 158 143
abbrev np:=D3 143
abbrev ki {β:Type}:=@im β 143
abbrev ji {β:Type}:=@Kx β 143
section
variable {β:Type} {w:World} {k:Pk} {z:Pz} {log:Log} {q:An β}
theorem uh (n:Int) (F:Ret->Pz->Log->An β) (h:df w k z log) (hs:1<=k.l.c.aM/\k.l.c.aM<=8) (hq:q=jO (2 * k.l.c.aM) k.me F (.r1 n) z (log.drop z.made)) (gq:q≠ .stuck):
  Calls aw 156 #[ptr k.gp,aa ab n] w (ki k q w fun u w'=>∃ z',u= .tuple #[]/\df w' k z' log/\q=F .un z' (log.drop z'.made)/\z.made<=z'.made):=by
 have lp:=h.lt;have Mg:=h.hd.at_ 11 _ rfl;have HN:=ar gq;clear gq;go_enter Tryz.func156,Tryz.ntmps156
 go_wp2_with fail
 (with_reducible refine (jt .era k.l.era (fun r _ l'=>eM (2 * k.l.c.aM) k.me F (Sub.stp (2 * k.l.c.aM) z (.r1 n) r) l') h rfl (hq.trans (gj _ _ _ _ _ _))).mono ?_)
 rintro e w2 (⟨a,h1,rfl,h3⟩ | ⟨v,rfl,⟨⟨x1,x2⟩,hx,rfl,eB,mP⟩,aG⟩)
 ·exact ⟨rfl,.inl ⟨a,h1,rfl,h3⟩⟩
 have fR:=ar (show q=jO (2 * k.l.c.aM) k.me F (.r2 n x1) z.got (log.drop z.got.made) from mP)
 clear h hq hx mP Mg lp
 go_upto_region 1 with fail
 refine aP (S:=fun w'=>Hd k w'/\w'.cell? ⟨k.gp,31,none⟩=some (doV k)) (E:=fun _=>false) zK ?_
 replace eB:df w2.drew k z.got log:=eB.ay (aU (Below.refl w2.heap.size w2));replace aG:=aG.drew;generalize w2.drew=w3 at *;refine wTk 10 [(0,19,ptr k.gp),(1,20,ptr k.gp),(2,21,ae (some ⟨k.gp,31,none⟩)),(3,22,doV k),(4,23,ptr k.gp),(5,24,ptr k.gp),(6,25,ptr k.gp),(7,26,ae (some ⟨k.gp,11,none⟩)),(8,27,aa ab k.l.era),(9,28,.agg #[aa ab 4,aa ab k.l.era,aa ab 0,aa ab 1])] ?_ ⟨eB.hd,Hd.fn eB⟩ ?_
 ·intro w' hS;have Mg:=hS.1.at_ 11 _ rfl;have Ba:=hS.2
  (repeat' (first | exact aC | refine au ⟨_,rfl,.inl ⟨rfl,?_⟩⟩ ?_))
  all_goals exact zG
 simp only [aR,Act.put,aj,ak,al];refine aE (i:=10) (o:=_) zK rfl (fun K hK=>?_)
 (try simp only [aq,ao,an])
 unfold doV doG;go_simp;have hd:Calls aw 143 #[.agg #[aa ab 4,aa ab k.l.era,aa ab 0,aa ab 1],ptr k.gv,ptr k.gl] w3 _:=pdo ⟨4,.era,0,1⟩ (fun r _ l'=>eM (2 * k.l.c.aM) k.me F (Sub.stp (2 * k.l.c.aM) z.got (.r2 n x1) r) l') eB (fR.out.trans (gj _ _ _ _ _ _))
 (with_reducible refine hd.mono ?_)
 rintro e w4 (⟨a,h1,rfl,h3⟩ | ⟨v,rfl,⟨⟨y1,y2⟩,hy,rfl,fT,mJ⟩,lV⟩)
 ·exact ⟨rfl,.inl ⟨a,h1,rfl,aG.trans h3⟩⟩
 replace aG:=aG.trans lV;refine hK.out _ _ (fun _=>⟨fT.hd,Hd.fn fT⟩) ?_
 clear hK K eB lV hy fR
 (try simp only [Act.put,aj,ak,al])
 refine aN zK ?_ _
 by_cases jl:(z.gone.length:Int)+1 < 2 * k.l.c.aM
 ·have pq:q=F .un { z.got.got with gone:=z.gone++[(n,x1)] } (log.drop z.got.got.made):=by
   rw [mJ];show eM _ k.me F (if (z.gone.length:Int)+1 < 2 * k.l.c.aM then _ else _) _=_
   rw [if_pos jl];rfl
  have gK:=ar (au pq jl);have oe:z.gone.length<=1000:=zO;clear mJ pq;obtain ⟨gv,jI,hG,-⟩:=nC fT;replace hG:GnV w4 k.gp gv z.gone:=hG;have lp:=fT.lt;have HP:=ar (au fT aG);clear hd fT aG
  go_upto_region 2 with fail
  go_wp2_with fail
  (with_reducible refine (hG.clone oe).mono ?_)
  rintro e w5 ⟨G1,m1,c1,rfl,rfl,sM,bn,hb⟩;have zb:=hb.size;obtain ⟨t0,pP,jG,mw,mI⟩:=xE pa;have kr:=Bk.made w5 52 #[aa ab n,aa ab x1];have vy:=aB (Below.refl w5.heap.size w5) (ag #[aa ab n,aa ab x1] 52);have kE:=jD (show World.ownsRow w5 w4.heap.size 52 2 (.slice G1 z.gone.length c1) z.gone.length (cN z.gone) from bn) vy
  have fz:=aF hb vy;have jI:=(HP.out.1.ay fz).lt;have zs6:w4.heap.size<=(w5.alloc (ag #[aa ab n,aa ab x1] 52)).heap.size:=fz.size;clear jI hG bn
  go_upto_region 3 with (at_builtin;go_must (refine cM _ rfl (.tmp 35) (.tmp 39) _ rfl w4.heap.size 52 t0 _ 2 16 Tryz.underlying44 pP jG mw mI rfl zO (.slice G1 z.gone.length c1) z.gone.length (cN z.gone) rfl kE ⟨w5.heap.size,0,none⟩ 1 1 [aa ab n,aa ab x1] rfl rfl (fun j u hu=>by rw [fV,eE,kr.cell j];simpa using hu) (by simp [aD]) (by simp only [nu];omega) zO zP ?_;intro v9 w7 hrow7 hgrow7 _ _;have jc:=bY fz kE hgrow7 zs6 (az _);obtain ⟨gv7,q26,_,f26⟩:=nC (HP.out.1.ay jc);have l26:=(HP.out.1.ay jc).lt;obtain ⟨G9,c9,rfl⟩:=cj hrow7))
  have wy:iq w7 w4.heap.size (.slice G9 (z.gone.length+1) c9) (z.gone++[(n,x1)]):=by
   unfold iq;rw [ju,cJ];exact hrow7
  have hG7:GnV w7 k.gp (.slice G9 (z.gone.length+1) c9) (z.gone++[(n,x1)]):=Bw wy zS lp;have Ei:=(HP.out.1.ay jc).BU hG7;have yM:=(HP.out.2.trans (Stp.aS _ jc)).trans (Stp.set w7 k.gp 26 (.slice G9 (z.gone.length+1) c9));have jI:(w7.setCell ⟨k.gp,26,none⟩ (.slice G9 (z.gone.length+1) c9)).cell? ⟨k.gp,26,none⟩=some (.slice G9 (z.gone.length+1) c9):=by
   obtain ⟨gv,e0,e1,e2,kp,-,-⟩:=(HP.out.1.ay jc).kp;have:=(kp.stored 26 (.slice G9 (z.gone.length+1) c9)).cell 26
   simpa using this
  clear hrow7 wy hG7 hgrow7 jc fz hb vy kE kr q26 f26 l26 HP zb zs6 lp;generalize w7.setCell ⟨k.gp,26,none⟩ (.slice G9 (z.gone.length+1) c9)=w8 at *;refine aP (S:=fun w'=>Hd k w'/\w'.cell? ⟨k.gp,26,none⟩=some (.slice G9 (z.gone.length+1) c9)) (E:=fun _=>false) zK ?_
  replace Ei:=Ei.ay (aU (Below.refl w8.heap.size w8));replace yM:=yM.drew;replace jI:w8.drew.cell? ⟨k.gp,26,none⟩=some (.slice G9 (z.gone.length+1) c9):=jI;generalize w8.drew=w9 at *;refine wTk 13 [(0,43,ptr k.gp),(1,44,ptr k.gp),(2,45,ae (some ⟨k.gp,26,none⟩)),(3,46,.slice G9 (z.gone.length+1) c9),(4,47,aa ab ((z.gone.length+1:Nat):Int)),(5,48,ptr k.gp),(6,49,ptr k.gp),(7,50,ptr k.gp),(8,51,ptr k.gp),(9,52,ptr k.gp),(10,53,aa ab k.l.c.aM),(11,54,aa ab (2 * k.l.c.aM)),(12,55,ah true)] ?_ ⟨Ei.hd,jI⟩ ?_
  ·intro w' hS;have c0:=hS.1.at_ 0 _ rfl;have jI:=hS.2;have hw1:IntKind.i64.wrap (2 * k.l.c.aM)=2 * k.l.c.aM:=cV _ zO;have hw2:decide (((z.gone.length+1:Nat):Int) < 2 * k.l.c.aM)=true:=by simp;omega
   have hw3:(z.gone.length:Int)+1 < 2 * k.l.c.aM:=jl
   (repeat' (first | exact aC | refine au ⟨_,rfl,.inl ⟨rfl,?_⟩⟩ ?_))
   all_goals exact zG
  simp only [aR,Act.put,aj,ak,al];refine aN zK ?_ _
  go_wp2_with fail
  exact aX (v:=.tuple #[]) (dY rfl _ _ _) rfl (.inr ⟨_,rfl,⟨_,rfl,Ei,gK.out.1,by show z.made<=z.made+1+1;omega⟩,yM⟩)
 ·exact absurd (by rw [mJ];show eM _ k.me F (if (z.gone.length:Int)+1 < 2 * k.l.c.aM then _ else _) _=_;rw [if_neg jl];rfl) HN.out
end
end Go.Proofs.YtikdaeddbkopeaaGreatR.segment
