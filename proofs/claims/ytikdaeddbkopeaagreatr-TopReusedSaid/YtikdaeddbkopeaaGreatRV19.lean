/- A part of the proof. -/
import Derived.Test.YtikdaeddbkopeaaGreatRV13
import Derived.Test.YtikdaeddbkopeaaGreatRV15
import Derived.Test.YtikdaeddbkopeaaGreatRV14
import Derived.Test.YtikdaeddbkopeaaGreatRV16
set_option linter.unusedVariables false
set_option linter.unusedSimpArgs false
set_option maxRecDepth 100000
set_option maxHeartbeats 16000000
open And renaming intro → au
open Go renaming execOp → Av, wpList_load_row → aL, wp_at_zero → aV, wp_at_succ → aW, run_loadVar_row → be, wpList_append_own_at → cM, loadVar → dr, maxLen → nu, info_parts → xE
open Go.Ending renaming returned → ai
open Go.Instr renaming field → uP
open Go.IntKind renaming i64 → ab
open Go.IntWalk renaming i64_in → cV
open Go.Lib renaming hid → ar
open Go.Obj renaming cells → ag
open Go.Proofs.Tryz renaming underlying34 → aJ, prog → aw, underlying26 → fA, underlying35 → su
open Go.Result renaming andThen_ok → bQ
open Go.RowKit.Below renaming heap_setCell → pM
open Go.Sem renaming run_bind → di, run_pure → dx
open Go.Value renaming oneCell' → aD, int → sj, int → aa, pointer → ae, slice → af
open Go.WideShapes renaming add_plain → fV
open Go.World renaming ownsRow_nil → cZ
open List renaming getElem?_eq_some_iff → a8, getElem?_eq_getElem → aO, setIfInBounds_toArray → aj, set_cons_zero → ak, set_cons_succ → al, getElem_cons_zero → an, getElem_cons_succ → ao, getElem_toArray → aq, mem_cons → bD, mem_of_getElem? → bX, not_mem_nil → cB, length_append → cJ, nodup_cons → fy, set_nil → iL, take_add_one → j7, length_take → jM, mem_cons_of_mem → jk, range → xF
open Nat renaming le_trans → aQ, zero_le → aY, le_refl → az, zero_add → eE
open Option renaming isSome_some → gQ
open True renaming intro → aC
namespace Go.Proofs.YtikdaeddbkopeaaGreatR
theorem rf {n:Int} {L:List Int} (h:L.Nodup):L.count n=if n∈L then 1 else 0:=by
 split
 ·rename_i hm;have h1:=List.nodup_iff_count.1 h n;have h2:=List.count_pos_iff.2 hm;omega
 ·rename_i hm;exact List.count_eq_zero.2 hm
def Pl.gn:Pl->Option Nat
 | .dli s=>some s
 | .dsk s=>some s
 | _=>none
def m8 (ss:List fZ):List Int:=ss.flatMap fun x=>x.gone.map (·.1)
theorem DQ (o:Option Nat) (n:Int):∀ (ss:List fZ) (k0:Nat),(∀ i x,ss[i]? =some x->(x.gone.map (·.1)).count n=if o=some (k0+i) then 1 else 0)->(m8 ss).count n=match o with | none=>0 | some k=>if k0<=k/\k < k0+ss.length then 1 else 0
 | [],k0,_=>by
  cases o with
  | none=>rfl
  | some k=>show 0=if k0<=k/\k < k0+0 then 1 else 0;rw [if_neg zO]
 | x :: ss,k0,h=>by
  have h1:=h 0 x rfl;have h2:=DQ o n ss (k0+1) (fun i y hy=>by rw [h (i+1) y hy,show k0+(i+1)=k0+1+i by omega])
  have e:m8 (x :: ss)=x.gone.map (·.1)++m8 ss:=rfl;rw [e,List.count_append,h1,h2]
  cases o with
  | none=>rfl
  | some k=>
   simp only [Option.some.injEq,List.length_cons,Nat.add_zero]
   (repeat' split) <;> omega
section
variable {S N:Nat} {m:List Int} {sm:Sm} {g:Gh}
structure NdOk (l:Ly) (zs ls sk sg:List Int):Prop where
 nd:∀ a,1<=a/\a<=l.c.nodes->0<=nodeAt l a 0/\nodeAt l a 0 < zs.length
 b0:0<=dE l 0 0/\dE l 0 0 < zs.length
 b1:idxOf (zs.getD (dE l 0 0).toNat 0)=1
 t0:0<=eW l 0/\eW l 0 < zs.length
 t1:idxOf (zs.getD (eW l 0).toNat 0)=sk.headD 0
 h0:0<=dT l 0/\dT l 0 < zs.length
 h1:idxOf (zs.getD (dT l 0).toNat 0)=sg.headD 0
 l1:idxOf (zs.getD (nodeAt l 1 0).toNat 0)=ls.headD 0
 lc:lY (fun a=>idxOf (zs.getD (nodeAt l a 0).toNat 0)) ls
 sc:lY (fun a=>zs.getD (nodeAt l a 0).toNat 0) sk
 cc:lY (fun a=>zs.getD (nodeAt l a 0).toNat 0) sg
 li:∀ a∈ls,1<=a/\a<=l.c.nodes
 si:∀ a∈sk,1<=a/\a<=l.c.nodes
 ci:∀ a∈sg,1<=a/\a<=l.c.nodes
 ln:ls.Nodup
 sn:sk.Nodup
 cn:sg.Nodup
 ll:ls.length<=40
 sl:sk.length<=40
 cl:sg.length<=40
theorem Nt (G:Gl sm g):g.ls.Nodup:=by
 refine List.Pairwise.imp ?_ G.lsrt;intro a b h e;subst e;exact Int.lt_irrefl _ h
theorem nd_ok (G:Gl sm g) (R:Ar S N m sm) (h1:1<=S) (h3:S<=3) {ls:List Int} (hl:g.ls=1 :: ls):NdOk (lyW S) m ls g.sk g.sg:=by
 obtain ⟨e1,e2,e3,e4,e5,e6,e7,e8,e9⟩:=yD h1 h3;have il:∀ a∈g.ls,1<=a/\a<=40:=fun a ha=>G.rng a (by rw [(G.lmem a).1 ha];decide)
 have is:∀ a∈g.sk,1<=a/\a<=40:=fun a ha=>G.rng a (by rw [(G.smem a).1 ha];decide)
 have ic:∀ a∈g.sg,1<=a/\a<=40:=fun a ha=>G.rng a (by rw [(G.cmem a).1 ha];decide)
 have il':∀ a∈ls,1<=a/\a<=40:=fun a ha=>il a (by rw [hl];exact jk _ ha)
 have nl:=Nt G;rw [hl] at nl;have nl':ls.Nodup:=(fy.1 nl).2;have hd:∀ (L:List Int),(∀ a∈L,1<=a/\a<=40)->0<=L.headD 0/\L.headD 0 < 65536:=by
  intro L hL
  cases L with
  | nil=>exact ⟨Int.le_refl _,zD⟩
  | cons a r=>have:=hL a zS;exact ⟨by simp;omega,by simp;omega⟩
 have nat_:∀ a,1<=a/\a<=40->m.getD (nodeAt (lyW S) a 0).toNat 0=sm (.nd a 0):=fun a ha=>rU R h1 h3 (c:=.nd a 0) ⟨ha.1,ha.2,zD,zD⟩
 have sE:=G.sE;rw [hl] at sE;have len:=R.len;have c40:∀ a:Int,a<=(lyW S).c.nodes->a<=40:=fun a ha=>ha
 have eb:dE (lyW S) 0 0=10+12 * S+0:=lO h1 h3 (c:=.bucket 0) (.inl rfl);have et:eW (lyW S) 0=12+12 * S:=lO h1 h3 (c:=.top) trivial;have eh:dT (lyW S) 0=14+12 * S:=lO h1 h3 (c:=.head) trivial;refine ⟨?_,by rw [eb];omega,?_,by rw [et];omega,?_,by rw [eh];omega,?_,?_,?_,?_,?_,il',is,ic,nl',G.snd,G.cnd,nz 40 _ nl' il',nz 40 _ G.snd is,nz 40 _ G.cnd ic⟩
 ·intro a ha;rw [yB h1 h3 ⟨ha.1,c40 a ha.2⟩ zD];have:=c40 a ha.2;omega
 ·have:m.getD (dE (lyW S) 0 0).toNat 0=sm (.bucket 0):=rU R h1 h3 (c:=.bucket 0) (.inl rfl);rw [this,G.b0];exact iU zD zD
 ·have:m.getD (eW (lyW S) 0).toNat 0=sm .top:=rU R h1 h3 (c:=.top) trivial;obtain ⟨c,hc⟩:=G.tpw;rw [this,hc];exact iz _ _ _ (hd _ is).1 (hd _ is).2
 ·have:m.getD (dT (lyW S) 0).toNat 0=sm .head:=rU R h1 h3 (c:=.head) trivial;obtain ⟨c,hc⟩:=G.chd;obtain ⟨r,hr⟩:=G.c2;rw [this,hc,hr];exact iz _ _ _ zD zD
 ·rw [nat_ 1 ⟨zD,zD⟩];exact sE.head
 ·exact pD (fun a ha=>by rw [nat_ a (il' a ha)]) sE.tail
 ·exact pD (fun a ha=>nat_ a (is a ha)) G.sch
 ·exact pD (fun a ha=>nat_ a (ic a ha)) G.cch
end
theorem M9 {S:Nat} {want:List (List Opr)} {t:dG} (W:WE S want t) {stops:List Nat} (F:∀ s,s < S->tQ want stops true s t):∃ ls sk sg fl,NdOk (lyW S) t.m ls sk sg/\OS (lyW S) t.m fl/\
  (∀ n∈(1 :: ls)++sk++sg++fl++m8 t.aM,1<=n/\n<=40)/\(∀ n,1<=n->n<=40->((1 :: ls)++sk++sg++fl++m8 t.aM).count n=1)/\(∀ x∈t.aM,x.gone.length<=6):=by
 obtain ⟨sm,g,q,W⟩:=W;have G:=W.wk.gl;have h1:=W.wk.S1.1;have h3:=W.wk.S1.2;obtain ⟨ls,hl⟩:=G.lhd;have zX:∀ s x,t.aM[s]? =some x->eJ g s 0 0/\g.dd s=x.gone.map (·.1)/\x.gone.length<=6:=by
  intro s x hx;have hs:s < S:=by have:=(a8.1 hx).1;have:=W.sl;omega
  rcases F s hs with ⟨y,ops,hy,ho,hp⟩ | ⟨e,-⟩
  ·rw [hx] at hy;injection hy with hy
   subst hy;have R:=W.sr s x ops hx ho;have k:=W.wk.sq s ops ho;unfold uF at k;rw [R.cur,List.getElem?_eq_none_iff.2 zO] at k;exact ⟨k.2.1,by rw [<- R.gone];exact k.2.2,R.gl⟩
  ·cases e
 have kY:∀ n∈m8 t.aM,1<=n/\n<=40:=by
  intro n hn;simp only [m8,List.mem_flatMap] at hn;obtain ⟨x,hx,hn⟩:=hn;obtain ⟨s,hs⟩:=List.getElem?_of_mem hx;rw [<- (zX s x hs).2.1] at hn;refine G.rng n ?_;rcases (G.lM s n).1 hn with e | e <;> rw [e] <;> exact fun h=>by cases h
 refine ⟨ls,g.sk,g.sg,g.fl,nd_ok G W.mr h1 h3 hl,J4 G W.mr h1 h3,?_,?_,?_⟩
 ·rw [<- hl];intro n hn;simp only [List.mem_append] at hn;rcases hn with (((hn | hn) | hn) | hn) | hn
  ·exact G.rng n (by rw [(G.lmem n).1 hn];decide)
  ·exact G.rng n (by rw [(G.smem n).1 hn];decide)
  ·exact G.rng n (by rw [(G.cmem n).1 hn];decide)
  ·exact ⟨((G.fmem n).1 hn).1,((G.fmem n).1 hn).2.1⟩
  ·exact kY n hn
 ·rw [<- hl];intro n n1 n40;have hc:=DQ (g.st n).gn n t.aM 0 (fun i x hx=>by
   obtain ⟨-,e,-⟩:=zX i x hx;rw [<- e,rf (G.dnd i)];have:=G.lM i n
   by_cases hm:n∈g.dd i
   ·rw [if_pos hm];rcases this.1 hm with e | e <;> rw [e] <;> simp [Pl.gn]
   ·rw [if_neg hm,if_neg];intro e;refine hm (this.2 ?_);rw [eE] at e
    cases hq:g.st n with
    | dli s=>rw [hq] at e;injection e with e;subst e;exact .inl rfl
    | dsk s=>rw [hq] at e;injection e with e;subst e;exact .inr rfl
    | _=>rw [hq] at e;cases e)
  have own:∀ s,g.st n≠ .ow s:=by
   intro s e
   by_cases hs:s < S
   ·obtain ⟨x,hx⟩:∃ x,t.aM[s]? =some x:=⟨_,aO (by have:=W.sl;omega)⟩
    have:=((zX s x hx).1 n).1 e;omega
   ·have:=((W.wk.no s zO).1 n).1 e;omega
  have gone:∀ s,(g.st n= .dli s\/g.st n= .dsk s)->s < t.aM.length:=by
   intro s e;have:=W.sl
   by_cases hs:s < S
   ·omega
   ·have h2:=(G.lM s n).2 e;rw [(W.wk.no s zO).2] at h2
    cases h2
  rw [List.count_append,List.count_append,List.count_append,List.count_append,hc,rf (Nt G),rf G.snd,rf G.cnd,rf G.fnd];simp only [G.lmem,G.smem,G.cmem,G.fmem]
  cases hq:g.st n with
  | fr=>simp [Pl.gn];omega
  | ow s=>exact absurd hq (own s)
  | li=>simp [Pl.gn]
  | sk=>simp [Pl.gn]
  | sg=>simp [Pl.gn]
  | dli s=>have:=gone s (.inl hq);simp [Pl.gn];omega
  | dsk s=>have:=gone s (.inr hq);simp [Pl.gn];omega
 ·intro x hx;obtain ⟨s,hs⟩:=List.getElem?_of_mem hx;exact (zX s x hs).2.2
end Go.Proofs.YtikdaeddbkopeaaGreatR
namespace Go.Proofs.YtikdaeddbkopeaaGreatR
open Go.RowKit
attribute [local go_sem ↓] aV aW
theorem Di (L M:List Int):ints L++ints M=ints (L++M):=by simp [ints]
theorem vj {o:Oper} {a:Act} {w:World} {K:Act->World->Prop} {Q:Exit->Act->World->Prop} (s x:Operand) (ho:o.op= .call { callee:=.builtin .append,args:=#[s,x],argTypes:=#[35,35] })
  (base:Nat) (v:Value) (L:List Int) (hs:a.eval s=v) (bn:bd w base v L) {b2:Nat} (B:Option Addr) (d:Nat) (M:List Int) (hx:a.eval x= .slice B M.length d) (cP:bd w b2 (.slice B M.length d) M)
  (hl:L.length+M.length<=100000) (DA:base<=w.heap.size) (h:∀ v' w',bd w' base v' (L++M)->w.grownBy w' v.ownBlock->K (a.put o.dst v') w'):o.wp aw a w K Q:=by
 obtain ⟨i,hi⟩:=ph;refine eY hi s x ho base v L.length (ints L) hs bn B M.length d (ints M) hx (Src.own cP (az _)) (Dh M) zO hl DA fun v' w' h2 h3=>h v' w' ?_ h3
 rw [Di] at h2;show w'.ownsRow base 3 1 v' (L++M).length (ints (L++M));rw [cJ];exact h2
theorem nE {ops:Array Oper} {rest:List Oper} {o:Oper} {a:Act} {w:World} {Q:Exit->Act->World->Prop} (hgd:o.guard=none) (s x:Operand) (ho:o.op= .call { callee:=.builtin .append,args:=#[s,x],argTypes:=#[35,35] })
  (base:Nat) (v:Value) (L:List Int) (hs:a.eval s=v) (bn:bd w base v L) {b2:Nat} (B:Option Addr) (d:Nat) (M:List Int) (hx:a.eval x= .slice B M.length d) (cP:bd w b2 (.slice B M.length d) M)
  (hl:L.length+M.length<=100000) (DA:base<=w.heap.size) (h:∀ v' w',bd w' base v' (L++M)->w.grownBy w' v.ownBlock->wpList aw ops Q rest (a.put o.dst v') w'):wpList aw ops Q (o :: rest) a w:=
 wpList_plain hgd fun _ hK=>vj s x ho base v L hs bn B d M hx cP hl DA fun v' w' h2 h3=>hK _ _ (h v' w' h2 h3)
def OnR (w:World) (l:Ly) (A:Option Addr) (n c:Nat) (f:Nat->List Int) (v5 vi:Value) (wr:World):Prop:=
 ∃ k:Nat,k<=1/\vi=aa ab (k:Nat)/\Below w.heap.size w wr/\Bk wr w.heap.size 34 (lyC l)/\Bk wr (w.heap.size+1) 37 #[.slice A n c]/\bd wr w.heap.size v5 (f k)
def oN (a b:List Int):Nat->List Int
 | 0=>a
 | _=>a++b
theorem IS (l:Ly) (A:Option Addr) (c n:Nat) (zs ls sk sg:List Int) (w:World) (f:dU l) (h:gJ w w.heap.size A zs) (hn:zs.length=n) (hm:l.c.maps=1) (aG:l.c.stacks=1) (mK:l.c.chans=1) (hN:1<=l.c.nodes/\l.c.nodes<=1000) (O:NdOk l zs ls sk sg):
  Calls aw 11 #[lyV l,.agg #[.slice A n c]] w fun e w'=>∃ B d,e=ai (.slice B (1 :: ls++sk++sg).length d)/\bd w' w.heap.size (.slice B (1 :: ls++sk++sg).length d) (1 :: ls++sk++sg)/\Below w.heap.size w w':=by
 have k0:=(Bk.made w 34 (lyC l)).alloc (ag #[.slice A n c] 37);have kM:=Bk.new (w.alloc (ag (lyC l) 34)) (g:=w.heap.size+1) zS 37 #[.slice A n c];have bz:=aB (aB (Below.refl w.heap.size w) (ag (lyC l) 34)) (ag #[.slice A n c] 37);obtain ⟨i0,pP,jG,mw,mI⟩:=xE jw;have F:=ar f;have HO:=ar O;have HS:=ar (au h hn);have HC:=ar (au hm (au aG mK));have HN:=ar hN;have q6:((w.alloc (ag (lyC l) 34)).alloc (ag #[.slice A n c] 37)).cell? ⟨w.heap.size,6,none⟩=some (aa ab 1):=by rw [k0.cell 6];show some (sj .i64 l.c.maps)=_;rw [hm]
 clear f O h hn hm aG mK hN;go_enter Tryz.func11,Tryz.ntmps11
 go_wp2_with fail
 generalize (w.alloc (ag (lyC l) 34)).alloc (ag #[.slice A n c] 37)=w1 at *
 go_loopw [5,14] (fun v5 v14 wr=>OnR w l A n c (oN [] (1 :: ls)) v5 v14 wr) (fun _ v14 _=>1 - (intOf v14).toNat)
 case atStart=>exact ⟨0,zO,rfl,bz,k0,kM,cZ _ _ _ _⟩
 case round=>
  obtain ⟨k,hk,rfl,hb,k1,pN,bn⟩:=hrel;clear q6 k0 kM bz;rcases (show k=0\/k=1 by omega) with rfl | rfl
  ·go_wp2_with (refine aL rfl 34 (.tmp 2) rfl w.heap.size rfl 34 (lyC l) (0,0) _ k1 aJ rfl zK ?_)
   (with_reducible refine (nP l 0 0 _ F.out).mono ?_)
   rintro e w4 ⟨rfl,jR⟩;have k2:=k1.ay jR;have nA:=pN.ay jR;have cP:=bc bn jR;have gS:=aF hb jR;clear jR hb bn k1 pN;obtain ⟨bk,Dz⟩:∃ z,dE l 0 0=z:=⟨_,rfl⟩;have vy:=HO.out.b0;have qO:=HO.out.b1;rw [Dz,HS.out.2] at vy;rw [Dz] at qO;rw [Dz];clear Dz;obtain ⟨j,rfl⟩:∃ j:Nat,bk=j:=⟨bk.toNat,zO⟩;rw [show (j:Int).toNat=j from rfl] at qO
   have hjn:j < n:=zO;obtain ⟨x,hx⟩:∃ x,zs[j]? =some x:=⟨_,aO (by rw [HS.out.2];exact hjn)⟩
   rw [List.getD_eq_getElem?_getD,hx,Option.getD_some] at qO;obtain ⟨b,o,rfl,ey,hc⟩:=HS.out.1 (by rw [HS.out.2];omega)
   have q:=(cO gS ey).trans (hc j x hx);have g0:decide ((j:Int)>=0)=true:=zS;have g1:decide ((j:Int) < n)=true:=by simp;omega
   have i1:(j:Int) < n:=zO;have qM:=nA.cell 0;simp at qM;clear hc hx
   go_wp2_with fail
   (with_reducible refine (gV x _).mono ?_)
   rintro e w5 ⟨rfl,fz⟩;replace k2:=k2.ay fz;replace nA:=nA.ay fz;replace cP:=bc cP fz;replace gS:=aF gS fz;clear fz q qM g0 g1 i1;rw [show x % 65536=1 from qO]
   generalize (x / 65536 % 2==1)=z1;generalize x / 131072 % 268435456=z2;have A6:∀ w:World,(uP 81 (.agg #[aa ab 1,.bool z1,aa ab z2]) 0).run aw w= .ok (aa ab 1) w:=fun w=>by kernel_rfl
   have sK:=World.ownsRow.alloc cP (ag #[aa ab 1] 3);have fz:=aB gS (ag #[aa ab 1] 3);have fq:=aB (Below.refl w5.heap.size w5) (ag #[aa ab 1] 3)
   go_upto_region 11 with (at_builtin;go_must (refine cM _ rfl (.tmp 38) (.tmp 40) _ rfl w.heap.size 3 i0 _ 1 8 su pP jG mw mI rfl zO u5 0 (ints []) rfl sK ⟨w5.heap.size,0,none⟩ 1 1 [aa ab 1] rfl rfl (jC _) (by simp [aD]) (by simp only [nu];omega) zO (by simp;have:=gS.size;omega) ?_;intro v9 w8 eu hgrow4 _ _))
   have tU:=cI sK hgrow4;replace k2:=(k2.ay fq).dh tU zD;replace nA:=(nA.ay fq).dh tU zD;have jc:=bY fz sK hgrow4 fz.size (az _);have Lf:bd w8 w.heap.size v9 [1]:=eu;clear tU fq fz sK hgrow4 eu gS cP A6;refine aP (S:=fun w'=>Bk w' w.heap.size 34 (lyC l)/\Bk w' (w.heap.size+1) 37 #[af (some ⟨b,o,none⟩) n c]) (E:=fun i=>false) zK ?_
   have dD:=aU (Below.refl w8.heap.size w8);replace k2:=k2.ay dD;replace nA:=nA.ay dD;replace Lf:=bc Lf dD;replace jc:=aF jc dD;clear dD;generalize w8.drew=w9 at *;refine wTk 3 [(0,42,v9),(2,44,.agg #[af (some ⟨b,o,none⟩) n c]),(4,46,aa ab 1)] ?_ ⟨k2,nA⟩ ?_
   ·intro w' hS;have c0:=hS.2.cell 0;simp at c0
    (repeat' (first | exact aC | refine au ⟨_,rfl,.inl ⟨rfl,?_⟩⟩ ?_))
    all_goals exact zG
   simp only [aR,Act.put,aj,ak,al];refine wTk 2 [(1,43,lyV l),(3,45,lyV l)] ?_ ⟨k2,nA⟩ ?_
   ·intro w' hS;have fg:(dr 34 ⟨w.heap.size,0,none⟩).run aw w'= .ok (lyV l) w':=be w' w.heap.size 34 34 (lyC l) (0,0) _ hS.1 aJ rfl zK
    (repeat' (first | exact aC | refine au ⟨_,rfl,.inl ⟨rfl,?_⟩⟩ ?_))
    all_goals exact list.bI rfl rfl fg
   simp only [aR,Act.put,aj,ak,al];refine aE (i:=5) (o:=_) zK rfl (fun K hK=>?_)
   (try simp only [aq,ao,an])
   go_simp
   (with_reducible refine (dt l 1 0 _ F.out zD).mono ?_)
   rintro e wa ⟨rfl,fq⟩;replace k2:=k2.ay fq;replace nA:=nA.ay fq;replace Lf:=bc Lf fq;replace jc:=aF jc fq;clear fq;refine hK.out _ _ (fun _=>⟨k2,nA⟩) ?_
   clear hK K
   (try simp only [Act.put,aj,ak,al])
   refine aE (i:=6) (o:=_) zK rfl (fun K hK=>?_)
   (try simp only [aq,ao,an])
   go_simp;have O:=HO.out;have OD:=O.nd;rw [HS.out.2] at OD
   (with_reducible refine (list.ks l (nodeAt l 1 0) (some ⟨b,o,none⟩) c n zs ls _ F.out ((HS.out.1.below jc).more jc.size) HS.out.2 HN.out.2 (OD 1 ⟨zD,by have:=HN.out.1;omega⟩) OD O.l1 O.lc O.li O.ln (aQ O.ll zD)).mono ?_)
   rintro e wb ⟨BL,dL,rfl,hoL,fq⟩;replace k2:=k2.ay fq;replace nA:=nA.ay fq;replace Lf:=bc Lf fq;replace jc:=aF jc fq;clear fq;refine hK.out _ _ (fun _=>⟨k2,nA⟩) ?_
   clear hK K
   (try simp only [Act.put,aj,ak,al])
   refine aE (i:=7) (o:=_) zK rfl (fun K hK=>?_)
   (try simp only [aq,ao,an])
   have hll:=O.ll;refine vj (.tmp 42) (.tmp 48) rfl w.heap.size v9 [1] rfl Lf BL dL ls rfl hoL zP jc.size (fun va wc gy de=>?_)
   have wZ:=cI Lf de;have pQ:=bY jc Lf de jc.size (az _);replace k2:=k2.dh wZ zD;replace nA:=nA.dh wZ zD;refine hK.out _ _ (fun _=>⟨k2,nA⟩) ?_
   clear hK K wZ de Lf jc
   (try simp only [Act.put,aj,ak,al])
   refine wTk 1 [(8,5,va)] ?_ ⟨k2,nA⟩ ?_
   ·intro w' hS
    (repeat' (first | exact aC | refine au ⟨_,rfl,.inl ⟨rfl,?_⟩⟩ ?_))
    all_goals exact zG
   simp only [aR,Act.put,aj,ak,al];refine aN zK ?_ _
   go_wp2_with fail
   exact ⟨⟨1,zO,rfl,pQ,k2,nA,gy⟩,by simp [intOf]⟩
  ·rw [show ((1:Nat):Int)=1 from rfl]
   have ew:bd wr w.heap.size u5 (1 :: ls):=bn;have q7:=k1.cell 7;simp at q7;rw [HC.out.2.1] at q7;have q6:=k1.cell 6;simp at q6;rw [HC.out.1] at q6
   go_wp2_with fail
   clear bn q6 q7
   go_loopw [5,54] (fun v5 v54 wq=>OnR w l A n c (oN (1 :: ls) sk) v5 v54 wq) (fun _ v54 _=>1 - (intOf v54).toNat)
   case atStart=>exact ⟨0,zO,rfl,hb,k1,pN,ew⟩
   case round=>
    obtain ⟨k,hk,rfl,cY,k2,nA,cP⟩:=hrel;clear hb k1 pN ew;rcases (show k=0\/k=1 by omega) with rfl | rfl
    ·have fH:bd wr w.heap.size u5 (1 :: ls):=cP
     go_wp2_with (first | (refine aL rfl 34 (.tmp 2) rfl w.heap.size rfl 34 (lyC l) (0,0) _ k2 aJ rfl zK ?_) | (refine aL rfl 37 (.tmp 3) rfl (w.heap.size+1) rfl 37 #[.slice A n c] (0,0) _ nA Tryz.underlying37 rfl zK ?_))
     have O:=HO.out;have OD:=O.nd;have Ot:=O.t0;rw [HS.out.2] at OD Ot
     (with_reducible refine (stack.ks l 0 A c n zs sk _ F.out ((HS.out.1.below cY).more cY.size) HS.out.2 HN.out.2 Ot OD O.t1 O.sc O.si O.sn (aQ O.sl zD)).mono ?_)
     rintro e w4 ⟨BL,dL,rfl,hoL,fq⟩;replace k2:=k2.ay fq;replace nA:=nA.ay fq;replace fH:=bc fH fq;replace cY:=aF cY fq;have hll:=O.ll;have lg:=O.sl;clear fq cP OD O Ot
     go_wp2_with (at_builtin;go_must (refine nE rfl (.tmp 57) (.tmp 61) rfl w.heap.size u5 (1 :: ls) rfl fH BL dL sk rfl hoL zP cY.size ?_;intro va wc gy de))
     have wZ:=cI fH de;exact ⟨⟨1,zO,rfl,bY cY fH de cY.size (az _),k2.dh wZ zD,nA.dh wZ zD,gy⟩,by simp [intOf]⟩
    ·rw [show ((1:Nat):Int)=1 from rfl]
     have ew:bd wr w.heap.size u5 (1 :: ls++sk):=cP;have q8:=k2.cell 8;simp at q8;rw [HC.out.2.2] at q8;have q7:=k2.cell 7;simp at q7;rw [HC.out.2.1] at q7
     go_wp2_with fail
     clear cP q8 q7
     go_loopw [5,67] (fun v5 v67 wp=>OnR w l A n c (oN (1 :: ls++sk) sg) v5 v67 wp) (fun _ v67 _=>1 - (intOf v67).toNat)
     case atStart=>exact ⟨0,zO,rfl,cY,k2,nA,ew⟩
     case round=>
      obtain ⟨k,hk,rfl,jg,k3,K9,cP⟩:=hrel;clear cY k2 nA ew;rcases (show k=0\/k=1 by omega) with rfl | rfl
      ·have fH:bd wr w.heap.size u5 (1 :: ls++sk):=cP
       go_wp2_with (first | (refine aL rfl 34 (.tmp 2) rfl w.heap.size rfl 34 (lyC l) (0,0) _ k3 aJ rfl zK ?_) | (refine aL rfl 37 (.tmp 3) rfl (w.heap.size+1) rfl 37 #[.slice A n c] (0,0) _ K9 Tryz.underlying37 rfl zK ?_))
       have O:=HO.out;have OD:=O.nd;have Ot:=O.h0;rw [HS.out.2] at OD Ot
       (with_reducible refine (segment.ks l 0 A c n zs sg _ F.out ((HS.out.1.below jg).more jg.size) HS.out.2 HN.out.2 Ot OD O.h1 O.cc O.ci O.cn (aQ O.cl zD)).mono ?_)
       rintro e w4 ⟨BL,dL,rfl,hoL,fq⟩;replace k3:=k3.ay fq;replace K9:=K9.ay fq;replace fH:=bc fH fq;replace jg:=aF jg fq;have hll:=O.ll;have lg:=O.sl;have jm:=O.cl;clear fq cP OD O Ot
       go_wp2_with (at_builtin;go_must (refine nE rfl (.tmp 70) (.tmp 74) rfl w.heap.size u5 (1 :: ls++sk) rfl fH BL dL sg rfl hoL zP jg.size ?_;intro va wc gy de))
       have wZ:=cI fH de;exact ⟨⟨1,zO,rfl,bY jg fH de jg.size (az _),k3.dh wZ zD,K9.dh wZ zD,gy⟩,by simp [intOf]⟩
      ·rw [show ((1:Nat):Int)=1 from rfl]
       have ew:bd wr w.heap.size u5 (1 :: ls++sk++sg):=cP;have q8:=k3.cell 8;simp at q8;rw [HC.out.2.2] at q8;obtain ⟨G,d,rfl⟩:=cj ew
       go_wp2_with fail
       go_ret
       exact ⟨G,d,rfl,ew,jg⟩
theorem IQ {o:Oper} {a:Act} {w:World} {K:Act->World->Prop} {Q:Exit->Act->World->Prop} (s x:Operand) (ho:o.op= .call { callee:=.builtin .append,args:=#[s,x],argTypes:=#[35,35] })
  (g:Addr) (hs:a.eval s=af (some g) 0 0) {b2:Nat} (B:Option Addr) (d:Nat) (M:List Int) (hx:a.eval x= .slice B M.length d) (cP:bd w b2 (.slice B M.length d) M) (hm:0 < M.length) (hl:M.length<=100000)
  (h:∀ B' d' w',bd w' w.heap.size (.slice B' M.length d') M->Below w.heap.size w w'->K (a.put o.dst (.slice B' M.length d')) w'):o.wp aw a w K Q:=by
 obtain ⟨i,T⟩:=ph;obtain ⟨hle,qH⟩:=Src.own cP (az w.heap.size);rcases qH with ⟨_,h0,_⟩ | ⟨gg,of,rfl,_,hc⟩
 ·omega
 ·have hmx:M.length<=nu:=by simp only [nu];omega
  have hr:=run_append_grow (P:=aw) (w:=w) 35 o.type 3 i (aa ab 0) T.und T.info T.zero g 0 0 [] zS (by intro j v hj;simp at hj) ⟨gg,of,none⟩ M.length d (ints M) (by rw [T.hsize,hle]) (fun j u hu=>by rw [fV];exact hc j u hu) zO zO (growslice_fits zO (by rw [T.hbytes];omega))
  rw [eE] at hr;unfold Oper.wp Av;simp only [ho,resolve,invoke,builtin,di,dx,bQ,List.map_toArray,List.map_cons,List.map_nil,hs,hx,hr];refine h _ _ _ ⟨hle,.inr ⟨w.heap.size,_,_,rfl,az _,heap_alloc_new w.drew _,grownCap_ge w _ _ _,grownCap_le_maxLen w _ _ _ hmx,?_,?_⟩⟩ (aF (aU (Below.refl w.heap.size w)) (aB (Below.refl _ _) _))
  ·have hge:=grownCap_ge w M.length 0 3;have hz:(sj .i64 0).cells.size=1:=rfl;simp only [Array.size_append,List.size_toArray,size_zeroCells,hz,hle,List.length_nil];omega
  ·have e:M.length * 1=(ints M).length:=hle.symm;simp only [Array.toList_append,List.append_assoc,List.nil_append];rw [e];exact List.take_left
theorem M3 {w:World} {base g i:Nat} {v u:Value} {L:List Int} (h:bd w base v L) (hg:g < base):bd (w.setCell ⟨g,i,none⟩ u) base v L:=by
 refine ⟨h.1,?_⟩;rcases h.2 with h2 | ⟨b,cap,cur,e,hb,hk,r⟩
 ·exact .inl h2
 ·exact .inr ⟨b,cap,cur,e,hb,(pM w ⟨g,i,none⟩ u b (by show b≠g;omega)).trans hk,r⟩
def xt (L:List Int):Array Value:=((xF 41).map fun (n:Nat)=>sj .i64 ((L.count (n:Int):Nat):Int)).toArray
theorem xK (L:List Int) {j:Nat} (h:j < 41):(xt L)[j]? =some (aa ab ((L.count (j:Int):Nat):Int)):=by
 unfold xt;rw [List.getElem?_toArray,List.getElem?_map,List.getElem?_range h];rfl
theorem No (L:List Int) {j:Nat} (h:j < 41):(xt L).setIfInBounds j (aa ab ((L.count (j:Int)+1:Nat):Int))=xt (L++[(j:Int)]):=by
 apply Array.ext_getElem?;intro k;have hs:∀ L,(xt L).size=41:=fun L=>by simp [xt]
 by_cases hk:k < 41
 ·rw [xK _ hk,Array.getElem?_setIfInBounds,hs]
  by_cases e:j=k
  ·subst e;rw [if_pos rfl,if_pos h,List.count_append];simp
  ·rw [if_neg e,xK _ hk,List.count_append,List.count_cons,List.count_nil];have:¬ ((j:Int)==(k:Int))=true:=by simp;omega
   rw [if_neg this];rfl
 ·rw [Array.getElem?_eq_none (by rw [Array.size_setIfInBounds,hs];omega),Array.getElem?_eq_none (by rw [hs];omega)]
theorem yV (ss:List fZ) {k:Nat} {x:fZ} (h:ss[k]? =some x):m8 (ss.take (k+1))=m8 (ss.take k)++x.gone.map (·.1):=by
 rw [j7,h];simp [m8]
def reT:Nat->Nat | 0=>40 | 9=>49 | 10=>50 | _=>59
def reP (i:Nat):List Nat:=if i=10 then [0,9] else []
def reR (L M:List Int) (base:Nat) (i:Nat) (_:Nat->Option Value) (v:Value) (w:World):Prop:=match i with
 | 0=>∃ g,v=af (some ⟨g,0,none⟩) 0 0
 | 19=>∃ B d,v= .slice B M.length d/\bd w base (.slice B M.length d) M
 | _=>∃ B d,v= .slice B L.length d/\bd w base (.slice B L.length d) L
theorem MT (L M:List Int) (base:Nat) (i:Nat) (val dV:Nat->Option Value) (v:Value) (w1 w2:World) (_:∀ j u,val j=some u->dV j=some u) (hb:Below w1.heap.size w1 w2) (h:reR L M base i val v w1):reR L M base i dV v w2:=by
 unfold reR at h ⊢;split at h
 ·exact h
 ·obtain ⟨B,d,e,ho⟩:=h;exact ⟨B,d,e,bc ho hb⟩
 ·obtain ⟨B,d,e,ho⟩:=h;exact ⟨B,d,e,bc ho hb⟩
theorem IK {want:List (List Opr)} {turns:List Nat} {n m:Nat} {A T:Option Addr} {cw d s0 s1 s2:Nat} {w:World} (hn:want.length=n) (hm:turns.length=m) (hW:mB w w.heap.size A want) (hT:zF w w.heap.size T turns) (hs0:s0 < 256) (cQ:s1 < 256) (dB:s2 < 256):
  Calls aw 4 #[.agg (cK A n cw T m d s0 s1 s2)] w (kW true w):=by
 have k0:=Bk.made w 26 (cK A n cw T m d s0 s1 s2);have mx:=aB (Below.refl w.heap.size w) (ag (cK A n cw T m d s0 s1 s2) 26);go_enter Tryz.func4,Tryz.ntmps4
 go_wp2_with (refine aL rfl 26 (.tmp 1) rfl w.heap.size rfl 26 (cK A n cw T m d s0 s1 s2) (0,0) _ k0 fA rfl zK ?_)
 generalize w.alloc (ag (cK A n cw T m d s0 s1 s2) 26)=w1 at *
 (with_reducible refine (CA A T n cw m d s0 s1 s2 want w1 hn ((hW.below mx).more mx.size)).mono ?_)
 rintro e w2 ⟨rfl,cY⟩;replace k0:=k0.ay cY;have hb:=aF mx cY;clear mx cY
 cases hf:ry want m with
 | false=>
  go_wp2_with fail
  (with_reducible refine (nD _).mono ?_)
  rintro e wz ⟨rfl,Kb⟩
  go_wp2_with fail
  go_ret
  exact ⟨rfl,aF hb Kb⟩
 | true=>
  obtain ⟨S1,S3,m2,ok⟩:=xQ hf;clear hf;have P:rJ w2 w2.heap.size want turns n A T m s0 s1 s2:=⟨(hW.below hb).more hb.size,(hT.below hb).more hb.size,hn,hm,m2,zO,zO,ok,hs0,cQ,dB⟩;clear hW hT
  go_wp2_with (refine aL rfl 26 (.tmp 1) rfl w.heap.size rfl 26 (cK A n cw T m d s0 s1 s2) (0,0) _ k0 fA rfl zK ?_)
  (with_reducible refine (tm P).mono ?_)
  rintro e w3 ⟨gt,rfl,Ep,jg⟩;have we0:=tX hn zO zO ok [s0,s1,s2] turns zO;obtain ⟨t0,ht0⟩:∃ z,fW (lyW n) want [s0,s1,s2] turns (ni n)=z:=⟨_,rfl⟩;rw [ht0] at Ep we0;clear ht0;have wb0:WB n want 200 t0:=⟨we0.1,by have:=we0.2.1;omega,by have:=we0.2.2;omega⟩
  clear we0;have hrs:∀ (all:Bool) (t:dG),oy (lyW n) want [s0,s1,s2] all t=nJ (lyW n) want [s0,s1,s2] all n t:=fun all t=>by unfold oy nJ;rw [hn]
  replace k0:=k0.ay jg;have L3:=hb.size;replace hb:=aF hb jg;obtain ⟨B,hB⟩:∃ z,w2.heap.size=z:=⟨_,rfl⟩;have P3:=P.below jg;rw [hB] at Ep L3 P3;have hBs:=jg.size;rw [hB] at hBs;clear jg P hB
  go_wp2_with (refine aL rfl 26 (.tmp 1) rfl w.heap.size rfl 26 (cK A n cw T m d s0 s1 s2) (0,0) _ k0 fA rfl zK ?_)
  (with_reducible refine (rN false P3 hBs Ep wb0 zD).mono ?_)
  rintro e w4 ⟨rfl,hT4,ts4⟩;have wb1:WB n want (200+6003 * n) (oy (lyW n) want [s0,s1,s2] false t0):=by rw [hrs];exact wb0.nJ zD zO n (az _)
  obtain ⟨t1,ht1⟩:∃ z,oy (lyW n) want [s0,s1,s2] false t0=z:=⟨_,rfl⟩;rw [ht1] at hT4 wb1;replace k0:=ts4.ay k0 ⟨zD,zD,zD,zD⟩;replace hb:=hb.trans (ts4.below.mono L3);have P4:=P3.below ts4.below;have hBs4:=aQ hBs ts4.below.size;clear Ep P3 hBs ts4 wb0 ht1
  go_wp2_with (refine aL rfl 26 (.tmp 1) rfl w.heap.size rfl 26 (cK A n cw T m d s0 s1 s2) (0,0) _ k0 fA rfl zK ?_)
  (with_reducible refine (rN true P4 hBs4 hT4 wb1 zO).mono ?_)
  rintro e w5 ⟨rfl,hT5,ts5⟩;obtain ⟨we2,-,gW⟩:=WE.rest (stops:=[s0,s1,s2]) (all:=true) hn zO wb1.we (by have:=wb1.ev;omega)
  obtain ⟨t2,ht2⟩:∃ z,oy (lyW n) want [s0,s1,s2] true t1=z:=⟨_,rfl⟩;rw [ht2] at hT5 we2 gW;replace hb:=hb.trans (ts5.below.mono L3);have hBs5:=aQ hBs4 ts5.below.size;obtain ⟨ls,sk,sg,fl,NO,LO,nZ,Ji,h6⟩:=M9 we2 gW;have lg:t2.aM.length=n:=by obtain ⟨sm,g,q,W⟩:=we2;exact W.sl
  have A4:t2.m.length=336+12 * n:=by obtain ⟨sm,g,q,W⟩:=we2;exact W.mr.len
  clear hT4 P4 ts5 wb1 ht2 k0 we2 gW hrs;obtain ⟨gs,mv,ev,cv,X⟩:=hT5;obtain ⟨gm,cm,rfl,wW⟩:=X.mem;rw [A4] at X;have c1:=X.tab.cell 1;have qQ:=X.tab.cell 29;have rC:=X.tab.cell 30;simp at qQ rC;replace c1:w5.cell? ⟨gt,1,none⟩=some (aa ab 40):=c1;have lT:=X.tab.lt;have HX:=ar (au X wW);clear X wW;have mU:(Instr.makeSlice 35 (aa ab 41) (aa ab 41)).run aw w5= .ok (af (some ⟨w5.heap.size,0,none⟩) 41 41) (w5.alloc (ag (xt []) 3)):=zK
  go_upto_region 9 with fail
  obtain ⟨X,wW⟩:=HX.out;have kM:=Bk.made w5 3 (xt []);have fq:=aB (Below.refl w5.heap.size w5) (ag (xt []) 3);replace X:=X.ay fq;replace wW:=bc wW fq;have mx:=hb;replace hb:=aF hb fq;have hBs6:=aQ hBs5 fq.size;have hg4b:w.heap.size<=w5.heap.size:=mx.size;clear HX mU fq c1 qQ rC lT hBs5 mx;generalize w5.alloc (ag (xt []) 3)=w6 at *;obtain ⟨g4,hg4⟩:∃ z,w5.heap.size=z:=⟨_,rfl⟩;rw [hg4] at kM hg4b;simp only [hg4];clear hg4;refine aP (S:=fun w'=>Below w6.drew.heap.size w6.drew w') (E:=fun _=>false) zK ?_
  have dD:=aU (Below.refl w6.heap.size w6);replace X:=X.ay dD;replace wW:=bc wW dD;replace kM:=kM.ay dD;replace hb:=aF hb dD;have hBs7:=aQ hBs6 dD.size;clear dD hBs6;generalize w6.drew=w7 at *;have hsI:=fJ wW;have full:dU (lyW n):=vo _ (Ox zO zO);obtain ⟨L0,hL0⟩:∃ z,1 :: ls++sk++sg=z:=⟨_,rfl⟩;have hl0:L0.length<=121/\0 < L0.length:=by
   have a:=NO.ll;have b:=NO.sl;have c:=NO.cl;rw [<- hL0];simp;omega
  have hlf:=LO.ln;obtain ⟨-,-,-,-,-,-,-,-,e9⟩:=yD (S:=n) zO zO;refine wTk 14 [(1,41,ae (some ⟨gt,0,none⟩)),(2,42,ae (some ⟨gt,0,none⟩)),(3,43,ae (some ⟨gt,0,none⟩)),(5,45,ae (some ⟨gt,0,none⟩)),(6,46,ae (some ⟨gt,0,none⟩)),(7,47,ae (some ⟨gt,25,none⟩)),(8,48,.agg #[af (some ⟨gm,0,none⟩) (336+12 * n) cm]),(11,51,ae (some ⟨gt,0,none⟩)),(12,52,ae (some ⟨gt,0,none⟩)),(13,53,ae (some ⟨gt,0,none⟩)),(15,55,ae (some ⟨gt,0,none⟩)),(16,56,ae (some ⟨gt,0,none⟩)),(17,57,ae (some ⟨gt,25,none⟩)),(18,58,.agg #[af (some ⟨gm,0,none⟩) (336+12 * n) cm])] ?_ (Below.refl _ _) ?_
  ·intro w' hS;have Ap:=((X.ay hS).tab).cell 25;clear X;simp at Ap
   (repeat' (first | exact aC | refine au ⟨_,rfl,.inl ⟨rfl,?_⟩⟩ ?_))
   all_goals exact zG
  simp only [aR,Act.put,aj,ak,al];refine wTk 2 [(4,44,lyV (lyW n)),(14,54,lyV (lyW n))] ?_ (Below.refl _ _) ?_
  ·intro w' hS;have fg:(dr 34 ⟨gt,0,none⟩).run aw w'= .ok (lyV (lyW n)) w':=dy w' gt 0 34 (lyC (lyW n)) _ (X.ay hS).lay aJ rfl zK
   (repeat' (first | exact aC | refine au ⟨_,rfl,.inl ⟨rfl,?_⟩⟩ ?_))
   all_goals exact list.bI rfl rfl fg
  simp only [aR,Act.put,aj,ak,al];refine gF (U:=[0,9,10,19]) (tmp:=reT) (pre:=reP) (R:=reR L0 fl w7.heap.size) zK zD (fun w2 h=>h) (MT L0 fl w7.heap.size) (fun i hi=>?_) 2 (fun val w8 bS p9=>?_)
  ·simp only [bD,cB,or_false] at hi;rcases hi with rfl | rfl | rfl | rfl
   ·refine ⟨_,rfl,fun val wq K s8 cd hK=>?_⟩
    simp only [show reP 0=[] from rfl,bq] at hK ⊢
    obtain ⟨i,T⟩:=ph;refine rb T rfl ?_;exact hK _ _ ⟨_,rfl⟩ (aB (Below.refl _ _) _)
   ·refine ⟨_,rfl,fun val wq K s8 cd hK=>?_⟩
    simp only [show reP 9=[] from rfl,bq] at hK ⊢
    go_simp
    (with_reducible refine (IS (lyW n) (some ⟨gm,0,none⟩) cm (336+12 * n) t2.m ls sk sg wq full ((hsI.below s8).more s8.size) A4 rfl rfl rfl ⟨by rw [e9];simp [cfW],by rw [e9];simp [cfW]⟩ NO).mono ?_)
    rintro e wp ⟨BB,dd,rfl,ho,Ll⟩;rw [hL0] at ho ⊢;exact hK _ _ ⟨BB,dd,rfl,eI ho s8.size⟩ Ll
   ·refine ⟨_,rfl,fun val wq K s8 cd hK=>?_⟩
    obtain ⟨v0,e0,gE,rfl⟩:=cd 0 (by simp [reP])
    obtain ⟨v9,e9,B9,d9,rfl,ho9⟩:=cd 9 (by simp [reP])
    simp only [show reP 10=[0,9] from rfl,bq,e0,e9,reT] at hK ⊢
    (try simp only [aq,ao,an])
    refine IQ (.tmp 40) (.tmp 49) rfl ⟨gE,0,none⟩ rfl B9 d9 L0 rfl ho9 hl0.2 zO (fun B' d' w' ho Ll=>?_)
    exact hK _ _ ⟨B',d',rfl,eI ho s8.size⟩ Ll
   ·refine ⟨_,rfl,fun val wq K s8 cd hK=>?_⟩
    simp only [show reP 19=[] from rfl,bq] at hK ⊢
    go_simp
    (with_reducible refine (Da (lyW n) (some ⟨gm,0,none⟩) cm (336+12 * n) t2.m fl wq full ⟨by rw [e9];simp [cfW],by rw [e9];simp [cfW]⟩ ((hsI.below s8).more s8.size) A4 (by have:=LO.fr;rw [A4] at this;exact this) (by have:=LO.nd;rw [A4] at this;exact this) LO.idx LO.ch LO.in_ LO.nod zO).mono ?_)
    rintro e wp ⟨BB,dd,rfl,ho,Ll⟩;exact hK _ _ ⟨BB,dd,rfl,eI ho s8.size⟩ Ll
  obtain ⟨v0,e0,gE,rfl⟩:=bS 0 zS;obtain ⟨v9,e9,B9,d9,rfl,-⟩:=bS 9 zS;obtain ⟨v10,xh,B10,d10,rfl,hoA⟩:=bS 10 zS;obtain ⟨v19,e19,B19,d19,rfl,hoF⟩:=bS 19 zS;simp only [reT,bq,dC,e0,e9,xh,e19,gQ,if_true];clear bS e0 e9 xh e19
  (try simp only [Act.put,aj,ak,al,iL])
  refine aE (i:=20) (o:=_) zK rfl (fun K hK=>?_)
  (try simp only [aq,ao,an])
  refine vj (.tmp 50) (.tmp 59) rfl w7.heap.size _ L0 rfl hoA B19 d19 fl rfl hoF zO p9.size (fun v5 w9 gy de=>?_)
  have Mc:=bY p9 hoA de p9.size (az _);refine hK.out _ _ (fun _=>Mc) ?_
  clear hK K hoA hoF de p9
  (try simp only [Act.put,aj,ak,al,iL])
  refine wTk 1 [(21,5,v5)] ?_ Mc ?_
  ·intro w' hS
   (repeat' (first | exact aC | refine au ⟨_,rfl,.inl ⟨rfl,?_⟩⟩ ?_))
   all_goals exact zG
  simp only [aR,Act.put,aj,ak,al];refine aN zK ?_ _;clear hsI full wW NO LO;have kMl:=kM.lt;have hgm:w.heap.size<=g4:=hg4b;obtain ⟨i0,pP,jG,mw,mI⟩:=xE jw;obtain ⟨LA,hLA⟩:∃ z,L0++fl=z:=⟨_,rfl⟩;have hla:LA.length<=161:=by rw [<- hLA,cJ];omega
  rw [hLA] at gy;have oe:∀ (k:Nat),(m8 (t2.aM.take k)).length<=6 * k:=by
   intro k
   induction k with
   | zero=>simp [m8]
   | succ k ih=>
    by_cases hk:k < t2.aM.length
    ·have:=yV t2.aM (aO hk);rw [this,cJ,List.length_map];have:=h6 _ (List.getElem_mem hk);omega
    ·rw [List.take_of_length_le zO];rw [List.take_of_length_le zO] at ih;omega
  go_wp2_with fail
  go_loopw [5,6] (fun v5 v6 wr=>∃ s:Nat,s<=n/\v6=aa ab (s:Nat)/\Below w7.heap.size w7 wr/\bd wr w7.heap.size v5 (LA++m8 (t2.aM.take s))) (fun _ v6 _=>n - (intOf v6).toNat)
  case atStart=>exact ⟨0,aY _,rfl,Mc,by rw [List.take_zero];show bd _ _ _ (LA++[]);rw [List.append_nil];exact gy⟩
  case round=>
   obtain ⟨s,hs,rfl,cY,bn⟩:=hrel;clear gy Mc;have X2:=X.ay cY;have jI:=X2.tab.cell 26;rw [lg] at jI;simp at jI;have lT:=X2.tab.lt
   by_cases dN:s < n
   ·have g1:decide ((s:Int) < n)=true:=by simp;omega
    obtain ⟨x,hx⟩:∃ x,t2.aM[s]? =some x:=⟨_,aO zO⟩;have hx6:=h6 x (bX hx);have hgs:=oe s;have xx:=yV t2.aM hx;obtain ⟨LB,hLB⟩:∃ z,LA++m8 (t2.aM.take s)=z:=⟨_,rfl⟩;have hlb:LB.length<=200:=by rw [<- hLB,cJ];omega
    rw [hLB] at bn;have HSN:=ar (au xx hLB);clear xx hLB X2
    go_wp2_with fail
    clear g1 jI lT
    go_loopw [5,7] (fun v5 v7 wr=>∃ i:Nat,i<=x.gone.length/\v7=aa ab (i:Nat)/\Below w7.heap.size w7 wr/\bd wr w7.heap.size v5 (LB++(x.gone.map (·.1)).take i)) (fun _ v7 _=>x.gone.length - (intOf v7).toNat)
    case atStart=>exact ⟨0,aY _,rfl,cY,by rw [List.take_zero,List.append_nil];exact bn⟩
    case round=>
     obtain ⟨i,hi,rfl,jg,fH⟩:=hrel;clear bn cY;have X3:=X.ay jg;have jI:=X3.tab.cell 26;rw [lg] at jI;simp at jI;have lT:=X3.tab.lt;obtain ⟨cs,iV⟩:=X3.aM;obtain ⟨gv,hgv,G,c,rfl,-,hsg⟩:=(iV.at_ s x hx).gone;have jQ:=(iV.row.cell (s * 5+3)).trans hgv;have gsl:=iV.row.lt;have j2:(s:Int) < n:=zO;clear iV hgv cs X3
     by_cases hil:i < x.gone.length
     ·have g1:decide ((i:Int) < x.gone.length)=true:=by simp;omega
      have i1:(i:Int) < x.gone.length:=zO;obtain ⟨b,oo,cs,rfl,ey,hkb,hc⟩:=hsg zO;obtain ⟨r,hr⟩:∃ r,x.gone[i]? =some r:=⟨_,aO hil⟩;obtain ⟨c0,-⟩:=hc i r hr;have oO:(x.gone.map (·.1)).take (i+1)=(x.gone.map (·.1)).take i++[r.1]:=by rw [j7,List.getElem?_map,hr];rfl
      obtain ⟨rz,hrz⟩:∃ z,r.1=z:=⟨_,rfl⟩;rw [hrz] at c0 oO;obtain ⟨LC,hLC⟩:∃ z,LB++(x.gone.map (·.1)).take i=z:=⟨_,rfl⟩;have hlc:LC.length<=206:=by rw [<- hLC,cJ,jM];omega
      rw [hLC] at fH;have HTK:=ar (au oO hLC);clear hc hkb hrz oO hLC hsg;have sK:=World.ownsRow.alloc fH (ag #[aa ab rz] 3);have gS:=aB jg (ag #[aa ab rz] 3)
      go_wp2_with (at_builtin;go_must (refine cM _ rfl (.tmp 83) (.tmp 96) _ rfl w7.heap.size 3 i0 _ 1 8 su pP jG mw mI rfl zO u5 LC.length (ints LC) rfl sK ⟨wr.heap.size,0,none⟩ 1 1 [aa ab rz] rfl rfl (jC _) (by simp [aD]) (by simp only [nu];omega) zO gS.size ?_;intro v9 w8 eu hgrow4 _ _))
      have pQ:=bY gS sK hgrow4 gS.size (az _);refine ⟨⟨i+1,zO,by go_num,pQ,?_⟩,by simp [intOf];omega⟩
      rw [HTK.out.1,<- List.append_assoc,HTK.out.2];show w8.ownsRow _ 3 1 v9 (LC++[rz]).length (ints (LC++[rz]));rw [<- Di,cJ];exact eu
     ·obtain rfl:i=x.gone.length:=zO;have g1:decide (((x.gone.length:Nat):Int) < x.gone.length)=false:=zS
      go_wp2_with fail
      refine ⟨⟨s+1,zO,by go_num,jg,?_⟩,by simp [intOf];omega⟩
      rw [HSN.out.1,<- List.append_assoc,HSN.out.2];rw [List.take_of_length_le zS] at fH;exact fH
   ·obtain rfl:s=n:=zO;have g1:decide (((s:Nat):Int) < s)=false:=zS;rw [List.take_of_length_le zO] at bn;obtain ⟨LL,hLL⟩:∃ z,LA++m8 t2.aM=z:=⟨_,rfl⟩;rw [hLL] at bn;have hLL2:1 :: ls++sk++sg++fl++m8 t2.aM=LL:=by rw [<- hLL,<- hLA,<- hL0]
    rw [hLL2] at nZ Ji;have hll:LL.length<=200:=by
     have a:=oe s;rw [List.take_of_length_le zO] at a;rw [<- hLL,cJ];omega
    obtain ⟨G5,c5,rfl⟩:=cj bn
    go_wp2_with fail
    clear g1 jI lT X2 oe hLL hLL2;have nA:=kM.ay cY;have fK:=aF hb cY;clear X cY hb kM
    go_loopw [8] (fun v8 wr=>∃ i:Nat,i<=LL.length/\v8=aa ab (i:Nat)/\Below w.heap.size w wr/\Bk wr g4 3 (xt (LL.take i))/\bd wr w7.heap.size (.slice G5 LL.length c5) LL) (fun v8 _=>LL.length - (intOf v8).toNat)
    case atStart=>exact ⟨0,aY _,rfl,fK,nA,bn⟩
    case round=>
     obtain ⟨i,hi,rfl,jg,k3,fH⟩:=hrel;clear bn nA fK
     by_cases hil:i < LL.length
     ·have g1:decide ((i:Int) < LL.length)=true:=by simp;omega
      have i1:(i:Int) < LL.length:=zO;obtain ⟨z,hz⟩:∃ z,LL[i]? =some z:=⟨_,aO hil⟩;obtain ⟨z1,z40⟩:=nZ z (bX hz);obtain ⟨j,rfl⟩:∃ j:Nat,z=j:=⟨z.toNat,zO⟩;obtain ⟨b,oo,rfl,ey,hc⟩:=fJ fH zO;have q:=hc i _ hz;have kc:=k3.cell j;have kf:=k3.free j;have kl:=k3.lt;rw [xK _ zO] at kc;have BM:=No (LL.take i) (j:=j) zO;have oO:LL.take (i+1)=LL.take i++[(j:Int)]:=by rw [j7,hz];rfl
      have jm:(LL.take i).count (j:Int)<=200:=aQ (List.count_le_length) (by rw [jM];omega)
      obtain ⟨cc,hcc⟩:∃ z,(LL.take i).count (j:Int)=z:=⟨_,rfl⟩;rw [hcc] at kc BM jm;have HP:=ar (au BM oO);have l1:decide ((j:Int) < 1)=false:=by simp;omega
      have l2:decide ((j:Int)>=41)=false:=by simp;omega
      have l3:decide ((41:Int)<=j)=false:=by simp;omega
      have j1:(j:Int) < 41:=zO;have hwr:IntKind.i64.wrap ((cc:Int)+1)=((cc+1:Nat):Int):=by rw [cV _ zO];omega
      clear BM oO hcc hc hz
      go_wp2_with fail
      have hk:=k3.stored j (aa ab ((cc+1:Nat):Int));rw [HP.out.1,<- HP.out.2] at hk;exact ⟨⟨i+1,zO,by go_num,jg.setCell (p:=⟨g4,j,none⟩) hgm _,hk,M3 fH kMl⟩,by simp [intOf];omega⟩
     ·obtain rfl:i=LL.length:=zO;have g1:decide (((LL.length:Nat):Int) < LL.length)=false:=zS;rw [List.take_of_length_le (az _)] at k3
      go_wp2_with fail
      clear g1
      go_loopw [9] (fun v9 wr=>∃ k:Nat,1<=k/\k<=41/\v9=aa ab (k:Nat)/\Below w.heap.size w wr/\Bk wr g4 3 (xt LL)) (fun v9 _=>41 - (intOf v9).toNat)
      case atStart=>exact ⟨1,zO,zO,rfl,jg,k3⟩
      case round=>
       obtain ⟨k,k1,k41,rfl,jR,k4⟩:=hrel;clear jg k3 fH
       by_cases hk:k < 41
       ·have g1:decide ((k:Int) < 41)=true:=by simp;omega
        have i1:(k:Int) < 41:=zO;have kc:=k4.cell k;rw [xK _ hk,Ji k zO zO] at kc
        go_wp2_with fail
        exact ⟨⟨k+1,zO,zO,by go_num,jR,k4⟩,by simp [intOf];omega⟩
       ·obtain rfl:k=41:=zO
        go_wp2_with fail
        (with_reducible refine (nD _).mono ?_)
        rintro e wz ⟨rfl,Kb⟩
        go_wp2_with fail
        go_ret
        exact ⟨rfl,aF jR Kb⟩
end Go.Proofs.YtikdaeddbkopeaaGreatR
