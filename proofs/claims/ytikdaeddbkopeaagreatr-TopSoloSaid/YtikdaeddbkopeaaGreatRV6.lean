/- A part of the proof. -/
import Derived.Test.YtikdaeddbkopeaaGreatRV3
import Derived.Test.YtikdaeddbkopeaaGreatRV5
import Derived.Test.YtikdaeddbkopeaaGreatRV2
set_option linter.unusedVariables false
set_option linter.unusedSimpArgs false
set_option maxRecDepth 100000
set_option maxHeartbeats 16000000
open And renaming intro → au
open Array renaming getElem?_eq_some_iff → bE, getElem?_setIfInBounds_self_of_lt → bV
open Bool renaming and_eq_true → dq
open Classical renaming byContradiction → Aw
open Go renaming execOp → Av, setRow_heap → Cm, Program → Cn, wp_at_zero → aV, wp_at_succ → aW, bodyPost_ret → aX, TypeId → bR, run_loadVar_row → be, wp_store_row → dH, loadVar → dr, Ending → lb, results → qx
open Go.Ending renaming returned → ai
open Go.Instr renaming makeFunc → kZ, field → uP
open Go.IntKind renaming i64 → ab
open Go.IntWalk renaming i64_in → cV
open Go.Lib renaming hid → ar
open Go.Obj renaming cells → ag
open Go.Proofs.Tryz renaming underlying70 → aI, underlying34 → aJ, prog → aw, underlying67 → bU
open Go.Region renaming wanted → Eg, ready → qy
open Go.Result renaming andThen_ok → bQ
open Go.Sem renaming run_bind → di, run_pure → dx
open Go.Value renaming oneCell' → aD, bool → ah, int → aa, pointer → ae, slice → af
open Go.WideShapes renaming add_plain → fV
open List renaming getElem?_eq_some_iff → a8, setIfInBounds_toArray → aj, set_cons_zero → ak, set_cons_succ → al, getElem_cons_zero → an, getElem_cons_succ → ao, getElem_toArray → aq, mem_cons → bD, not_mem_nil → cB, length_append → cJ, all_eq_true → dM, nodup_cons → fy, set_nil → iL, length_take → jM, take_length → pL
open Nat renaming le_refl → az, zero_add → eE
open Option renaming isSome_some → gQ
open Option.some renaming inj → aT
open True renaming intro → aC
namespace Go.Proofs.YtikdaeddbkopeaaGreatR.split
open Go.RowKit
attribute [local go_sem ↓] aV aW
theorem IA {w:World} {k:Sk} {gv:Value} {n len:Nat} (kp:Bk w k.gp 141 (spC k gv n len)):∀ (j:Nat) (v:Value),(lyC k.l)[j]? =some v->w.cell? ⟨k.gp,0+j,none⟩=some v:=by
 intro j v h;have hj:j < 25:=(bE.1 h).1;rw [eE,kp.cell j,show spC k gv n len=lyC k.l++#[aa ab k.me,gv,aa ab 0,.slice k.A len k.cap,aa ab (n:Nat)] from rfl,Array.getElem?_append_left hj]
 exact h
theorem Bl {w:World} {k:Sk} {gv:Value} {n len:Nat} (kp:Bk w k.gp 141 (spC k gv n len)):(dr 34 ⟨k.gp,0,none⟩).run aw w= .ok (lyV k.l) w:=dy w k.gp 0 34 (lyC k.l) _ (IA kp) aJ rfl zK
theorem GnV.goneAt {w:World} {gp:Nat} {v:Value} {g:cG} (h:GnV w gp v g):bN w v g:=by
 obtain ⟨G,n,c,rfl,rfl,h3,hh⟩:=h;refine ⟨G,c,rfl,h3,fun hl=>?_⟩
 obtain ⟨b,o,cs,e,hb,hn,hc⟩:=hh hl;exact ⟨b,o,cs,e,hb.lt,hb,hc⟩
def slA (A:Option Addr) (lo cap:Nat):Option Addr:=if cap=lo then A else A.map (·.add (lo * 2))
theorem hH.sub {w:World} {B:Nat} {A:Option Addr} {l:Log} (h:hH w B A l) (lo n cap:Nat) (hc:l.length<=cap):hH w B (slA A lo cap) ((l.drop lo).take n):=by
 intro hl;have uM:lo < l.length:=by simp at hl;omega
 obtain ⟨b,o,e,hb,hh⟩:=h zO;refine ⟨b,o+lo * 2,?_,hb,fun k r hr=>?_⟩
 ·unfold slA;rw [if_neg zO,e];show some ((⟨b,o,none⟩:Addr).add (lo * 2))=_;rw [fV]
 ·have hr2:l[lo+k]? =some r:=by
   rw [List.getElem?_take] at hr;split at hr
   ·rw [List.getElem?_drop] at hr;exact hr
   ·cases hr
  have:=hh _ _ hr2;rw [show o+lo * 2+k * 2=o+(lo+k) * 2 by omega]
  exact this
theorem AI (w:World):(sizeOf (Tryz.prog.elem 43)).run aw w= .ok 2 w:=zK
theorem run_slh (A:Option Addr) (len cap n:Nat) (h:n<=cap) (w:World):(Instr.sliceAt 43 (.slice A len cap) none (some (aa ab (n:Int))) none).run aw w= .ok (.slice (slA A 0 cap) n cap) w:=by
 refine (run_sliceAt_slice (P:=aw) (w:=w) 43 _ _ _ _ zK).trans ?_;refine (run_slice_h (P:=aw) (w:=w) 43 A len cap zK .i64 n zO zO).trans ?_;rw [AI];simp only [bQ,sliced,slA,Int.toNat_natCast,Nat.sub_zero]
theorem run_sll (A:Option Addr) (len cap n:Nat) (h:n<=len) (w:World):(Instr.sliceAt 43 (.slice A len cap) (some (aa ab (n:Int))) none none).run aw w= .ok (.slice (slA A n cap) (len - n) (cap - n)) w:=by
 refine (run_sliceAt_slice (P:=aw) (w:=w) 43 _ _ _ _ zK).trans ?_;refine (run_slice_l (P:=aw) (w:=w) 43 A len cap zK .i64 n zO zO).trans ?_;rw [AI];simp only [bQ,sliced,slA,Int.toNat_natCast]
theorem Ok {o:Oper} {a:Act} {x y:Operand} {w:World} {A:Option Addr} {len cap n:Nat} (ho:o.op= .slice 43 x none (some y) none) (hx:a.eval x= .slice A len cap) (hy:a.eval y=aa ab (n:Int)) (h:n<=cap):(Av a.eval o).run aw w= .ok (.value (.slice (slA A 0 cap) n cap)) w:=by
 unfold Av;simp only [ho,hx,hy,Option.map,di,run_slh A len cap n h,bQ,dx]
theorem Oj {o:Oper} {a:Act} {x y:Operand} {w:World} {A:Option Addr} {len cap n:Nat} (ho:o.op= .slice 43 x (some y) none none) (hx:a.eval x= .slice A len cap) (hy:a.eval y=aa ab (n:Int)) (h:n<=len):(Av a.eval o).run aw w= .ok (.value (.slice (slA A n cap) (len - n) (cap - n))) w:=by
 unfold Av;simp only [ho,hx,hy,Option.map,di,run_sll A len cap n h,bQ,dx]
def LnX (l:Ly) (q:An (dA × Pz)) (c1 c2:Array Value) (v3:Value) (w:World):Prop:=
 ∃ ck cc co cv val is er pt gG gn gc dn,c1=bj ck cc co cv/\c2=br val is er pt (.slice gG gn gc)/\v3= .bool dn/\
  ((∃ a,q= .ask a/\bj ck cc co cv=bj a.k (adr l a.c) a.o a.v/\br val is er pt (.slice gG gn gc)=aZ/\dn=false)\/
   (∃ o z',q= .fin (o,z')/\bj ck cc co cv=bW/\val=o.val/\is=o.is/\er=0/\pt=(o.aH:Nat)/\dn=true/\bN w (.slice gG gn gc) z'.gone))
theorem bN.dh {w w':World} {v:Value} {g:cG} {t:bR} (h:bN w v g) (hk:eU t w w') (ht:52≠t):bN w' v g:=by
 obtain ⟨G,c,h1,h2,h3⟩:=h;refine ⟨G,c,h1,h2,fun hl=>?_⟩
 obtain ⟨b,o,cs,e,hb,qL,hc⟩:=h3 hl;have k2:=qL.dh hk ht;refine ⟨b,o,cs,e,k2.lt,k2,fun j r hr=>?_⟩
 have c1:=k2.cell (o+j * 2);have c2:=k2.cell (o+j * 2+1);rw [<- qL.cell] at c1 c2;exact ⟨c1.trans (hc j r hr).1,c2.trans (hc j r hr).2⟩
def l1T:Nat->Nat | 16=>29 | 17=>12 | 18=>30 | 19=>31 | 20=>32 | 21=>9 | 22=>10 | 23=>51 | 24=>52 | 25=>11 | _=>53
theorem mH (l:Ly) (q:An (dA × Pz)) (c1 c2:Array Value) (v3:Value) (w1 w2:World) (h:LnX l q c1 c2 v3 w1) (hk:(eU 67 w1 w2\/eU 70 w1 w2\/Below w1.heap.size w1 w2)):LnX l q c1 c2 v3 w2:=by
 obtain ⟨ck,cc,co,cv,val,is,er,pt,gG,gn,gc,dn,rfl,rfl,rfl,hX⟩:=h;refine ⟨ck,cc,co,cv,val,is,er,pt,gG,gn,gc,dn,rfl,rfl,rfl,?_⟩;rcases hX with hX | ⟨o,z',h1,h2,h3,h4,h5,h6,h7,h8⟩
 ·exact .inl hX
 ·refine .inr ⟨o,z',h1,h2,h3,h4,h5,h6,h7,?_⟩;rcases hk with hk | hk | hk
  ·exact bN.dh h8 hk zD
  ·exact bN.dh h8 hk zD
  ·exact h8.ay hk
theorem sh {l:Ly} {q:An (dA × Pz)} {w:World} {e:lb} {w':World} (h:list.oJ l q w e w'):∃ c1 c2 v3,e=ai (tr c1 c2 v3)/\LnX l q c1 c2 v3 w'/\Below w.heap.size w w':=by
 obtain ⟨hc,hb⟩:=h;rcases hc with ⟨a,h1,rfl⟩ | ⟨o,z',gv,h1,rfl,h2⟩
 ·exact ⟨_,_,_,rfl,⟨_,_,_,_,_,_,_,_,_,_,_,_,rfl,rfl,rfl,.inl ⟨a,h1,rfl,rfl,rfl⟩⟩,hb⟩
 ·obtain ⟨G,c,rfl,h3⟩:=h2;exact ⟨_,_,_,rfl,⟨_,_,_,_,_,_,_,_,_,_,_,_,rfl,rfl,rfl,.inr ⟨o,z',h1,rfl,rfl,rfl,rfl,rfl,rfl,⟨G,c,rfl,h3⟩⟩⟩,hb⟩
theorem OT {l:Ly} {q:An (dA × Pz)} {w:World} {w':World} {c1 c2:Array Value} {v3:Value} (h:LnX l q c1 c2 v3 w') (hb:Below w.heap.size w w'):list.oJ l q w (ai (tr c1 c2 v3)) w':=by
 obtain ⟨ck,cc,co,cv,val,is,er,pt,gG,gn,gc,dn,rfl,rfl,rfl,hX⟩:=h;refine ⟨?_,hb⟩;rcases hX with ⟨a,h1,h2,h3,rfl⟩ | ⟨o,z',h1,h2,rfl,rfl,rfl,rfl,rfl,h8⟩
 ·exact .inl ⟨a,h1,by rw [h2,h3]⟩
 ·exact .inr ⟨o,z',_,h1,by rw [h2],h8⟩
section
variable {w:World} {k:Sk} {g:cG} {m:Nat} {log:Log}
theorem lnx1 (n:Nat) (lo:LOp) (op:Opr) (A2:Option Addr) (Ao:Nat) (L:Log) (b5 jJ oW Kr:Nat) (hd:Int) (h:fD w k g m log) (Ld:1<=k.l.c.aM/\k.l.c.aM<=8) (hh:lo.h<=9223372036854775807) (ho:op.obj=nodeAt k.l lo.h 0) (A1:0<=op.obj/\op.obj < k.l.size) (Ej:op.a=lo.o/\op.b=lo.v)
  (hk:op.kind=lo.kind) (nm:lo.kind=1\/lo.kind=2\/lo.kind=3) (k5:Bk w b5 139 #[ptr k.gp]) (ep:Bk w jJ 54 (eg op)) (iT:Bk w oW 43 #[.slice A2 L.length Ao]) (um:Bk w Kr 3 #[aa ab hd]) (uN:0<=hd)
  (hs:hH w k.B A2 L) (BQ:L.length<=Ao) (hl:L.length<=100000) (hn:n<=L.length) (q:An (dA × Pz)) (hq:q=cS (2 * k.l.c.aM) k.me lo (dp lo g) (L.take n)) (gq:q≠ .stuck) (oe:∀ o z',q= .fin (o,z')->z'.gone.length<=1000):
  Calls aw 124 #[aa ab (n:Nat),ptr b5,ptr jJ,ptr oW,ptr Kr] w (list.oJ k.l q w):=by
 obtain ⟨gv,kp,hG⟩:=h.kp;have HF:=ar h.f;have HB:=ar (au h.bp h.lt);have HA:=ar (au Ld (au hh (au ho (au A1 (au Ej (au hk nm))))));have HQ:=ar (au hq (au gq oe));have HL:=ar (au hs (au BQ (au hl hn)));have HG:=ar hG;have hh0:decide (hd < 0)=false:=by simp;omega
 have bz:=aB (aB (Below.refl w.heap.size w) (ag bW 67)) (ag aZ 70);have k6:=(Bk.made w 67 bW).alloc (ag aZ 70);have k7:=Bk.new (w.alloc (ag bW 67)) (g:=w.heap.size+1) zS 70 aZ;replace kp:=kp.ay bz;replace k5:=k5.ay bz;replace ep:=ep.ay bz;replace iT:=iT.ay bz;replace um:=um.ay bz;clear h Ld hh ho A1 Ej hk nm hs BQ hl hn hq gq oe hG uN;go_enter Tryz.func124,Tryz.ntmps124
 go_upto_region 1 with fail
 generalize (w.alloc (ag bW 67)).alloc (ag aZ 70)=w0 at *;obtain ⟨b6,h6⟩:∃ x,w.heap.size=x:=⟨_,rfl⟩;have HW:=ar h6;rw [h6] at k6 k7 ⊢;clear h6;obtain ⟨b7,h7⟩:∃ x,b6+1=x:=⟨_,rfl⟩;rw [h7] at k7 ⊢;have z6:b6 < b7:=zO;clear h7;refine aP (S:=fun w'=>Below w0.drew.heap.size w0.drew w') (E:=fun _=>false) zK ?_
 replace kp:=kp.drew;replace k5:=k5.drew;replace ep:=ep.drew;replace iT:=iT.drew;replace um:=um.drew;replace k6:=k6.drew;replace k7:=k7.drew;replace bz:=bz.drew;generalize w0.drew=w1 at *;refine wTk 13 [(0,13,ptr k.gp),(1,14,ptr k.gp),(2,15,ptr k.gp),(4,17,ptr k.gp),(5,18,ptr k.gp),(6,19,ae (some ⟨k.gp,25,none⟩)),(7,20,aa ab k.me),(8,21,ptr k.gp),(9,22,ptr k.gp),(10,23,ae (some ⟨k.gp,26,none⟩)),(11,24,gv),(13,26,.slice A2 L.length Ao),(14,27,aa ab (n:Nat))] ?_ (Below.refl _ _) ?_
 ·intro w' hS;have c5:=(k5.ay hS).cell 0;have vK:=(iT.ay hS).cell 0;have Ap:=(kp.ay hS).cell 25;have jI:=(kp.ay hS).cell 26;simp at c5 vK Ap jI
  (repeat' (first | exact aC | refine au ⟨_,rfl,.inl ⟨rfl,?_⟩⟩ ?_))
  all_goals exact zG
 simp only [aR,Act.put,aj,ak,al];refine wTk 1 [(3,16,lyV k.l)] ?_ (Below.refl _ _) ?_
 ·intro w' hS;have fg:=Bl (kp.ay hS)
  (repeat' (first | exact aC | refine au ⟨_,rfl,.inl ⟨rfl,?_⟩⟩ ?_))
  all_goals exact list.bI rfl rfl fg
 simp only [aR,Act.put,aj,ak,al];refine wTk 1 [(12,25,.agg (eg op))] ?_ (Below.refl _ _) ?_
 ·intro w' hS;have gk:(dr 54 ⟨jJ,0,none⟩).run aw w'= .ok (.agg (eg op)) w':=be w' jJ 54 54 (eg op) (0,0) _ (ep.ay hS) Tryz.underlying54 rfl zK
  (repeat' (first | exact aC | refine au ⟨_,rfl,.inl ⟨rfl,?_⟩⟩ ?_))
  all_goals exact list.bI rfl rfl gk
 simp only [aR,Act.put,aj,ak,al];refine wTk 1 [(15,28,.slice (slA A2 0 Ao) n Ao)] ?_ (Below.refl _ _) ?_
 ·intro w' hS
  (repeat' (first | exact aC | refine au ⟨_,rfl,.inl ⟨rfl,?_⟩⟩ ?_))
  all_goals exact Ok rfl rfl rfl (by have:=HL.out;omega)
 simp only [aR,Act.put,aj,ak,al];have HBL:=ar bz;refine ma (U:=[16,17,18,19,20,21,22,23,24,25]) (tmp:=l1T) (pre:=c3P 16) (T:=fun w'=>Below w1.heap.size w1 w') (N:=fun _ _=>True) (G:=c3G 16 w1.heap.size 67 70) (R:=c3R 16 w1.heap.size 67 70 bW aZ (LnX k.l q)) zK (fun _ _=>rfl) (fun w2 h=>h) (Below.refl _ _) (fun i hi w3 w4 h1 h2=>zw h1 h2) (fun _ _=>trivial) (fun _ _ _ _ _ _ _ _ _ _=>trivial)
  (fun i hi j hj oP oZ v u w3 w4 hT hvi Ah hp hr hg=>zx zD (mH k.l q) oP hvi Ah hr hg) (fun i hi o ho oZ w3 K qD hT _ cd hK=>?_) 0 (fun oZ w5 bS hT=>?_)
 ·simp only [bD,cB,or_false] at hi;rcases hi with rfl | rfl | rfl | rfl | rfl | rfl | rfl | rfl | rfl | rfl
  ·obtain rfl:=aT ho;simp only [show c3P 16 16=[] from rfl,bq] at hK ⊢
   go_simp;have hlen:(L.take n).length=n:=by rw [jM];have:=HL.out;omega
   have fK:=aF HBL.out hT;have hd:=list.lnext k.l k.me lo op g gv (slA A2 0 Ao) Ao (L.take n) w3 HF.out HA.out.1 HA.out.2.1 HA.out.2.2.1 HA.out.2.2.2.1 HA.out.2.2.2.2.1 HA.out.2.2.2.2.2.1 HA.out.2.2.2.2.2.2 ((GnV.goneAt HG.out).ay fK)
    (by have h1:=hH.sub HL.out.1 0 n Ao HL.out.2.1;have h2:=h1.below (fK.mono (by have:=HB.out;omega));rw [List.drop_zero] at h2;exact h2.more (by have:=HB.out;have:=fK.size;omega)) (by rw [hlen];have:=HL.out;omega) q HQ.out.1 HQ.out.2.1 HQ.out.2.2
   rw [hlen] at hd
   (with_reducible refine hd.mono ?_)
   intro e w4 hpost;obtain ⟨c1,c2,v3,rfl,hx,hb⟩:=sh hpost;exact hK _ _ ⟨c1,c2,v3,rfl,hx⟩ hb
  ·obtain rfl:=aT ho;obtain ⟨v0,e0,d1,d2,d3,rfl,oR⟩:=cd 16 (by simp [c3P])
   simp only [show c3P 16 17=[16] from rfl,bq,e0,l1T] at hK ⊢
   go_simp;exact hK _ _ ⟨d1,d2,d3,rfl,by simp only [upd];exact e0⟩ (Below.refl _ _)
  ·obtain rfl:=aT ho;obtain ⟨v1,e1,d1,d2,d3,rfl,e0⟩:=cd 17 (by simp [c3P])
   simp only [show c3P 16 18=[17] from rfl,bq,e1,l1T] at hK ⊢
   go_simp;exact hK _ _ ⟨d1,d2,d3,by simp only [upd];exact e0,rfl⟩ (Below.refl _ _)
  ·obtain rfl:=aT ho;obtain ⟨v1,e1,d1,d2,d3,rfl,e0⟩:=cd 17 (by simp [c3P])
   simp only [show c3P 16 19=[17] from rfl,bq,e1,l1T] at hK ⊢
   go_simp;exact hK _ _ ⟨d1,d2,d3,by simp only [upd];exact e0,rfl⟩ (Below.refl _ _)
  ·obtain rfl:=aT ho;obtain ⟨v1,e1,d1,d2,d3,rfl,e0⟩:=cd 17 (by simp [c3P])
   simp only [show c3P 16 20=[17] from rfl,bq,e1,l1T] at hK ⊢
   go_simp;exact hK _ _ ⟨d1,d2,d3,by simp only [upd];exact e0,rfl⟩ (Below.refl _ _)
  ·obtain rfl:=aT ho;simp only [show c3P 16 21=[] from rfl,bq] at hK ⊢
   go_simp;exact hK _ _ ⟨_,rfl,hT.size,fun _=>Bk.made _ _ _⟩ (aB (Below.refl _ _) _)
  ·obtain rfl:=aT ho;simp only [show c3P 16 22=[] from rfl,bq] at hK ⊢
   go_simp;exact hK _ _ ⟨_,rfl,hT.size,fun _=>Bk.made _ _ _⟩ (aB (Below.refl _ _) _)
  ·obtain rfl:=aT ho;obtain ⟨v0,e0,d1,d2,d3,rfl,oR⟩:=cd 16 (by simp [c3P])
   obtain ⟨v2,e2,f1,f2,f3,jh,rfl⟩:=cd 18 (by simp [c3P])
   rw [e0] at jh;obtain ⟨rfl,rfl,rfl⟩:=dz jh;obtain ⟨v5,e5,ga,rfl,jQ,k5⟩:=cd 21 (by simp [c3P])
   have ka:=k5 qD;obtain ⟨ck,cc,co,cv,val,is,er,pt,gG,gn,gc,dn,rfl,rfl,rfl,oR⟩:=oR;simp only [show c3P 16 23=[16,18,21] from rfl,bq,e0,e2,e5,l1T] at hK ⊢
   (try simp only [aq,ao,an])
   refine dH 67 (.tmp 9) (.tmp 30) rfl ga _ rfl rfl 67 bW ka zK rfl (by simp [aD]) ?_
   exact hK undef _ ⟨ga,_,_,_,by simp only [upd];exact e0,by simp only [upd];exact e5,jQ,Cm _ _ _ _ _ _ ka⟩ ⟨iS ka,fC jQ _⟩
  ·obtain rfl:=aT ho;obtain ⟨v0,e0,d1,d2,d3,rfl,oR⟩:=cd 16 (by simp [c3P])
   obtain ⟨v2,e2,f1,f2,f3,jh,rfl⟩:=cd 19 (by simp [c3P])
   rw [e0] at jh;obtain ⟨rfl,rfl,rfl⟩:=dz jh;obtain ⟨v5,e5,ga,rfl,jQ,k5⟩:=cd 22 (by simp [c3P])
   have ka:=k5 qD;obtain ⟨ck,cc,co,cv,val,is,er,pt,gG,gn,gc,dn,rfl,rfl,rfl,oR⟩:=oR;simp only [show c3P 16 24=[16,19,22] from rfl,bq,e0,e2,e5,l1T] at hK ⊢
   (try simp only [aq,ao,an])
   refine dH 70 (.tmp 10) (.tmp 31) rfl ga _ rfl rfl 70 aZ ka zK rfl (by simp [aD]) ?_
   exact hK undef _ ⟨ga,_,_,_,by simp only [upd];exact e0,by simp only [upd];exact e5,jQ,Cm _ _ _ _ _ _ ka⟩ ⟨iS ka,fC jQ _⟩
  ·obtain rfl:=aT ho;obtain ⟨v4,e4,f1,f2,f3,e4',rfl⟩:=cd 20 (by simp [c3P])
   simp only [show c3P 16 25=[20] from rfl,bq,e4,l1T] at hK ⊢
   go_simp;exact hK _ _ ⟨_,_,_,by simp only [upd];exact e4',rfl⟩ (Below.refl _ _)
 obtain ⟨v0,e0,d1,d2,d3,rfl,oR⟩:=bS 16 zS;obtain ⟨v1,e1,f1,f2,f3,rfl,Ki⟩:=bS 17 zS;rw [e0] at Ki;obtain ⟨rfl,rfl,rfl⟩:=dz Ki;obtain ⟨v2,e2,f1,f2,f3,jh,rfl⟩:=bS 18 zS;rw [e0] at jh;obtain ⟨rfl,rfl,rfl⟩:=dz jh;obtain ⟨v3,e3,f1,f2,f3,jh,rfl⟩:=bS 19 zS;rw [e0] at jh;obtain ⟨rfl,rfl,rfl⟩:=dz jh;obtain ⟨v4,e4,f1,f2,f3,jh,rfl⟩:=bS 20 zS;rw [e0] at jh;obtain ⟨rfl,rfl,rfl⟩:=dz jh;obtain ⟨v5,e5,Kf,rfl,N5,-⟩:=bS 21 zS;obtain ⟨v6,e6,ta,rfl,N4,-⟩:=bS 22 zS;obtain ⟨v7,e7,gb0,f1,f2,f3,jh,zd,-,uJ⟩:=bS 23 zS;rw [e0] at jh;obtain ⟨rfl,rfl,rfl⟩:=dz jh;rw [e5] at zd;obtain rfl:=oz zd;obtain ⟨v8,e8,gb1,f1,f2,f3,jh,zd,-,iO⟩:=bS 24 zS;rw [e0] at jh;obtain ⟨rfl,rfl,rfl⟩:=dz jh;rw [e6] at zd;obtain rfl:=oz zd;obtain ⟨v9,e9,f1,f2,f3,jh,rfl⟩:=bS 25 zS;rw [e0] at jh;obtain ⟨rfl,rfl,rfl⟩:=dz jh;clear bS;refine aN (by simp only [dC,e0,e1,e2,e3,e4,e5,e6,e7,e8,e9,gQ,if_true];kernel_rfl) ?_ _
 simp only [bq,e0,e1,e2,e3,e4,e5,e6,e7,e8,e9,l1T];clear e0 e1 e2 e3 e4 e5 e6 e7 e8 e9
 (try simp only [Act.put,aj,ak,al,iL])
 obtain ⟨ck,cc,co,cv,val,is,er,pt,gG,gn,gc,dn,rfl,rfl,rfl,oR⟩:=oR;have gS:Below w1.heap.size w1 w5:=hT;have hn6:b7 < Kf/\b7 < ta:=by have:=k7.lt;omega
 replace um:=um.ay gS;replace k6:=k6.ay gS;replace k7:=k7.ay gS;replace bz:=aF HBL.out gS;have HX:=ar (show LnX k.l q (bj ck cc co cv) (br val is er pt (.slice gG gn gc)) (.bool dn) w5 from ⟨_,_,_,_,_,_,_,_,_,_,_,_,rfl,rfl,rfl,oR⟩)
 have HN:=ar hn6;clear oR gS hT kp k5 ep iT Ki jh zd hn6 N5 N4;have Cu:=um.cell 0;have l12:=um.lt;simp at Cu
 cases dn with
 | false=>
  go_upto_region 4 with fail
  clear Cu l12;refine aP (S:=fun w'=>Bk w' Kf 67 (bj ck cc co cv)/\Bk w' ta 70 (br val is er pt (.slice gG gn gc))) (E:=fun _=>false) zK ?_
  replace k6:=k6.drew;replace k7:=k7.drew;replace uJ:=uJ.drew;replace iO:=iO.drew;replace bz:=bz.drew;have HX6:=ar (mH _ _ _ _ _ _ _ HX.out (.inr (.inr (aU (Below.refl w5.heap.size w5)))));generalize w5.drew=w6 at *;refine wTk 1 [(0,48,.agg (bj ck cc co cv))] ?_ ⟨uJ,iO⟩ ?_
  ·intro w' hS;have fg:(dr 67 ⟨Kf,0,none⟩).run aw w'= .ok (.agg (bj ck cc co cv)) w':=be w' Kf 67 67 (bj ck cc co cv) (0,0) _ hS.1 bU rfl zK
   (repeat' (first | exact aC | refine au ⟨_,rfl,.inl ⟨rfl,?_⟩⟩ ?_))
   all_goals exact list.bI rfl rfl fg
  simp only [aR,Act.put,aj,ak,al];refine wTk 1 [(1,49,.agg (br val is er pt (.slice gG gn gc)))] ?_ ⟨uJ,iO⟩ ?_
  ·intro w' hS;have fg:(dr 70 ⟨ta,0,none⟩).run aw w'= .ok (.agg (br val is er pt (.slice gG gn gc))) w':=be w' ta 70 70 (br val is er pt (.slice gG gn gc)) (0,0) _ hS.2 aI rfl zK
   (repeat' (first | exact aC | refine au ⟨_,rfl,.inl ⟨rfl,?_⟩⟩ ?_))
   all_goals exact list.bI rfl rfl fg
  simp only [aR,Act.put,aj,ak,al];refine wTk 1 [(2,50,ah false)] ?_ ⟨uJ,iO⟩ ?_
  ·intro w' hS
   (repeat' (first | exact aC | refine au ⟨_,rfl,.inl ⟨rfl,?_⟩⟩ ?_))
   all_goals exact zG
  simp only [aR,Act.put,aj,ak,al];refine aE (i:=3) (o:=_) zK rfl (fun KK hK=>?_)
  (try simp only [aq,ao,an])
  rw [if_pos (by rfl)]
  refine dH 67 (.tmp 6) (.tmp 48) rfl b6 (bj ck cc co cv) rfl rfl 67 bW k6 zK rfl (by simp [aD]) ?_
  have uk:=uJ.a7 (b:=b6) (by have:=HN.out;omega) (bj ck cc co cv)
  have kc1:=iO.a7 (b:=b6) (by have:=HN.out;omega) (bj ck cc co cv)
  have k7b:=k7.a7 (b:=b6) zO (bj ck cc co cv);have k6b:=k6.bL (bj ck cc co cv);have qa:=eT bz (g:=b6) (by rw [HW.out];omega) (bj ck cc co cv)
  have HX7:=ar (mH _ _ _ _ _ _ _ HX6.out (.inl (iS (cs':=bj ck cc co cv) k6)));clear HX6 k7 k6 bz uJ iO;generalize w6.setRow b6 (bj ck cc co cv)=w7 at *;refine hK.out _ _ (fun _=>⟨uk,kc1⟩) ?_
  clear hK KK
  (try simp only [aq,ao,an,Act.put])
  refine aE (i:=4) (o:=_) zK rfl (fun KK hK=>?_)
  (try simp only [aq,ao,an])
  rw [if_pos (by rfl)]
  refine dH 70 (.tmp 7) (.tmp 49) rfl b7 (br val is er pt (.slice gG gn gc)) rfl rfl 70 aZ k7b zK rfl (by simp [aD]) ?_
  have kd0:=uk.a7 (b:=b7) (by have:=HN.out;omega) (br val is er pt (.slice gG gn gc))
  have kd1:=kc1.a7 (b:=b7) (by have:=HN.out;omega) (br val is er pt (.slice gG gn gc))
  have k6c:=k6b.a7 (b:=b7) zO (br val is er pt (.slice gG gn gc));have k7c:=k7b.bL (br val is er pt (.slice gG gn gc));have Jk:=eT qa (g:=b7) (by rw [HW.out];omega) (br val is er pt (.slice gG gn gc))
  have HX8:=ar (mH _ _ _ _ _ _ _ HX7.out (.inr (.inl (iS (cs':=br val is er pt (.slice gG gn gc)) k7b))));clear HX7 k7b k6b qa uk kc1;generalize w7.setRow b7 (br val is er pt (.slice gG gn gc))=w8 at *;refine hK.out _ _ (fun _=>⟨kd0,kd1⟩) ?_
  clear hK KK
  (try simp only [aq,ao,an,Act.put])
  refine wTk 1 [(5,8,ah false)] ?_ ⟨kd0,kd1⟩ ?_
  ·intro w' hS
   (repeat' (first | exact aC | refine au ⟨_,rfl,.inl ⟨rfl,?_⟩⟩ ?_))
   all_goals exact zG
  simp only [aR,Act.put,aj,ak,al];refine aN zK ?_ _
  go_wp2_with fail
  exact aX (v:=tr (bj ck cc co cv) (br val is er pt (.slice gG gn gc)) (ah false)) (eH (p:=6) (q:=7) (t:=8) (t1:=67) (t2:=70) rfl _ _ b6 b7 _ _ (0,0) (0,0) _ _ _ rfl rfl rfl k6c k7c bU rfl zK aI rfl zK) rfl (OT HX8.out Jk)
 | true=>
  go_upto_region 4 with fail
  clear Cu l12;refine aP (S:=fun w'=>Bk w' Kf 67 (bj ck cc co cv)/\Bk w' ta 70 (br val is er pt (.slice gG gn gc))) (E:=fun _=>false) zK ?_
  replace k6:=k6.drew;replace k7:=k7.drew;replace uJ:=uJ.drew;replace iO:=iO.drew;replace bz:=bz.drew;have HX6:=ar (mH _ _ _ _ _ _ _ HX.out (.inr (.inr (aU (Below.refl w5.heap.size w5)))));generalize w5.drew=w6 at *;refine wTk 1 [(0,48,.agg (bj ck cc co cv))] ?_ ⟨uJ,iO⟩ ?_
  ·intro w' hS;have fg:(dr 67 ⟨Kf,0,none⟩).run aw w'= .ok (.agg (bj ck cc co cv)) w':=be w' Kf 67 67 (bj ck cc co cv) (0,0) _ hS.1 bU rfl zK
   (repeat' (first | exact aC | refine au ⟨_,rfl,.inl ⟨rfl,?_⟩⟩ ?_))
   all_goals exact list.bI rfl rfl fg
  simp only [aR,Act.put,aj,ak,al];refine wTk 1 [(1,49,.agg (br val is er pt (.slice gG gn gc)))] ?_ ⟨uJ,iO⟩ ?_
  ·intro w' hS;have fg:(dr 70 ⟨ta,0,none⟩).run aw w'= .ok (.agg (br val is er pt (.slice gG gn gc))) w':=be w' ta 70 70 (br val is er pt (.slice gG gn gc)) (0,0) _ hS.2 aI rfl zK
   (repeat' (first | exact aC | refine au ⟨_,rfl,.inl ⟨rfl,?_⟩⟩ ?_))
   all_goals exact list.bI rfl rfl fg
  simp only [aR,Act.put,aj,ak,al];refine wTk 1 [(2,50,ah true)] ?_ ⟨uJ,iO⟩ ?_
  ·intro w' hS
   (repeat' (first | exact aC | refine au ⟨_,rfl,.inl ⟨rfl,?_⟩⟩ ?_))
   all_goals exact zG
  simp only [aR,Act.put,aj,ak,al];refine aE (i:=3) (o:=_) zK rfl (fun KK hK=>?_)
  (try simp only [aq,ao,an])
  rw [if_pos (by rfl)]
  refine dH 67 (.tmp 6) (.tmp 48) rfl b6 (bj ck cc co cv) rfl rfl 67 bW k6 zK rfl (by simp [aD]) ?_
  have uk:=uJ.a7 (b:=b6) (by have:=HN.out;omega) (bj ck cc co cv)
  have kc1:=iO.a7 (b:=b6) (by have:=HN.out;omega) (bj ck cc co cv)
  have k7b:=k7.a7 (b:=b6) zO (bj ck cc co cv);have k6b:=k6.bL (bj ck cc co cv);have qa:=eT bz (g:=b6) (by rw [HW.out];omega) (bj ck cc co cv)
  have HX7:=ar (mH _ _ _ _ _ _ _ HX6.out (.inl (iS (cs':=bj ck cc co cv) k6)));clear HX6 k7 k6 bz uJ iO;generalize w6.setRow b6 (bj ck cc co cv)=w7 at *;refine hK.out _ _ (fun _=>⟨uk,kc1⟩) ?_
  clear hK KK
  (try simp only [aq,ao,an,Act.put])
  refine aE (i:=4) (o:=_) zK rfl (fun KK hK=>?_)
  (try simp only [aq,ao,an])
  rw [if_pos (by rfl)]
  refine dH 70 (.tmp 7) (.tmp 49) rfl b7 (br val is er pt (.slice gG gn gc)) rfl rfl 70 aZ k7b zK rfl (by simp [aD]) ?_
  have kd0:=uk.a7 (b:=b7) (by have:=HN.out;omega) (br val is er pt (.slice gG gn gc))
  have kd1:=kc1.a7 (b:=b7) (by have:=HN.out;omega) (br val is er pt (.slice gG gn gc))
  have k6c:=k6b.a7 (b:=b7) zO (br val is er pt (.slice gG gn gc));have k7c:=k7b.bL (br val is er pt (.slice gG gn gc));have Jk:=eT qa (g:=b7) (by rw [HW.out];omega) (br val is er pt (.slice gG gn gc))
  have HX8:=ar (mH _ _ _ _ _ _ _ HX7.out (.inr (.inl (iS (cs':=br val is er pt (.slice gG gn gc)) k7b))));clear HX7 k7b k6b qa uk kc1;generalize w7.setRow b7 (br val is er pt (.slice gG gn gc))=w8 at *;refine hK.out _ _ (fun _=>⟨kd0,kd1⟩) ?_
  clear hK KK
  (try simp only [aq,ao,an,Act.put])
  refine wTk 1 [(5,8,ah true)] ?_ ⟨kd0,kd1⟩ ?_
  ·intro w' hS
   (repeat' (first | exact aC | refine au ⟨_,rfl,.inl ⟨rfl,?_⟩⟩ ?_))
   all_goals exact zG
  simp only [aR,Act.put,aj,ak,al];refine aN zK ?_ _
  go_wp2_with fail
  exact aX (v:=tr (bj ck cc co cv) (br val is er pt (.slice gG gn gc)) (ah true)) (eH (p:=6) (q:=7) (t:=8) (t1:=67) (t2:=70) rfl _ _ b6 b7 _ _ (0,0) (0,0) _ _ _ rfl rfl rfl k6c k7c bU rfl zK aI rfl zK) rfl (OT HX8.out Jk)
end
abbrev opOf (k:Sk) (lo:LOp):Opr:=⟨lo.kind,nodeAt k.l lo.h 0,lo.o,lo.v⟩
structure LiS (k:Sk) (lo:LOp) (g:cG) (m:Nat) (log:Log) (q:An (dA × Pz)):Prop where
 se:1<=k.l.c.aM/\k.l.c.aM<=8
 hh:lo.h<=9223372036854775807
 ob:0<=nodeAt k.l lo.h 0/\nodeAt k.l lo.h 0 < k.l.size
 kk:lo.kind=1\/lo.kind=2\/lo.kind=3
 q_:q=cS (2 * k.l.c.aM) k.me lo (dp lo g) (log.drop m)
 ns:q≠ .stuck
 gl:∀ o z',q= .fin (o,z')->z'.gone.length<=1000
 cap:log.length<=k.cap
theorem IL {P:Cn} {fn:Func} {p q:Tmp} {t1 t2:bR} (h:fn.results=#[.cell p t1,.cell q t2]) (tmps:Array Value) (w:World) (g1 g2:Nat) (xS DL:Array Value) (Kg fr2:Nat × Nat) (d1 d2:TypeDesc)
  (hp:tmps.getD p undef=ae (some ⟨g1,0,none⟩)) (hq:tmps.getD q undef=ae (some ⟨g2,0,none⟩)) (k1:w.heap[g1]? =some (ag xS t1 Kg)) (k2:w.heap[g2]? =some (ag DL t2 fr2))
  (Eh:P.underlying t1=some d1) (oV:(match d1 with | .struct _ | .array _ _=>true | _=>false)=true) (vu:(P.info? t1).map (·.size)=some xS.size)
  (xN:P.underlying t2=some d2) (hd2:(match d2 with | .struct _ | .array _ _=>true | _=>false)=true) (hi2:(P.info? t2).map (·.size)=some DL.size):
  (qx fn tmps).run P w= .ok (.tuple #[.agg xS,.agg DL]) w:=by
 have uK:tmps[p]?.getD undef=ae (some ⟨g1,0,none⟩):=by simpa using hp
 have Dr:tmps[q]?.getD undef=ae (some ⟨g2,0,none⟩):=by simpa using hq
 simp [qx,h,uK,Dr,asAddr,be w g1 t1 t1 xS Kg d1 k1 Eh oV vu,be w g2 t2 t2 DL fr2 d2 k2 xN hd2 hi2]
structure LiE (w:World) (k:Sk) (lo:LOp) (g:cG) (m:Nat) (log:Log) (b5 jJ oW Kr:Nat):Prop where
 sp:fD w k g m log
 k5:Bk w b5 139 #[ptr k.gp]
 ep:Bk w jJ 54 (eg (opOf k lo))
 iT:Bk w oW 43 #[.slice (slA k.A m k.cap) (log.length - m) (k.cap - m)]
 um:Bk w Kr 3 #[aa ab (nodeAt k.l lo.h 0)]
section
variable {w w':World} {k:Sk} {lo:LOp} {g:cG} {m:Nat} {log:Log} {b5 jJ oW Kr:Nat} {q:An (dA × Pz)}
theorem LiE.ay (h:LiE w k lo g m log b5 jJ oW Kr) (hb:Below w.heap.size w w'):LiE w' k lo g m log b5 jJ oW Kr:=
 ⟨h.sp.ay hb,h.k5.ay hb,h.ep.ay hb,h.iT.ay hb,h.um.ay hb⟩
abbrev runN (k:Sk) (lo:LOp) (g:cG) (m:Nat) (log:Log) (n:Nat):An (dA × Pz):=cS (2 * k.l.c.aM) k.me lo (dp lo g) ((log.drop m).take n)
theorem LiE.next (h:LiE w k lo g m log b5 jJ oW Kr) (s:LiS k lo g m log q) (n:Nat) (hn:n<=log.length - m):
  Calls aw 124 #[aa ab (n:Nat),ptr b5,ptr jJ,ptr oW,ptr Kr] w (list.oJ k.l (runN k lo g m log n) w):=by
 have gq:=s.ns;rw [s.q_] at gq;have hle:=h.sp.le;have hlen:(log.drop m).length=log.length - m:=List.length_drop ..;refine lnx1 n lo (opOf k lo) (slA k.A m k.cap) (k.cap - m) (log.drop m) b5 jJ oW Kr (nodeAt k.l lo.h 0) h.sp s.se s.hh rfl s.ob ⟨rfl,rfl⟩ rfl s.kk h.k5 h.ep (by rw [hlen];exact h.iT) h.um s.ob.1 ?_ (by rw [hlen];have:=s.cap;omega) (by rw [hlen];omega) (by rw [hlen];exact hn) _ rfl (lo_pre s.kk gq n) ?_
 ·have:=hH.sub h.sp.sl m (log.length - m) k.cap s.cap
  rwa [<- hlen,pL] at this
 ·intro o z' he;obtain ⟨kk,hs,-⟩:=qU (g:=g) s.kk;have he:cS (2 * k.l.c.aM) k.me lo (dp lo g) ((log.drop m).take n)= .fin (o,z'):=he;rw [hs] at he;have h2:=JT _ ((log.drop m).drop n) he;rw [List.take_append_drop] at h2;refine s.gl o z' ?_;rw [s.q_,hs];exact h2
def LiRel (o:dA) (z':Pz) (wA:World) (v18 v22:Value) (wr:World):Prop:=
 ∃ (dn:Bool) (n:Nat),v18= .bool dn/\v22=aa ab (n:Nat)/\(dn=false->n<=z'.made)/\(dn=true->n=z'.made+1)/\Below wA.heap.size wA wr
theorem bN.gnV' {w:World} {v:Value} {g:cG} (h:bN w v g) {gp:Nat} {cs:Array Value} (kp:Bk w gp 141 cs):GnV w gp v g:=by
 obtain ⟨G,c,rfl,h2,h3⟩:=h;refine ⟨G,_,c,rfl,rfl,h2,fun hl=>?_⟩
 obtain ⟨b,o,ds,e,ey,hk,hc⟩:=h3 hl;exact ⟨b,o,ds,e,hk,hk.typ kp zD,hc⟩
theorem slist (h:fD w k g m log) (s:LiS k lo g m log q):
  Calls aw 90 #[ptr k.gp,aa ab lo.kind,aa ab lo.h,aa ab lo.o,aa ab lo.v] w (mA k q w fun u w'=>∃ o z' gG gn gc pk pc po pv,q= .fin (o,z')/\u= .tuple #[.agg (br o.val o.is 0 ((m+o.aH:Nat):Int) (.slice gG gn gc)),.agg (bj pk pc po pv)]/\fD w' k z'.gone (m+z'.made) log/\
   ∃ a,runN k lo g m log o.aH= .ask a/\bj pk pc po pv=bj a.k (adr k.l a.c) a.o a.v):=by
 have HS:=ar s;have HS0:=ar h;have aG:=(((Stp.refl k.gp w).alloc (ag #[ptr k.gp] 139)).alloc (ag aZ 70)).alloc (ag bW 67);have bz:=aB (aB (aB (Below.refl w.heap.size w) (ag #[ptr k.gp] 139)) (ag aZ 70)) (ag bW 67);have k5:=((Bk.made w 139 #[ptr k.gp]).alloc (ag aZ 70)).alloc (ag bW 67);have ld:=(Bk.new (w.alloc (ag #[ptr k.gp] 139)) (g:=w.heap.size+1) zS 70 aZ).alloc (ag bW 67);have oM:=Bk.new ((w.alloc (ag #[ptr k.gp] 139)).alloc (ag aZ 70)) (g:=w.heap.size+1+1) zS 67 bW;have zp:=h.lt;replace h:=h.ay bz;have jG:decide (nodeAt k.l lo.h 0 < 0)=false:=by have:=s.ob;simp;omega
 clear s;go_enter Tryz.func90,Tryz.ntmps90
 go_upto_region 1 with fail
 generalize ((w.alloc (ag #[ptr k.gp] 139)).alloc (ag aZ 70)).alloc (ag bW 67)=w0 at *;obtain ⟨b5,h5⟩:∃ x,w.heap.size=x:=⟨_,rfl⟩;have HW:=ar h5;rw [h5] at k5 ld oM zp ⊢;clear h5;obtain ⟨D2,h10⟩:∃ x,b5+1=x:=⟨_,rfl⟩;obtain ⟨Jy,h11⟩:∃ x,D2+1=x:=⟨_,rfl⟩;rw [h10] at ld;rw [h10,h11] at oM ⊢;have HZ:=ar (show k.gp < b5/\b5 < D2/\D2 < Jy from ⟨zp,zO,zO⟩)
 clear h10 h11 zp;obtain ⟨gv,kp,hG⟩:=h.kp;have fg:=Bl kp;have c5:=k5.cell 0;have l5:=k5.lt;have lp:=kp.lt;simp at c5
 go_wp2_with (refine qA rfl 34 (.tmp 25) rfl k.gp 0 rfl (lyC k.l) _ (IA kp) aJ rfl zK ?_)
 (with_reducible refine (dt k.l lo.h 0 w0 h.f HS.out.hh).mono ?_)
 rintro e w1 ⟨rfl,hb⟩;replace h:=h.ay hb;replace k5:=k5.ay hb;replace ld:=ld.ay hb;replace oM:=oM.ay hb;replace aG:=aG.trans (Stp.aS _ hb);replace bz:=aF bz hb;clear kp hG fg c5 l5 lp hb;obtain ⟨hd,uN⟩:∃ x,nodeAt k.l lo.h 0=x:=⟨_,rfl⟩;have HHD:=ar uN;rw [uN] at jG ⊢;clear uN
 go_upto_region 2 with fail
 have l11:=oM.lt;have um:=Bk.made w1 3 #[aa ab hd];have hb:=aB (Below.refl w1.heap.size w1) (ag #[aa ab hd] 3);replace h:=h.ay hb;replace k5:=k5.ay hb;replace ld:=ld.ay hb;replace oM:=oM.ay hb;replace aG:=aG.trans (Stp.aS _ hb);replace bz:=aF bz hb;clear hb;generalize w1.alloc (ag #[aa ab hd] 3)=w2 at *;obtain ⟨Kr,DD⟩:∃ x,w1.heap.size=x:=⟨_,rfl⟩;rw [DD] at um l11 ⊢;have HZ2:=ar l11;clear DD l11;have Cu:=um.cell 0;have l12:=um.lt;simp at Cu
 go_upto_region 3 with fail
 have ep:=Bk.made w2 54 #[aa ab lo.kind,aa ab hd,aa ab lo.o,aa ab lo.v];have hb:=aB (Below.refl w2.heap.size w2) (ag #[aa ab lo.kind,aa ab hd,aa ab lo.o,aa ab lo.v] 54);replace h:=h.ay hb;replace k5:=k5.ay hb;replace ld:=ld.ay hb;replace oM:=oM.ay hb;replace um:=um.ay hb;replace aG:=aG.trans (Stp.aS _ hb);clear hb;generalize w2.alloc (ag #[aa ab lo.kind,aa ab hd,aa ab lo.o,aa ab lo.v] 54)=w3 at *;obtain ⟨jJ,h13⟩:∃ x,w2.heap.size=x:=⟨_,rfl⟩;rw [h13] at ep l12 ⊢;have HZ3:=ar l12;clear h13 l12 Cu;have Cu:=um.cell 0;have l12:=um.lt;simp at Cu
 go_upto_region 5 with fail
 clear Cu l12 jG;obtain ⟨gv,kp,hG⟩:=h.kp;refine aP (S:=fun w'=>Bk w' k.gp 141 (spC k gv m log.length)/\Bk w' b5 139 #[ptr k.gp]) (E:=fun _=>false) zK ?_
 have hb:=aU (Below.refl w3.heap.size w3);replace h:=h.ay hb;replace k5:=k5.ay hb;replace ld:=ld.ay hb;replace oM:=oM.ay hb;replace um:=um.ay hb;replace kp:=kp.ay hb;replace ep:=ep.ay hb;replace aG:=aG.trans (Stp.aS _ hb);clear hb hG;generalize w3.drew=w4 at *;refine wTk 8 [(0,42,ptr k.gp),(1,43,ptr k.gp),(2,44,ae (some ⟨k.gp,28,none⟩)),(3,45,.slice k.A log.length k.cap),(4,46,ptr k.gp),(5,47,ptr k.gp),(6,48,ae (some ⟨k.gp,29,none⟩)),(7,49,aa ab (m:Nat))] ?_ ⟨kp,k5⟩ ?_
 ·intro w' hS;have sN:=hS.1.cell 28;have qQ:=hS.1.cell 29;have c5:=hS.2.cell 0;simp at sN qQ c5
  (repeat' (first | exact aC | refine au ⟨_,rfl,.inl ⟨rfl,?_⟩⟩ ?_))
  all_goals exact zG
 simp only [aR,Act.put,aj,ak,al];refine wTk 1 [(8,50,.slice (slA k.A m k.cap) (log.length - m) (k.cap - m))] ?_ ⟨kp,k5⟩ ?_
 ·intro w' hS
  (repeat' (first | exact aC | refine au ⟨_,rfl,.inl ⟨rfl,?_⟩⟩ ?_))
  all_goals exact Oj rfl rfl rfl h.nle
 simp only [aR,Act.put,aj,ak,al];refine aE (i:=9) (o:=_) zK rfl (fun KK hK=>?_)
 (try simp only [aq,ao,an])
 go_simp;have iT:=Bk.made w4 43 #[af none 0 0];have xu:=ep.lt;have hb:=aB (Below.refl w4.heap.size w4) (ag #[af none 0 0] 43);replace h:=h.ay hb;replace k5:=k5.ay hb;replace ld:=ld.ay hb;replace oM:=oM.ay hb;replace um:=um.ay hb;replace kp:=kp.ay hb;replace ep:=ep.ay hb;replace aG:=aG.trans (Stp.aS _ hb);clear hb;generalize w4.alloc (ag #[af none 0 0] 43)=w5 at *;obtain ⟨oW,Jm⟩:∃ x,w4.heap.size=x:=⟨_,rfl⟩;rw [Jm] at iT xu ⊢;have HZ4:=ar xu;clear Jm xu;refine hK.out _ _ (fun _=>⟨kp,k5⟩) ?_
 clear hK KK
 (try simp only [Act.put,aj,ak,al])
 have vK:=iT.cell 0;have f14:=iT.free 0;have BG:=iT.lt;simp at vK;refine aE (i:=10) (o:=_) zK rfl (fun KK hK=>?_)
 (try simp only [aq,ao,an])
 go_simp;clear vK f14 BG;have HZ5:=ar (show k.B<=k.gp/\k.gp < b5/\b5 < D2/\D2 < Jy/\Jy < Kr/\Kr < jJ/\jJ < oW from ⟨h.bp,HZ.out.1,HZ.out.2.1,HZ.out.2.2,HZ2.out,HZ3.out,HZ4.out⟩)
 replace h:=h.rB iT (by have:=HZ5.out;omega) zD 0 (.slice (slA k.A m k.cap) (log.length - m) (k.cap - m))
 replace kp:=kp.other (p:=⟨oW,0,none⟩) (by have:=HZ5.out;dsimp only;omega) (.slice (slA k.A m k.cap) (log.length - m) (k.cap - m))
 replace k5:=k5.other (p:=⟨oW,0,none⟩) (by have:=HZ5.out;dsimp only;omega) (.slice (slA k.A m k.cap) (log.length - m) (k.cap - m))
 replace ld:=ld.other (p:=⟨oW,0,none⟩) (by have:=HZ5.out;dsimp only;omega) (.slice (slA k.A m k.cap) (log.length - m) (k.cap - m))
 replace oM:=oM.other (p:=⟨oW,0,none⟩) (by have:=HZ5.out;dsimp only;omega) (.slice (slA k.A m k.cap) (log.length - m) (k.cap - m))
 replace um:=um.other (p:=⟨oW,0,none⟩) (by have:=HZ5.out;dsimp only;omega) (.slice (slA k.A m k.cap) (log.length - m) (k.cap - m))
 replace ep:=ep.other (p:=⟨oW,0,none⟩) (by have:=HZ5.out;dsimp only;omega) (.slice (slA k.A m k.cap) (log.length - m) (k.cap - m))
 replace aG:=aG.cell (p:=⟨oW,0,none⟩) (.inl (by have:=HZ5.out;rw [HW.out];dsimp only;omega)) (.slice (slA k.A m k.cap) (log.length - m) (k.cap - m))
 replace iT:Bk (w5.setCell ⟨oW,0,none⟩ (.slice (slA k.A m k.cap) (log.length - m) (k.cap - m))) oW 43 #[.slice (slA k.A m k.cap) (log.length - m) (k.cap - m)]:=iT.stored 0 _;generalize w5.setCell ⟨oW,0,none⟩ (.slice (slA k.A m k.cap) (log.length - m) (k.cap - m))=w6 at *;refine hK.out _ _ (fun _=>⟨kp,k5⟩) ?_
 clear hK KK kp
 (try simp only [Act.put,aj,ak,al])
 refine aN zK ?_ _;have Dv:∀ (fn:Fn) (first cap:Array Value) (w:World),(kZ fn first cap).run aw w= .ok (.func fn first cap) w:=fun _ _ _ _=>rfl
 go_upto_region 7 with fail
 have HE:=ar (show LiE w6 k lo g m log b5 jJ oW Kr from ⟨h,k5,by rw [<- HHD.out] at ep;exact ep,iT,by rw [HHD.out];exact um⟩)
 have hqn:runN k lo g m log (log.length - m)=q:=by
  rw [HS.out.q_];show cS _ _ _ _ ((log.drop m).take (log.length - m))=_;rw [<- List.length_drop,pL]
 have HQN:=ar hqn;have vK:=iT.cell 0;have BG:=iT.lt;simp at vK;clear hqn h k5 um ep
 go_wp2_with fail
 have qE:=HE.out.next HS.out (log.length - m) (az _)
 rw [HQN.out] at qE
 (with_reducible refine qE.mono ?_)
 intro e w7 hpost;obtain ⟨c1,c2,v3,rfl,oR,hb⟩:=sh hpost;obtain ⟨ck,cc,co,cv,val,is,er,pt,gG,gn,gc,dn,rfl,rfl,rfl,oR⟩:=oR;have HE7:=ar (HE.out.ay hb);have HST7:=ar (aG.trans (Stp.aS _ hb));replace ld:=ld.ay hb;replace oM:=oM.ay hb;replace iT:=iT.ay hb;clear qE hpost hb HE aG vK BG
 go_upto_region 8 with fail
 have uJ:=(Bk.made w7 67 (bj ck cc co cv)).alloc (ag (br val is er pt (.slice gG gn gc)) 70);have iO:=Bk.new (w7.alloc (ag (bj ck cc co cv) 67)) (g:=w7.heap.size+1) zS 70 (br val is er pt (.slice gG gn gc));have hb:=aB (aB (Below.refl w7.heap.size w7) (ag (bj ck cc co cv) 67)) (ag (br val is er pt (.slice gG gn gc)) 70);have BG:=iT.lt;have HE8:=ar (HE7.out.ay hb);have HST8:=ar (HST7.out.trans (Stp.aS _ hb));have HX:=ar (mH k.l q (bj ck cc co cv) (br val is er pt (.slice gG gn gc)) (.bool dn) w7 _ ⟨_,_,_,_,_,_,_,_,_,_,_,_,rfl,rfl,rfl,oR⟩ (.inr (.inr hb)));replace ld:=ld.ay hb;replace oM:=oM.ay hb;generalize (w7.alloc (ag (bj ck cc co cv) 67)).alloc (ag (br val is er pt (.slice gG gn gc)) 70)=w8 at *;obtain ⟨Kf,N6⟩:∃ x,w7.heap.size=x:=⟨_,rfl⟩;rw [N6] at uJ iO BG ⊢;clear N6;obtain ⟨ta,hg1⟩:∃ x,Kf+1=x:=⟨_,rfl⟩;rw [hg1] at iO ⊢;have HZ6:=ar (show oW < Kf/\Kf < ta from ⟨BG,zO⟩)
 clear HE7 HST7 iT BG hg1 hb oR;obtain ⟨ck2,cc2,co2,cv2,dV,is',er',pt',gG',gn',gc',dn',Oa,he2,he3,oR⟩:=HX.out;injection he3 with he3
 subst he3;rcases oR with ⟨a,hqa,xz,ha2,rfl⟩ | ⟨o,z',xy,hf1,hf2,hf3,hf4,hf5,rfl,jQ⟩
 ·rw [<- Oa] at xz;have HP:=ar (show q= .ask a/\Stp k.gp w w8 from ⟨hqa,HST8.out⟩)
  clear hqa ha2 iO ld oM HE8 HST8 Oa he2 HX;have xz:=congrArg Array.toList xz;simp only [List.cons.injEq,Value.int.injEq,true_and,and_true] at xz;obtain ⟨rfl,rfl,rfl,rfl⟩:=xz;have c0:=uJ.cell 0;have c1:=uJ.cell 1;have c2:=uJ.cell 2;have c3:=uJ.cell 3;have l0:=uJ.lt;simp at c0 c1 c2 c3
  go_wp2_with fail
  exact ⟨rfl,.inl ⟨a,HP.out.1,rfl,HP.out.2⟩⟩
 have he2:=congrArg Array.toList he2;simp only [List.cons.injEq,Value.int.injEq,Value.bool.injEq,Value.slice.injEq,true_and,and_true] at he2;obtain ⟨rfl,rfl,rfl,rfl,rfl,rfl,rfl⟩:=he2;subst hf2 hf3 hf4 hf5;have HF:=ar (show q= .fin (o,z')/\bN w8 (.slice gG gn gc) z'.gone from ⟨xy,jQ⟩)
 obtain ⟨p1,p2,p3,p4⟩:=lo_fin HS.out.kk (by rw [<- HS.out.q_];exact xy)
 rw [List.length_drop] at p2;have HP:=ar (show o.aH < z'.made/\z'.made<=log.length - m/\(∀ n,z'.made<=n->runN k lo g m log n= .fin (o,z'))/\(∀ n,n < z'.made->∃ a,runN k lo g m log n= .ask a) from ⟨p1,p2,p3,p4⟩)
 have hle:log.length<=100000:=HE8.out.sp.le;have A4:m<=log.length:=HE8.out.sp.nle;have hpz:decide ((o.aH:Int) < 0)=false:=zS;clear xy jQ hf1 Oa p1 p2 p3 p4 HX;have c3:=iO.cell 3;have l1:=iO.lt;simp at c3
 go_upto_region 12 with fail
 go_wp2_with fail
 have qE:=HE8.out.next HS.out o.aH (by have:=HP.out;omega)
 (with_reducible refine qE.mono ?_)
 intro e w9 hpost;obtain ⟨c1,c2,v3,rfl,oR,hb⟩:=sh hpost;obtain ⟨ek,ec,eo,ev,val2,is2,er2,pt2,hG2,uL,hc2,dn2,rfl,rfl,rfl,oR⟩:=oR;have HE9:=ar (HE8.out.ay hb);have HST9:=ar (HST8.out.trans (Stp.aS _ hb));have HF9:=ar (au HF.out.1 (HF.out.2.ay hb));replace ld:=ld.ay hb;replace oM:=oM.ay hb;replace uJ:=uJ.ay hb;replace iO:=iO.ay hb;have HAQ:Hid (∃ a,runN k lo g m log o.aH= .ask a/\(bj ek ec eo ev)=bj a.k (adr k.l a.c) a.o a.v):=ar (by
  rcases oR with ⟨a,h1,h2,-⟩ | ⟨o',z2,h1,-⟩
  ·exact ⟨a,h1,h2⟩
  ·obtain ⟨a,ha⟩:=HP.out.2.2.2 o.aH HP.out.1;rw [ha] at h1
   cases h1)
 clear qE hpost hb HE8 HST8 HF oR c3 l1;have c3:=iO.cell 3;have l1:=iO.lt;simp at c3
 go_upto_region 13 with fail
 have uk:=(Bk.made w9 67 (bj ek ec eo ev)).alloc (ag (br val2 is2 er2 pt2 (.slice hG2 uL hc2)) 70);have hb:=aB (aB (Below.refl w9.heap.size w9) (ag (bj ek ec eo ev) 67)) (ag (br val2 is2 er2 pt2 (.slice hG2 uL hc2)) 70);have lz:=iO.lt;have HEA:=ar (HE9.out.ay hb);have HSTA:=ar (HST9.out.trans (Stp.aS _ hb));have HFA:=ar (au HF9.out.1 (HF9.out.2.ay hb));replace ld:=ld.ay hb;replace oM:=oM.ay hb;replace iO:=iO.ay hb;clear c3 l1 uJ HE9 HST9 HF9 hb;generalize (w9.alloc (ag (bj ek ec eo ev) 67)).alloc (ag (br val2 is2 er2 pt2 (.slice hG2 uL hc2)) 70)=wA at *;obtain ⟨Ct,hgc⟩:∃ x,w9.heap.size=x:=⟨_,rfl⟩;rw [hgc] at uk lz ⊢;have HZ7:=ar (show ta < Ct from lz)
 clear hgc lz;have c3:=iO.cell 3;have l1:=iO.lt;simp at c3;have HM:=ar (show o.aH < z'.made/\z'.made<=log.length - m from ⟨HP.out.1,HP.out.2.1⟩)
 have qI:(o.aH:Int) < 100000:=by have:=HP.out;omega
 go_wp2_with fail
 go_loopw [18,22] (fun v18 v22 wr=>LiRel o z' wA v18 v22 wr) (fun _ v22 _=>z'.made+2 - (intOf v22).toNat)
 case atStart=>exact ⟨false,o.aH+1,rfl,rfl,fun _=>HM.out.1,fun h=>(by cases h),Below.refl _ _⟩
 case round=>
 clear c3 l1 qI;obtain ⟨dn3,n,rfl,rfl,oV,hd2,fK⟩:=hrel;have HBW:=ar fK
 cases dn3 with
 | false=>
  have HD:=ar (oV rfl);clear oV hd2 fK
  go_wp2_with fail
  have qE:=(HEA.out.ay HBW.out).next HS.out n (by have:=HD.out;have:=HM.out;omega)
  (with_reducible refine qE.mono ?_)
  intro e wB hpost;obtain ⟨c1,c2,v3,rfl,oR,hb⟩:=sh hpost;obtain ⟨fk,fc,fo,fv,val3,is3,er3,pt3,iG3,in3,ic3,dn4,rfl,rfl,rfl,oR⟩:=oR;have OU:=ar (show LiRel o z' wA (.bool dn4) (aa ab ((n+1:Nat):Int)) wB from ⟨dn4,n+1,rfl,rfl,(by
   rintro rfl;rcases oR with ⟨a,h1,-⟩ | ⟨o',z2,h1,h2,h3,h4,h5,h6,h7,-⟩
   ·have hn:=HD.out;rcases Nat.lt_or_ge n z'.made with dN | hge
    ·exact dN
    ·rw [HP.out.2.2.1 n hge] at h1;cases h1
   ·cases h7),(by
   rintro rfl;rcases oR with ⟨a,h1,h2,h3,h7⟩ | ⟨o',z2,h1,-⟩
   ·cases h7
   ·have hn:=HD.out;rcases Nat.lt_or_ge n z'.made with dN | hge
    ·obtain ⟨a,ha⟩:=HP.out.2.2.2 n dN;rw [ha] at h1;cases h1
    ·omega),aF HBW.out hb⟩)
  have hnm:(n:Int)<=100000:=by have:=HD.out;have:=HM.out;omega
  have HMS:=ar (show z'.made+2 - (n+1) < z'.made+2 - n by have:=HD.out;omega)
  clear qE hpost hb oR
  go_wp2_with fail
  go_roundw
  case rel=>exact OU.out
  case measure=>
   have:=HD.out;show z'.made+2 - ((n:Int)+1).toNat < z'.made+2 - (n:Int).toNat;omega
 | true=>
  have L5:=hd2 rfl;have HNZ:=ar L5;have A3:(n:Int)<=100001:=by have:=HM.out;omega
  have uL:(1:Int)<=n:=zO;clear L5;obtain ⟨pp,NW⟩:∃ x,((m+o.aH:Nat):Int)=x:=⟨_,rfl⟩;have HPP:=ar NW;have qI:(o.aH:Int) < 100000:=by have:=HM.out;omega
  have zR:(m:Int)<=100000:=zO;have HE:=ar (HEA.out.ay fK);have xC:=ar (HSTA.out.trans (Stp.aS _ fK));have HF:=ar (au HFA.out.1 (HFA.out.2.ay fK));replace ld:=ld.ay fK;replace oM:=oM.ay fK;replace iO:=iO.ay fK;replace uk:=uk.ay fK;clear oV hd2 fK HEA HSTA HFA HBW NW
  go_upto_region 18 with fail
  have xk:=ar (show k.B<=k.gp/\k.gp < b5/\b5 < D2/\D2 < Jy/\Jy < ta/\ta < Ct from by have:=HZ5.out;have:=HZ6.out;have:=HZ7.out;omega)
  obtain ⟨gvE,kp,hG⟩:=HE.out.sp.kp;have k5:=HE.out.k5;have lG:=HE.out.sp;have HG:=ar hG;clear hG HE;have aG:=xC.out;clear xC;have HFg:=ar (show q= .fin (o,z') from HF.out.1)
  have jQ:=HF.out.2;clear HF;refine aP (S:=fun w'=>Bk w' ta 70 (br o.val o.is 0 (o.aH:Nat) (.slice gG gn gc))/\Bk w' k.gp 141 (spC k gvE m log.length)/\Bk w' b5 139 #[ptr k.gp]) (E:=fun i=>i==8) zK ?_
  have hb:=aU (Below.refl wr.heap.size wr);replace iO:=iO.drew;replace uk:=uk.drew;replace ld:=ld.drew;replace oM:=oM.drew;replace kp:=kp.drew;replace k5:=k5.drew;replace lG:=lG.ay hb;replace jQ:=jQ.ay hb;replace aG:=aG.drew;clear hb;generalize wr.drew=wD at *;refine wTk 8 [(0,92,ae (some ⟨ta,3,none⟩)),(1,93,aa ab (o.aH:Nat)),(2,94,ptr k.gp),(3,95,ptr k.gp),(4,96,ae (some ⟨k.gp,29,none⟩)),(5,97,aa ab (m:Nat)),(6,98,aa ab pp),(7,99,ae (some ⟨ta,3,none⟩))] ?_ ⟨iO,kp,k5⟩ ?_
  ·intro w' hS;have c3:=hS.1.cell 3;have qQ:=hS.2.1.cell 29;have c5:=hS.2.2.cell 0;simp at c3 qQ c5;have hwr:IntKind.i64.wrap ((o.aH:Int)+m)=pp:=by rw [cV _ zO,<- HPP.out];push_cast;omega
   (repeat' (first | exact aC | refine au ⟨_,rfl,.inl ⟨rfl,?_⟩⟩ ?_))
   all_goals exact zG
  simp only [aR,Act.put,aj,ak,al];have c3:=iO.cell 3;have f3:=iO.free 3;have l1:=iO.lt;simp at c3;refine aE (i:=8) (o:=_) zK rfl (fun KK hK=>?_)
  (try simp only [aq,ao,an])
  go_simp;clear c3 f3 l1;replace lG:=lG.rB iO (by have:=xk.out;omega) zD 3 (aa ab pp)
  replace jQ:=jQ.cell iO zD 3 (aa ab pp);replace uk:=uk.other (p:=⟨ta,3,none⟩) (by have:=xk.out;dsimp only;omega) (aa ab pp)
  replace ld:=ld.other (p:=⟨ta,3,none⟩) (by have:=xk.out;dsimp only;omega) (aa ab pp)
  replace oM:=oM.other (p:=⟨ta,3,none⟩) (by have:=xk.out;dsimp only;omega) (aa ab pp)
  replace k5:=k5.other (p:=⟨ta,3,none⟩) (by have:=xk.out;dsimp only;omega) (aa ab pp)
  replace kp:=kp.other (p:=⟨ta,3,none⟩) (by have:=xk.out;dsimp only;omega) (aa ab pp)
  replace aG:=aG.cell (p:=⟨ta,3,none⟩) (.inl (by have:=xk.out;rw [HW.out];dsimp only;omega)) (aa ab pp)
  replace iO:Bk (wD.setCell ⟨ta,3,none⟩ (aa ab pp)) ta 70 (br o.val o.is 0 pp (.slice gG gn gc)):=iO.stored 3 _;generalize wD.setCell ⟨ta,3,none⟩ (aa ab pp)=wE at *;refine hK.out _ _ (fun h=>absurd h zD) ?_
  clear hK KK
  (try simp only [Act.put,aj,ak,al])
  refine aN zK ?_ _;have c5:=k5.cell 0;have l5:=k5.lt;have qQ:=kp.cell 29;have f29:=kp.free 29;have lp:=kp.lt;simp at c5 qQ
  go_upto_region 20 with fail
  clear c5 l5 qQ f29 lp;have hmn:(m:Int)+((n:Int) - 1)=((m+z'.made:Nat):Int):=by have:=HNZ.out;push_cast;omega
  have L7:m+z'.made<=log.length:=by have:=HM.out;omega
  replace jQ:=jQ.cell kp zD 29 (aa ab (m+(n - 1)));replace aG:=aG.cell (p:=⟨k.gp,29,none⟩) (.inr rfl) (aa ab (m+(n - 1)));replace uk:=uk.other (p:=⟨k.gp,29,none⟩) (by have:=xk.out;dsimp only;omega) (aa ab (m+(n - 1)))
  replace iO:=iO.other (p:=⟨k.gp,29,none⟩) (by have:=xk.out;dsimp only;omega) (aa ab (m+(n - 1)))
  replace ld:=ld.other (p:=⟨k.gp,29,none⟩) (by have:=xk.out;dsimp only;omega) (aa ab (m+(n - 1)))
  replace oM:=oM.other (p:=⟨k.gp,29,none⟩) (by have:=xk.out;dsimp only;omega) (aa ab (m+(n - 1)))
  replace k5:=k5.other (p:=⟨k.gp,29,none⟩) (by have:=xk.out;dsimp only;omega) (aa ab (m+(n - 1)))
  replace kp:Bk (wE.setCell ⟨k.gp,29,none⟩ (aa ab (m+(n - 1)))) k.gp 141 (spC k gvE (m+z'.made) log.length):=by
   have:=kp.stored 29 (aa ab (m+(n - 1)));rw [hmn] at this ⊢;exact this
  clear hmn;generalize wE.setCell ⟨k.gp,29,none⟩ (aa ab (m+(n - 1)))=wF at *;have HSL:=ar L7;clear lG L7;have c5:=k5.cell 0;have l5:=k5.lt;have jI:=kp.cell 26;have f26:=kp.free 26;have c4:=iO.cell 4;have l1:=iO.lt;have lp:=kp.lt;simp at c5 jI c4
  go_upto_region 21 with fail
  clear c5 l5 jI f26 c4 l1 lp;have nk:=aG.cell (p:=⟨k.gp,26,none⟩) (.inr rfl) (.slice gG gn gc);have Jf:=jQ.cell kp zD 26 (.slice gG gn gc);clear jQ;replace uk:=uk.other (p:=⟨k.gp,26,none⟩) (by have:=xk.out;dsimp only;omega) (.slice gG gn gc)
  replace iO:=iO.other (p:=⟨k.gp,26,none⟩) (by have:=xk.out;dsimp only;omega) (.slice gG gn gc)
  replace ld:=ld.other (p:=⟨k.gp,26,none⟩) (by have:=xk.out;dsimp only;omega) (.slice gG gn gc)
  replace oM:=oM.other (p:=⟨k.gp,26,none⟩) (by have:=xk.out;dsimp only;omega) (.slice gG gn gc)
  replace kp:Bk (wF.setCell ⟨k.gp,26,none⟩ (.slice gG gn gc)) k.gp 141 (spC k (.slice gG gn gc) (m+z'.made) log.length):=kp.stored 26 (.slice gG gn gc);clear aG k5;generalize wF.setCell ⟨k.gp,26,none⟩ (.slice gG gn gc)=wG at *;refine aP (S:=fun w'=>Bk w' ta 70 (br o.val o.is 0 pp (.slice gG gn gc))/\Bk w' Ct 67 (bj ek ec eo ev)) (E:=fun _=>false) zK ?_
  have hb:=aU (Below.refl wG.heap.size wG);replace iO:=iO.drew;replace uk:=uk.drew;replace ld:=ld.drew;replace oM:=oM.drew;replace kp:=kp.drew;replace Jf:=Jf.ay hb;replace nk:=nk.drew;clear hb;generalize wG.drew=wH at *;refine wTk 1 [(0,114,.agg (br o.val o.is 0 pp (.slice gG gn gc)))] ?_ ⟨iO,uk⟩ ?_
  ·intro w' hS;have fg:(dr 70 ⟨ta,0,none⟩).run aw w'= .ok (.agg (br o.val o.is 0 pp (.slice gG gn gc))) w':=be w' ta 70 70 (br o.val o.is 0 pp (.slice gG gn gc)) (0,0) _ hS.1 aI rfl zK
   (repeat' (first | exact aC | refine au ⟨_,rfl,.inl ⟨rfl,?_⟩⟩ ?_))
   all_goals exact list.bI rfl rfl fg
  simp only [aR,Act.put,aj,ak,al];refine wTk 1 [(1,115,.agg (bj ek ec eo ev))] ?_ ⟨iO,uk⟩ ?_
  ·intro w' hS;have fg:(dr 67 ⟨Ct,0,none⟩).run aw w'= .ok (.agg (bj ek ec eo ev)) w':=be w' Ct 67 67 (bj ek ec eo ev) (0,0) _ hS.2 bU rfl zK
   (repeat' (first | exact aC | refine au ⟨_,rfl,.inl ⟨rfl,?_⟩⟩ ?_))
   all_goals exact list.bI rfl rfl fg
  simp only [aR,Act.put,aj,ak,al];refine aE (i:=2) (o:=_) zK rfl (fun KK hK=>?_)
  (try simp only [aq,ao,an])
  rw [if_pos (by rfl)]
  refine dH 70 (.tmp 10) (.tmp 114) rfl D2 (br o.val o.is 0 pp (.slice gG gn gc)) rfl rfl 70 aZ ld zK rfl (by simp [aD]) ?_
  replace iO:=iO.a7 (b:=D2) (by have:=xk.out;omega) (br o.val o.is 0 pp (.slice gG gn gc))
  replace uk:=uk.a7 (b:=D2) (by have:=xk.out;omega) (br o.val o.is 0 pp (.slice gG gn gc))
  replace oM:=oM.a7 (b:=D2) (by have:=xk.out;omega) (br o.val o.is 0 pp (.slice gG gn gc))
  replace kp:=kp.a7 (b:=D2) (by have:=xk.out;omega) (br o.val o.is 0 pp (.slice gG gn gc))
  replace Jf:=Jf.row ld zD (br o.val o.is 0 pp (.slice gG gn gc));replace nk:=nk.row (b:=D2) (.inl (by have:=xk.out;rw [HW.out];omega)) (br o.val o.is 0 pp (.slice gG gn gc))
  replace ld:=ld.bL (br o.val o.is 0 pp (.slice gG gn gc));generalize wH.setRow D2 (br o.val o.is 0 pp (.slice gG gn gc))=wI at *;refine hK.out _ _ (fun _=>⟨iO,uk⟩) ?_
  clear hK KK
  (try simp only [aq,ao,an,Act.put])
  refine aE (i:=3) (o:=_) zK rfl (fun KK hK=>?_)
  (try simp only [aq,ao,an])
  rw [if_pos (by rfl)]
  refine dH 67 (.tmp 11) (.tmp 115) rfl Jy (bj ek ec eo ev) rfl rfl 67 bW oM zK rfl (by simp [aD]) ?_
  replace iO:=iO.a7 (b:=Jy) (by have:=xk.out;omega) (bj ek ec eo ev)
  replace uk:=uk.a7 (b:=Jy) (by have:=xk.out;omega) (bj ek ec eo ev)
  replace ld:=ld.a7 (b:=Jy) (by have:=xk.out;omega) (bj ek ec eo ev)
  replace kp:=kp.a7 (b:=Jy) (by have:=xk.out;omega) (bj ek ec eo ev)
  replace Jf:=Jf.row oM zD (bj ek ec eo ev);replace nk:=nk.row (b:=Jy) (.inl (by have:=xk.out;rw [HW.out];omega)) (bj ek ec eo ev)
  replace oM:=oM.bL (bj ek ec eo ev);generalize wI.setRow Jy (bj ek ec eo ev)=wJ at *;refine hK.out _ _ (fun _=>⟨iO,uk⟩) ?_
  clear hK KK
  (try simp only [aq,ao,an,Act.put])
  refine aN zK ?_ _
  go_wp2_with fail
  obtain ⟨ax,hax1,hax2⟩:=HAQ.out;exact aX (v:=.tuple #[.agg (br o.val o.is 0 pp (.slice gG gn gc)),.agg (bj ek ec eo ev)]) (IL (p:=10) (q:=11) (t1:=70) (t2:=67) rfl _ _ D2 Jy _ _ (0,0) (0,0) _ _ rfl rfl ld oM aI rfl zK bU rfl zK) rfl
   (.inr ⟨_,rfl,⟨o,z',_,_,_,_,_,_,_,HFg.out,by rw [HPP.out],⟨⟨_,kp,bN.gnV' Jf kp⟩,HS0.out.sl.below (nk.part HS0.out.bp (by have:=HS0.out.lt;have:=HS0.out.bp;omega)),HS0.out.bp,HS0.out.le,HSL.out,HS0.out.f⟩,ax,hax1,hax2⟩,nk⟩)
end
section
variable {w:World} {k:Sk} {g:cG} {m:Nat} {log:Log}
theorem Mq (val er pt:Int) (gv:Value) (pk pc po pv:Int) (gp:Nat) (w:World):
  Calls aw 123 #[ptr gp,.agg (br val true er pt gv),.agg (bj pk pc po pv)] w fun e w'=>e=ai (aa ab (idxOf pv))/\Below w.heap.size w w':=by
 have Dw:∀ (a:Int) (b:Bool) (c:Int) (w:World),(uP 81 (.agg #[aa ab a,.bool b,aa ab c]) 0).run aw w= .ok (aa ab a) w:=fun _ _ _ _=>by kernel_rfl
 have hb:=aB (aB (Below.refl w.heap.size w) (ag (br val true er pt gv) 70)) (ag (bj pk pc po pv) 67);have HB:=ar hb;clear hb;go_enter Tryz.func123,Tryz.ntmps123
 go_wp2_with fail
 (with_reducible refine (gV pv _).mono ?_)
 rintro e w2 ⟨rfl,hb⟩;have HB2:=ar (aF HB.out hb);obtain ⟨ix,jZ⟩:∃ z,pv % 65536=z:=⟨_,rfl⟩;have lj:=ar (show idxOf pv=ix from jZ)
 rw [jZ];clear hb jZ
 go_wp2_with fail
 go_ret
 exact ⟨by rw [lj.out];rfl,HB2.out⟩
theorem Mp (val er:Int) (p:Nat) (gv:Value) (pk pc po pv:Int) (r:Int × Bool) (h:fD w k g m log) (hr:log[p+2]? =some r):
  Calls aw 123 #[ptr k.gp,.agg (br val false er (p:Nat) gv),.agg (bj pk pc po pv)] w fun e w'=>e=ai (aa ab (idxOf r.1))/\Below w.heap.size w w':=by
 have Dw:∀ (a:Int) (b:Bool) (c:Int) (w:World),(uP 81 (.agg #[aa ab a,.bool b,aa ab c]) 0).run aw w= .ok (aa ab a) w:=fun _ _ _ _=>by kernel_rfl
 have hb:=aB (aB (Below.refl w.heap.size w) (ag (br val false er (p:Nat) gv) 70)) (ag (bj pk pc po pv) 67);have HB:=ar hb;have k4:=(Bk.made w 70 (br val false er (p:Nat) gv)).alloc (ag (bj pk pc po pv) 67);have h1:=h.ay hb;obtain ⟨gvp,kp,-⟩:=h1.kp;have dN:p+2 < log.length:=(a8.1 hr).1;have hle:=h1.le;obtain ⟨b,oo,hA,ey,hc⟩:=h1.sl zO;obtain ⟨d1,-⟩:=hc _ _ hr;have HA:=ar hA;have HD:=ar d1;clear h h1 hr hb hc hA d1 ey;go_enter Tryz.func123,Tryz.ntmps123
 go_upto_region 3 with fail
 generalize (w.alloc (ag (br val false er (p:Nat) gv) 70)).alloc (ag (bj pk pc po pv) 67)=w1 at *;obtain ⟨b4,h4⟩:∃ x,w.heap.size=x:=⟨_,rfl⟩;rw [h4] at k4 ⊢;have HW:=ar h4;clear h4;refine aP (S:=fun w'=>Below w1.drew.heap.size w1.drew w') (E:=fun _=>false) zK ?_
 replace kp:=kp.drew;replace k4:=k4.drew;have HD2:Hid (w1.drew.cell? ⟨b,oo+(p+2) * 2,none⟩=some (aa ab r.1)):=ar HD.out;have HB1:=ar (show Below w.heap.size w w1.drew from HB.out.drew)
 generalize w1.drew=w2 at *;clear HD HB;refine wTk 10 [(0,13,ptr k.gp),(1,14,ptr k.gp),(2,15,ae (some ⟨k.gp,28,none⟩)),(3,16,af (some ⟨b,oo,none⟩) log.length k.cap),(4,17,ae (some ⟨b4,3,none⟩)),(5,18,aa ab (p:Nat)),(6,19,aa ab ((p+2:Nat):Int)),(7,20,ae (some ⟨b,oo+(p+2) * 2,none⟩)),(8,21,ae (some ⟨b,oo+(p+2) * 2,none⟩)),(9,22,aa ab r.1)] ?_ (Below.refl _ _) ?_
 ·intro w' hS;have sN:=(kp.ay hS).cell 28;have c3:=(k4.ay hS).cell 3;have s1:=pE hS HD2.out;have hw1:IntKind.i64.wrap ((p:Int)+2)=((p+2:Nat):Int):=by rw [cV _ zO];rfl
  have g3:((p+2:Nat):Int) < log.length:=zO;have g4:((p+2:Nat):Int).toNat=p+2:=zO;simp at sN c3 s1;rw [HA.out] at sN;generalize NW:((p+2:Nat):Int)=pp at *;have g5:0<=pp:=zO
  (repeat' (first | exact aC | refine au ⟨_,rfl,.inl ⟨rfl,?_⟩⟩ ?_))
  all_goals exact zG
 simp only [aR,Act.put,aj,ak,al];refine aE (i:=10) (o:=_) zK rfl (fun KK hK=>?_)
 (try simp only [aq,ao,an])
 go_simp
 (with_reducible refine (gV r.1 _).mono ?_)
 rintro e w3 ⟨rfl,hb⟩;have HB3:=ar (aF HB1.out hb);obtain ⟨ix,jZ⟩:∃ z,r.1 % 65536=z:=⟨_,rfl⟩;have lj:=ar (show idxOf r.1=ix from jZ)
 rw [jZ];refine hK.out _ _ (fun _=>hb) ?_
 clear hK KK jZ
 (try simp only [Act.put,aj,ak,al])
 refine wTk 2 [(11,24,aa ab ix),(12,6,aa ab ix)] ?_ hb ?_
 ·intro w' hS
  (repeat' (first | exact aC | refine au ⟨_,rfl,.inl ⟨rfl,?_⟩⟩ ?_))
  all_goals exact zG
 simp only [aR,Act.put,aj,ak,al];refine aN zK ?_ _
 go_wp2_with fail
 go_ret
 exact ⟨by rw [lj.out];rfl,HB3.out⟩
theorem K3 (w:World):Calls aw 180 #[.int .u64 1] w fun e w'=>e=ai (aa ab 1)/\w=w':=by
 go_enter Tryz.func180,Tryz.ntmps180
 go_wp2_with fail
 go_ret
 exact ⟨zK,rfl⟩
theorem len_one (w:World):Calls aw 162 #[.int .u64 1] w fun e w'=>e=ai (aa ab 1)/\w=w':=by
 go_enter Tryz.func162,Tryz.ntmps162
 go_wp2_with fail
 (with_reducible refine (K3 _).mono ?_)
 rintro e w1 ⟨rfl,rfl⟩
 go_wp2_with fail
 go_ret
 exact ⟨rfl,rfl⟩
theorem IN (w:World):Calls aw 121 #[aa ab 1] w fun e w'=>e=ai (aa ab 0)/\Below w.heap.size w w':=by
 go_enter Tryz.func121,Tryz.ntmps121
 go_wp2_with fail
 (with_reducible refine (len_one _).mono ?_)
 rintro e w1 ⟨rfl,rfl⟩
 go_wp2_with fail
 go_ret
 exact ⟨rfl,Below.refl _ _⟩
end
end Go.Proofs.YtikdaeddbkopeaaGreatR.split
namespace Go.Proofs.YtikdaeddbkopeaaGreatR
def SX.gN (N:Nat):SX->Prop
 | .go _ s=>s.gone.length<=N
 | .ret _ s=>s.gone.length<=N
 | .stuck=>True
def LX.gN (N:Nat):LX->Prop
 | .go _ s=>s.gone.length<=N
 | .out _ s=>s.gone.length<=N
 | .stuck=>True
section
variable {N:Nat} {th:Int} {z:Pz}
theorem B0 (h:z.gone.length<=N) (i:Nat):(dK z i).gN N:=by unfold dK;split <;> exact h
theorem Sub.gN (jl:th<=N) (h:z.gone.length<=N) (x:Sub) (r:Int × Bool):(x.stp th z r).gN N:=by
 cases x with
 | cl i=>exact B0 (z:={ z.got with dO:=z.dO.set i 0 }) h _
 | r2 n e=>
  simp only [Sub.stp];split
  ·rename_i dN;show (z.gone++[(n,e)]).length<=N;rw [cJ];show z.gone.length+1<=N;omega
  ·trivial
 | _=>simp only [Sub.stp];(try split) <;> first | exact h | trivial
theorem xX {X:SX} (h:X.gN N) (k:LK) (f:Ret->Pz->LX) (hf:∀ t s,s.gone.length<=N->(f t s).gN N):(X.oX k f).gN N:=by
 cases X with
 | go x z=>exact h
 | ret t z=>exact hf t z h
 | stuck=>trivial
theorem B3 (o:dA) (h:z.gone.length<=N):(iE o z).gN N:=xX (B0 h 0) _ _ fun _ _ h=>h
theorem Jq (n:Int) (o:dA) (h:z.gone.length<=N):(ie n o z).gN N:=xX (B0 h 0) _ _ fun _ _ h=>h
theorem DN (op:LOp) (k:FK) (b:Bool) (prev cur next:Int) (pt:Nat) (h:z.gone.length<=N):(kI op k b prev cur next pt z).gN N:=by
 cases k <;> simp only [kI] <;> (repeat' split) <;> first | exact h | exact B3 _ h
theorem C7 (op:LOp) (k:FK) (f:Fp) (h:z.gone.length<=N):(fY op k f z).gN N:=by
 unfold fY;split
 ·exact DN _ _ _ _ _ _ _ h
 ·exact h
theorem resL_gN (op:LOp) (k:LK) (t:Ret) (h:z.gone.length<=N):(jS op t z k).gN N:=by
 cases k <;> simp only [jS] <;> (repeat' split) <;> first | exact h | exact B3 _ h | exact C7 _ _ _ h | trivial
theorem LPh.gN (jl:th<=N) (h:z.gone.length<=N) (op:LOp) (x:LPh) (r:Int × Bool):(x.stp th op z r).gN N:=by
 have h':z.got.gone.length<=N:=h
 cases x with
 | sub x k=>exact xX (Sub.gN jl h x r) k _ fun t s hs=>resL_gN op k t hs
 | _=>
  simp only [LPh.stp]
  (repeat' split) <;> first | exact h' | exact B3 _ h' | exact Jq _ _ h' | exact C7 _ _ _ h' | exact DN _ _ _ _ _ _ _ h'
theorem MG {me:Int} {op:LOp} (jl:th<=N):∀ (l:Log) {x:LPh} {z z':Pz} {o:dA},z.gone.length<=N->fM th me op x z l= .fin (o,z')->z'.gone.length<=N
 | [],x,z,z',o,_,h=>by cases h
 | r :: l,x,z,z',o,hp,h=>by
  rw [fp] at h;have ha:=LPh.gN jl hp op x r
  cases hx:x.stp th op z r with
  | go x1 z1=>rw [hx] at h ha;exact MG jl l ha h
  | out o1 z1=>
   rw [hx] at h ha;injection h with h
   injection h with h5 h6
   subst h5 h6;exact ha
  | stuck=>rw [hx] at h;cases h
theorem J2 {me:Int} {lo:LOp} {g:cG} {L:Log} {o:dA} {z':Pz} (jl:th<=N) (hk:lo.kind=1\/lo.kind=2\/lo.kind=3) (hg:g.length<=N) (h:cS th me lo (dp lo g) L= .fin (o,z')):z'.gone.length<=N:=by
 obtain ⟨k,hs,-⟩:=qU (g:=g) hk;rw [hs] at h;exact MG jl L (z:=⟨[0,0,0],g,0⟩) hg h
end
end Go.Proofs.YtikdaeddbkopeaaGreatR
namespace Go.Proofs.YtikdaeddbkopeaaGreatR
open Go.RowKit
section
variable {P:Cn} {ops:Array Oper} {Q:Exit->Act->World->Prop} {md:Region.Mode} {S:World->Prop} {E:Nat->Bool}
theorem qj {tmp:Nat->Nat} {val:Nat->Option Value}:∀ (U:List Nat) (a:Act),(bq tmp val U a).defers=a.defers
 | [],a=>rfl
 | i :: U,a=>by
  simp only [bq]
  cases val i with
  | none=>exact qj U a
  | some v=>exact (qj U _).trans rfl
theorem Bf {QP:List PanicEntry->World->Prop} {o:Oper} (hs:∀ cs b,o.op≠ .select cs b) {a a':Act} (he:∀ x∈o.op.operands,a'.eval x=a.eval x) {w:World} {Rv:Value->World->Prop} (hb:∀ t,o.dst=some t->t < a.tmps.size)
  (h:o.wp P a w (fun b w2=>∃ v,b=a.put o.dst v/\Rv v w2) (fun e _ w'=>∃ c,e= .panic c/\QP c w')) {K:Act->World->Prop} {Q:Exit->Act->World->Prop} (hQP:∀ c w',QP c w'->Q (.panic c) a' w') (hK:∀ v w2,Rv v w2->K (a'.put o.dst v) w2):o.wp P a' w K Q:=by
 unfold Oper.wp at *;rw [execOp_congr o hs he];have It:∀ v,a.put o.dst undef=a.put o.dst v->a'.put o.dst undef=a'.put o.dst v:=by
  intro v hv
  cases hd:o.dst with
  | none=>rfl
  | some t=>
   rw [hd] at hv;have dN:=hb t hd;have:(a.put (some t) undef).tmps[t]? =(a.put (some t) v).tmps[t]?:=by rw [hv]
   simp only [Act.put] at this;rw [bV dN,bV dN] at this;injection this with this
   rw [this]
 generalize (Av a.eval o).run P w=r at *
 cases r with
 | ok n w'=>
  cases n <;> simp only [Oper.upon] at h ⊢
  case value u=>
   obtain ⟨v,hv,hR⟩:=h
   cases hd:o.dst with
   | none=>rw [hd] at hK;exact hK v _ hR
   | some t=>
    rw [hd] at hv hK;have dN:=hb t hd;have:(a.put (some t) u).tmps[t]? =(a.put (some t) v).tmps[t]?:=by rw [hv]
    simp only [Act.put] at this;rw [bV dN,bV dN] at this;injection this with this
    rw [this];exact hK v _ hR
  case skip=>
   obtain ⟨v,hv,hR⟩:=h;rw [It v hv];exact hK v _ hR
  case defer d=>
   obtain ⟨v,hv,hR⟩:=h;have:(({ a with defers:=d :: a.defers }:Act).put o.dst undef).defers=(a.put o.dst v).defers:=by rw [hv]
   exfalso
   cases hd:o.dst with
   | none=>rw [hd] at this;simp only [Act.put] at this;have:=congrArg List.length this;simp at this
   | some t=>rw [hd] at this;simp only [Act.put] at this;have:=congrArg List.length this;simp at this
  case enter f args=>
   refine Calls.mono h fun e w'' he=>?_
   cases e with
   | returned u=>
    obtain ⟨v,hv,hR⟩:=he
    cases hd:o.dst with
    | none=>rw [hd] at hK;exact hK v _ hR
    | some t=>
     rw [hd] at hv hK;have dN:=hb t hd;have:(a.put (some t) u).tmps[t]? =(a.put (some t) v).tmps[t]?:=by rw [hv]
     simp only [Act.put] at this;rw [bV dN,bV dN] at this;injection this with this
     rw [this];exact hK v _ hR
   | panicked c=>
    obtain ⟨c',e',hq⟩:=he;injection e' with e'
    subst e';exact hQP _ _ hq
   | outgrown=>exact absurd he (by simp [LetsOut])
  case row row args=>
   refine Rows.mono h fun u w'' he=>?_
   obtain ⟨v,hv,hR⟩:=he
   cases hd:o.dst with
   | none=>rw [hd] at hK;exact hK v _ hR
   | some t=>
    rw [hd] at hv hK;have dN:=hb t hd;have:(a.put (some t) u).tmps[t]? =(a.put (some t) v).tmps[t]?:=by rw [hv]
    simp only [Act.put] at this;rw [bV dN,bV dN] at this;injection this with this
    rw [this];exact hK v _ hR
 | halt x w'=>
  cases x <;> simp only [Oper.upon] at h ⊢
  all_goals first
   | exact h
   | exact h.elim
   | (obtain ⟨c',e',hq⟩:=h;injection e' with e';subst e';exact hQP _ _ hq)
theorem qR (QP:List PanicEntry->World->Prop) {bx:Array Bool} {a:Act} {w:World} (U:List Nat) (tmp:Nat->Nat) (pre:Nat->List Nat) (T:World->Prop) (N:Nat->World->Prop) (G:Nat->World->World->Prop) (R:Nat->(Nat->Option Value)->Value->World->Prop)
  (bG:DJ md ops bx U tmp pre a.tmps=true) (hE:∀ i∈U,E i=false)
  (hS:∀ w1,T w1->S w1) (hT0:T w) (hT:∀ i∈U,∀ w1 w2,T w1->G i w1 w2->T w2) (hN0:∀ i∈U,N i w) (hN:∀ i∈U,∀ j∈U,i≠j->∀ w1 w2,T w1->N i w1->G j w1 w2->N i w2)
  (hR:∀ i∈U,∀ j∈U,i≠j->∀ val v u w1 w2,T w1->val i=some v->val j=none->(∀ p∈pre j,∃ x,val p=some x)->R i val v w1->G j w1 w2->R i (upd val j u) v w2)
  (gk:∀ i∈U,∀ o,ops[i]? =some o->∀ (val:Nat->Option Value) (w1:World) (K:Act->World->Prop),val i=none->T w1->N i w1->(∀ j∈pre i,∃ v,val j=some v/\R j val v w1)->
   (∀ v w2,R i (upd val i v) v w2->G i w1 w2->K ((bq tmp val (pre i) a).put (some (tmp i)) v) w2)->o.wp P (bq tmp val (pre i) a) w1 K (fun e _ w'=>∃ c,e= .panic c/\QP c w')) (hQP:∀ c a' w',QP c w'->a'.defers=a.defers->Q (.panic c) a' w')
  (fuel:Nat) (h:∀ val w',(∀ i∈U,∃ v,val i=some v/\R i val v w')->T w'->eQ P md ops Q S E fuel (dC (fun i=>(val i).isSome) U bx) (bq tmp val U a) w'):
  eQ P md ops Q S E (fuel+U.length) bx a w:=by
 simp only [DJ,dq] at bG;obtain ⟨⟨⟨⟨⟨o1,o2⟩,o3⟩,o4⟩,o5⟩,o6⟩:=bG;have nX:bx.size=ops.size:=by simpa using o1
 have gu:U.Nodup:=of_decide_eq_true o6;have Je:∀ i∈U,∀ j∈U,j≠i->tmp j≠tmp i:=by
  intro i hi j hj dF e;have:=dM.1 (dM.1 o5 i hi) j hj;simp only [Bool.or_eq_true,beq_iff_eq,bne_iff_ne] at this;rcases this with h | h
  ·exact dF h.symm
  ·exact h e.symm
 have hu:∀ i∈U,bx.getD i true=false/\∃ o,ops[i]? =some o/\(Eg o (yielded ops a.tmps)=true/\Ca ops U tmp o.guard=true)/\(∀ cs b,o.op≠ .select cs b)/\((o.dst=some (tmp i)/\tmp i < a.tmps.size)\/(o.dst=none/\a.tmps.size<=tmp i))/\(∀ e∈o.after,Region.binds md e=true->bx.getD e.on false=true\/(e.on∈U/\e.on < i))/\
   (∀ x∈o.op.operands,∀ t,x= .tmp t->(∃ j∈pre i,tmp j=t)\/∀ j∈U,tmp j≠t)/\(∀ j∈pre i,j∈U/\xg md ops i j=true)/\(pre i).Nodup/\∀ j∈pre i,j≠i:=by
  intro i hi;have h:=dM.1 o4 i hi;simp only [dq,Bool.not_eq_true',decide_eq_true_eq] at h;obtain ⟨⟨⟨⟨h1,h2⟩,h3⟩,h4⟩,h5⟩:=h
  cases ho:ops[i]? with
  | none=>rw [ho] at h2;cases h2
  | some o=>
   rw [ho] at h2;simp only [Option.map_some,Option.getD_some,dq,Bool.or_eq_true,Bool.not_eq_true',decide_eq_true_eq] at h2;obtain ⟨⟨⟨⟨g1,g2⟩,g3⟩,g5⟩,g6⟩:=h2;refine ⟨h1,o,rfl,g1,(fun cs b e=>by rw [e] at g2;cases g2),g3,fun e he hb=>?_,fun x hx t ht=>?_,fun j hj=>?_,h4,h5⟩
   ·have:=(Array.all_eq_true_iff_forall_mem.1 g5) e he;simp only [hb,Bool.not_true,Bool.false_or,Bool.or_eq_true,dq,decide_eq_true_eq,List.contains_iff_mem] at this;exact this
   ·have Dm:CO U tmp (pre i) x=true:=by
     first | exact (dM.1 g6) x hx | exact (Array.all_eq_true_iff_forall_mem.1 g6) x hx
    subst ht;simp only [CO,Bool.or_eq_true,List.any_eq_true,beq_iff_eq,dM,bne_iff_ne] at Dm;exact Dm
   ·have:=dM.1 h3 j hj;simp only [dq,List.contains_iff_mem] at this;exact this
 have xc:zN md ops bx:=by
  intro i o ho hl e he hb;have dN:i < ops.size:=(bE.1 ho).1;have h:=dM.1 o2 i (List.mem_range.2 dN);rw [hl,ho] at h;simp only [Bool.not_true,Bool.false_or,Option.map_some,Option.getD_some] at h;have:=(Array.all_eq_true_iff_forall_mem.1 h) e he
  simpa [hb] using this
 have AZ:∀ i,i < ops.size->bx.getD i true=false->i ∉ U->∀ u∈U,vh md ops 8 i u=true:=by
  intro i hi hl hn u hu;have h:=dM.1 o3 i (List.mem_range.2 hi);rw [hl] at h;simp only [Bool.false_or,Bool.or_eq_true,List.contains_iff_mem,dM] at h;rcases h with h | h
  ·exact absurd h hn
  ·exact h u hu
 clear o1 o2 o3 o4 o5 o6;have main:∀ (k:Nat) (val:Nat->Option Value) (w1:World),(U.filter fun i=>(val i).isNone).length=k->T w1->zN md ops (dC (fun i=>(val i).isSome) U bx)->(∀ i∈U,∀ v,val i=some v->R i val v w1)->(∀ i∈U,val i=none->N i w1)->eQ P md ops Q S E (fuel+k) (dC (fun i=>(val i).isSome) U bx) (bq tmp val U a) w1:=by
  intro k
  induction k with
  | zero=>
   intro val w1 hk hTw jm hv hn;refine h val w1 (fun i hi=>?_) hTw
   cases e:val i with
   | some v=>exact ⟨v,rfl,hv i hi v e⟩
   | none=>
    have:=List.length_eq_zero_iff.1 hk;have hm:i∈U.filter fun i=>(val i).isNone:=List.mem_filter.2 ⟨hi,by simp [e]⟩
    rw [this] at hm
    cases hm
  | succ k ih=>
   intro val w1 hk hTw jm hv hn;have hls:(dC (fun i=>(val i).isSome) U bx).size=ops.size:=by rw [yE,nX]
   have vw:∀ x j,j < ops.size->(dC (fun i=>(val i).isSome) U bx).getD j x=(bx.getD j x||(U.contains j&&(val j).isSome)):=fun x j hj=>AT x j U bx zO
   refine ⟨fun h0=>?_,fun i hi=>?_⟩
   ·-- the least that is not done is ready
    exfalso
    have hex:∀ (m:Nat) (i:Nat),i < m->i∈U->val i=none->False:=by
     intro m
     induction m with
     | zero=>intro i hi;omega
     | succ m ihm=>
      intro i hi hU qD;obtain ⟨u1,o,ho,u2,u3,u4,u6,u7,u8⟩:=hu i hU;have dN:i < ops.size:=(bE.1 ho).1;have NT:i∈qy md ops (dC (fun i=>(val i).isSome) U bx):=by
       refine mem_ready.2 ⟨by rw [vw true i dN,u1,qD];simp,o,ho,fun e he hb=>?_⟩
       rcases u6 e he hb with h1 | ⟨h1,h2⟩
       ·have qJ:e.on < ops.size:=by
         rcases Nat.lt_or_ge e.on bx.size with q | q
         ·omega
         ·simp [Array.getD,Nat.not_lt.2 q] at h1
        rw [vw false e.on qJ,h1];rfl
       ·obtain ⟨v1,o',oq,_⟩:=hu e.on h1;have qJ:e.on < ops.size:=(bE.1 oq).1;rw [vw false e.on qJ]
        cases hve:val e.on with
        | none=>exact (ihm e.on zO h1 hve).elim
        | some v=>simp [h1]
      rw [h0] at NT
      cases NT
    have sJ:0 < (U.filter fun i=>(val i).isNone).length:=zO
    obtain ⟨i,hi⟩:=List.exists_mem_of_length_pos sJ;obtain ⟨h1,h2⟩:=List.mem_filter.1 hi;exact hex (i+1) i zO h1 (by simpa using h2)
   ·obtain ⟨I7,oi,Ek,bS⟩:=mem_ready.1 hi;have dN:i < ops.size:=(bE.1 Ek).1;rw [vw true i dN,Bool.or_eq_false_iff] at I7;have kY:i∈U:=by
     refine Aw fun uL=>?_
     have sJ:0 < (U.filter fun i=>(val i).isNone).length:=zO
     obtain ⟨u,Eh⟩:=List.exists_mem_of_length_pos sJ;obtain ⟨h1,h2⟩:=List.mem_filter.1 Eh;have hrb:=AZ i dN I7.1 uL u h1;have:=yu hls jm 8 i u hrb (fun o ho e he hb=>by
      rw [Ek] at ho;injection ho with ho
      subst ho;exact bS e he hb)
     obtain ⟨v1,o',oq,_⟩:=hu u h1;have qJ:u < ops.size:=(bE.1 oq).1;rw [vw false u qJ,pw zO false true,v1] at this;simp only [Bool.false_or,dq] at this
     cases hvu:val u with
     | none=>rw [hvu] at this;simp at this
     | some v=>rw [hvu] at h2;simp at h2
    have qD:val i=none:=by
     cases e:val i with
     | none=>rfl
     | some v=>rw [e] at I7;simp [kY] at I7
    obtain ⟨u1,o,ho,u2,u3,u4,u6,u7,u8,u9,u10⟩:=hu i kY;have cd:∀ j∈pre i,∃ v,val j=some v/\R j val v w1:=by
     intro j hj;obtain ⟨j1,j2⟩:=u8 j hj;obtain ⟨o',oq,e,he,hb,hon⟩:=nO j2;rw [Ek] at oq;injection oq with oq
     subst oq;have hl:=bS e he hb;obtain ⟨v1,o'',ho'',_⟩:=hu j j1;have qJ:j < ops.size:=(bE.1 ho'').1;rw [hon,vw false j qJ,pw zO false true,v1] at hl
     cases Ah:val j with
     | none=>rw [Ah] at hl;simp at hl
     | some v=>exact ⟨v,rfl,hv j j1 v Ah⟩
    have N8:∀ x∈o.op.operands,(bq tmp val U a).eval x=(bq tmp val (pre i) a).eval x:=by
     intro x hx
     by_cases hxt:∃ t,x= .tmp t
     ·obtain ⟨t,rfl⟩:=hxt;rcases u7 _ hx t rfl with ⟨j,hj,rfl⟩ | mT
      ·obtain ⟨v,Ah,_⟩:=cd j hj;have hjU:=(u8 j hj).1;obtain ⟨_,_,_,_,_,xa,_⟩:=hu j hjU;rcases xa with ⟨_,xa⟩ | ⟨_,xa⟩
       ·rw [uD U a gu (fun q hq dF=>Je j hjU q hq dF) hjU Ah xa,uD (pre i) a u9 (fun q hq dF=>Je j hjU q (u8 q hq).1 dF) hj Ah xa]
       ·rw [ux (by rw [gX];exact xa),ux (by rw [gX];exact xa)]
      ·rw [iK U a (fun j hj q=>mT j hj (by injection q with q;exact q.symm)),iK (pre i) a (fun j hj q=>mT j (u8 j hj).1 (by injection q with q;exact q.symm))]
     ·rw [iK U a (fun j hj q=>hxt ⟨_,q⟩),iK (pre i) a (fun j hj q=>hxt ⟨_,q⟩)]
    have BM:∀ (b:Act),b.tmps.size=a.tmps.size->∀ v,b.put o.dst v=b.put (some (tmp i)) v:=by
     intro b hb v;rcases u4 with ⟨e,_⟩ | ⟨e,hge⟩
     ·rw [e]
     ·rw [e];have:b.tmps.setIfInBounds (tmp i) v=b.tmps:=Array.setIfInBounds_eq_of_size_le zO;simp only [Act.put,this]
    have hwp:=gk i kY o ho val w1 (fun b w2=>∃ v,b=(bq tmp val (pre i) a).put o.dst v/\(R i (upd val i v) v w2/\G i w1 w2)) qD hTw (hn i kY qD) cd (fun v w2 hr hg=>⟨v,(BM _ (gX _ _) v).symm,hr,hg⟩)
    refine Cx ho (by rw [tY u2.2];exact u2.1) (Bf u3 N8 (fun t ht=>by rw [gX];rcases u4 with ⟨e,h5⟩ | ⟨e,_⟩ <;> (rw [e] at ht;first | (injection ht with ht;exact ht ▸ h5) | cases ht)) hwp (fun c w' hq=>hQP c _ w' hq (qj _ _)) fun v w2 ⟨hRv,hGv⟩=>?_)
    have hT2:=hT i kY w1 w2 hTw hGv;refine ⟨fun _ _=>hS _ hT2,?_⟩
    have hl:dC (fun j=>j==i||(val j).isSome) U bx=dC (fun j=>(upd val i v j).isSome) U bx:=rj U _ (fun j _=>by by_cases e:j=i <;> simp [upd,e])
    rw [BM _ (gX _ _) v,Bb U a gu (fun j hj dF=>Je i kY j hj dF) kY qD,rX U bx gu kY (by simp [qD]),hl]
    refine ih (upd val i v) w2 ?_ hT2 ?_ (fun j hj u xN=>?_) (fun j hj hnj=>?_)
    ·have Jh:∀ (U:List Nat),U.Nodup->i∈U->(U.filter fun j=>(upd val i v j).isNone).length+1=(U.filter fun j=>(val j).isNone).length:=by
      intro U
      induction U with
      | nil=>intro _ hi;cases hi
      | cons c U ih2=>
       intro gu hi;obtain ⟨hc,gu⟩:=fy.1 gu
       by_cases e:c=i
       ·subst e;have hs:U.filter (fun j=>(upd val c v j).isNone)=U.filter (fun j=>(val j).isNone):=List.filter_congr (fun j hj=>by simp [upd,show j≠c from fun e=>hc (e ▸ hj)])
        simp [upd,qD];rw [<- hs];rfl
       ·have hi':i∈U:=by rcases bD.1 hi with h | h;exact absurd h.symm e;exact h
        have:=ih2 gu hi';simp only [List.filter_cons,show upd val i v c=val c from by simp [upd,e]]
        split <;> simp_all
     have:=Jh U gu kY;omega
    ·rw [<- hl,<- rX U bx gu kY (by simp [qD])]
     intro j oj zQ hlj e he hb;have hltj:j < ops.size:=(bE.1 zQ).1
     by_cases ej:i=j
     ·subst ej;rw [Ek] at zQ;injection zQ with zQ
      subst zQ;exact getD_set_true (bS e he hb)
     ·rw [getD_set_ne true ej] at hlj;exact getD_set_true (jm j oj zQ hlj e he hb)
    ·by_cases e:j=i
     ·subst e;rw [show upd val j v j=some v from by simp [upd]] at xN
      injection xN with xN
      subst xN;exact hRv
     ·rw [show upd val i v j=val j from by simp [upd,e]] at xN
      exact hR j hj i kY e val u v w1 w2 hTw xN qD (fun p hp=>let ⟨x,hx,_⟩:=cd p hp;⟨x,hx⟩) (hv j hj u xN) hGv
    ·have e:j≠i:=by rintro rfl;simp [upd] at hnj
     rw [show upd val i v j=val j from by simp [upd,e]] at hnj
     exact hN j hj i kY e w1 w2 hTw (hn j hj hnj) hGv
 have yL:∀ (U:List Nat) (l:Array Bool),dC (fun i=>((fun _=>none:Nat->Option Value) i).isSome) U l=l:=by
  intro U
  induction U with
  | nil=>intro l;rfl
  | cons i U ih=>intro l;simp only [dC];exact ih l
 have BK:∀ (U:List Nat) (a:Act),bq tmp (fun _=>none) U a=a:=by
  intro U
  induction U with
  | nil=>intro a;rfl
  | cons i U ih=>intro a;simp only [bq];exact ih a
 have hlen:(U.filter fun i=>((fun _=>none:Nat->Option Value) i).isNone).length=U.length:=congrArg List.length (List.filter_eq_self.2 fun i _=>rfl)
 have:=main U.length (fun _=>none) w hlen hT0 (by rw [yL];exact xc) (fun i _ v e=>by cases e) (fun i hi _=>hN0 i hi)
 rw [yL,BK] at this;exact this
end
end Go.Proofs.YtikdaeddbkopeaaGreatR
