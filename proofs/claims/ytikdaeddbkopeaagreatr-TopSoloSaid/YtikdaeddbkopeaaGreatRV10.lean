/- A part of the proof. -/
import Derived.Test.YtikdaeddbkopeaaGreatRV8
import Derived.Test.YtikdaeddbkopeaaGreatRV9
import Derived.Test.YtikdaeddbkopeaaGreatRV2
set_option linter.unusedVariables false
set_option linter.unusedSimpArgs false
set_option maxRecDepth 100000
set_option maxHeartbeats 16000000
open And renaming intro → au
open Go renaming wpList_store_rowTo → aK, wpList_load_row → aL, wp_at_zero → aV, wp_at_succ → aW, bodyPost_ret → aX, results_cell_row → cb
open Go.Ending renaming returned → ai
open Go.IntKind renaming i64 → ab
open Go.Lib renaming hid → ar
open Go.Obj renaming cells → ag
open Go.Proofs.Tryz renaming underlying70 → aI, underlying34 → aJ, prog → aw, underlying67 → bU
open Go.Value renaming oneCell' → aD, int → aa
open List renaming mem_cons → bD, mem_singleton → eN, nodup_cons → fy, mem_cons_of_mem → jk
open Nat renaming zero_le → aY, le_refl → az, le_add_right → dZ, le_succ → uO
open Or renaming inl → jL
namespace Go.Proofs.YtikdaeddbkopeaaGreatR
open Go.RowKit
attribute [local go_sem ↓] aV aW
abbrev oS:Array Value:=#[aa ab 1,aa ab 3,.func (.func 71) #[] #[],aa ab 4,aa ab 5,.func (.func 72) #[] #[],aa ab 6,aa ab 7,.func (.func 73) #[] #[]]
theorem Lq (w:World):Calls aw 45 #[] w fun e w'=>e=ai (.agg oS)/\Below w.heap.size w w':=by
 go_enter Tryz.func45,Tryz.ntmps45
 go_wp2_with fail
 have kr:=Bk.made w 106 oS;exact aX (v:=.agg oS) (cb (p:=0) (ty:=106) rfl _ _ w.heap.size 106 oS (0,0) _ rfl kr Tryz.underlying106 rfl zK) rfl ⟨rfl,aB (Below.refl _ _) _⟩
def FcRel (w:World) (fi:Nat) (v30:Value) (wr:World):Prop:=∃ i:Nat,v30=aa ab (i:Nat)/\i<=fi/\Below w.heap.size w wr
def faceFn (fi:Nat):Nat:=if fi=0 then 71 else if fi=1 then 72 else 73
theorem tG (l:Ly) (me:Nat) (op:Opr) (gv:Value) (A:Option Addr) (n cap:Nat) (w:World) (q:An Out) (fi:Nat) (hk:(fi=0/\1<=op.kind/\op.kind<=3)\/(fi=1/\4<=op.kind/\op.kind<=5)\/(fi=2/\6<=op.kind/\op.kind<=7)) (ha:0<=op.a/\op.a < 4294967296)
  (hc:∀ w2,Below w.heap.size w w2->Calls aw (faceFn fi) #[lyV l,aa ab me,gv,.agg (eg op),.slice A n cap] w2 (jd l q w2)):
  Calls aw 21 #[lyV l,aa ab me,gv,.agg (eg op),.slice A n cap] w (jd l q w):=by
 have HC:=ar hc;have HK:=ar (au hk ha);have k0:=(((Bk.made w 34 (lyC l)).alloc (ag (eg op) 54)).alloc (ag bW 67)).alloc (ag aZ 70);have k1:=((Bk.new (w.alloc (ag (lyC l) 34)) (g:=w.heap.size+1) zS 54 (eg op)).alloc (ag bW 67)).alloc (ag aZ 70);have k2:=(Bk.new ((w.alloc (ag (lyC l) 34)).alloc (ag (eg op) 54)) (g:=w.heap.size+1+1) zS 67 bW).alloc (ag aZ 70);have k3:=Bk.new (((w.alloc (ag (lyC l) 34)).alloc (ag (eg op) 54)).alloc (ag bW 67)) (g:=w.heap.size+1+1+1) zS 70 aZ;have bz:=aB (aB (aB (aB (Below.refl w.heap.size w) (ag (lyC l) 34)) (ag (eg op) 54)) (ag bW 67)) (ag aZ 70);have hfi:fi<=2:=zO;clear hc hk;go_enter Tryz.func21,Tryz.ntmps21
 go_upto_region 1 with fail
 generalize (((w.alloc (ag (lyC l) 34)).alloc (ag (eg op) 54)).alloc (ag bW 67)).alloc (ag aZ 70)=w4 at *;obtain ⟨b0,h0⟩:∃ x,w.heap.size=x:=⟨_,rfl⟩;have HW:=ar h0;rw [h0] at k0 k1 k2 k3 ⊢;clear h0;obtain ⟨b1,h1⟩:∃ x,b0+1=x:=⟨_,rfl⟩;obtain ⟨b2,h2⟩:∃ x,b1+1=x:=⟨_,rfl⟩;obtain ⟨b3,h3⟩:∃ x,b2+1=x:=⟨_,rfl⟩;rw [h1] at k1;rw [h1,h2] at k2;rw [h1,h2,h3] at k3 ⊢;have HZ:=ar (show b0 < b1/\b1 < b2/\b2 < b3 from ⟨zO,zO,zO⟩)
 clear h1 h2 h3;have c0:=k1.cell 0;have c2:=k1.cell 2;simp at c0 c2;have l1:=k1.lt;have ha0:decide (op.a>=0)=true:=by simp;omega
 have ha0':decide (0<=op.a)=true:=by simp;omega
 have xz:decide (op.a < 4294967296)=true:=by simp;omega
 have HBL:=ar bz;clear ha bz;have key:∀ bb:Bool,(op.kind != 6)=bb->True:=fun _ _=>trivial
 clear key;obtain ⟨k6,hk6⟩:∃ bb,(op.kind != 6)=bb:=⟨_,rfl⟩
 cases k6 <;> (go_upto_region 2 with fail)
 all_goals
  clear c0 c2 l1 ha0 ha0' xz hk6
  go_wp2_with fail
  (with_reducible refine (Lq w4).mono ?_)
  rintro e w5 ⟨rfl,hb⟩;replace k0:=k0.ay hb;replace k1:=k1.ay hb;replace k2:=k2.ay hb;replace k3:=k3.ay hb;have HB5:=ar (aF HBL.out hb);clear hb HBL
  go_wp2_with fail
  go_loopw [30] (fun v30 wr=>FcRel w5 fi v30 wr) (fun v30 _=>3 - (intOf v30).toNat)
  case atStart=>exact ⟨0,rfl,aY _,Below.refl _ _⟩
  case round=>
  obtain ⟨i,rfl,hi,fK⟩:=hrel;replace k0:=k0.ay fK;replace k1:=k1.ay fK;replace k2:=k2.ay fK;replace k3:=k3.ay fK;have HB6:=ar (aF HB5.out fK);have HBW:=ar fK;have c0:=k1.cell 0;simp at c0;have l1:=k1.lt;clear fK;rcases HK.out.1 with ⟨rfl,h1,h2⟩ | ⟨rfl,h1,h2⟩ | ⟨rfl,h1,h2⟩
  ·obtain rfl:i=0:=zO;have jZ:∀ w',(Instr.index 106 (.agg oS) (aa ab 0)).run aw w'= .ok (.agg #[aa ab 1,aa ab 3,.func (.func 71) #[] #[]]) w':=fun w'=>by kernel_rfl
   have d1:decide ((1:Int)<=op.kind)=true:=by simp;omega
   have d2:decide (op.kind<=3)=true:=by simp;omega
   clear h1 h2 hi
   go_upto_region 6 with fail
   have jc:=aB (Below.refl wr.heap.size wr) (ag #[aa ab 1,aa ab 3,.func (.func 71) #[] #[]] 105);have kf:=Bk.made wr 105 #[aa ab 1,aa ab 3,.func (.func 71) #[] #[]];replace k0:=k0.ay jc;replace k1:=k1.ay jc;replace k2:=k2.ay jc;replace k3:=k3.ay jc;have JJ:=ar (aF HB6.out jc);clear jc c0 l1 d1 d2;generalize wr.alloc (ag #[aa ab 1,aa ab 3,.func (.func 71) #[] #[]] 105)=w7 at *;obtain ⟨bf,Mb⟩:∃ x,wr.heap.size=x:=⟨_,rfl⟩;rw [Mb] at kf ⊢;clear Mb;have cf:=kf.cell 2;have lf:=kf.lt;simp at cf
   go_wp2_with (first
    | (refine aL rfl 34 (.tmp 5) rfl b0 rfl 34 (lyC l) (0,0) _ k0 aJ rfl zK ?_)
    | (refine aL rfl 54 (.tmp 8) rfl b1 rfl 54 (eg op) (0,0) _ k1 Tryz.underlying54 rfl zK ?_))
   have jm:Calls aw 71 #[lyV l,aa ab me,gv,.agg (eg op),.slice A n cap] w7 (jd l q w7):=HC.out w7 JJ.out
   (with_reducible refine jm.mono ?_)
   rintro e w8 ⟨fI,pQ⟩;obtain ⟨iX,iR,iQ,iW,dV,is,er,pt,rG,rn,rc,dn,rfl,gW⟩:∃ c0 c1 c2 c3 val is er pt rG rn rc dn,e=ai (.tuple #[.agg (bj c0 c1 c2 c3),.agg (br val is er pt (.slice rG rn rc)),.bool dn])/\∀ w':World,(∀ gg,bN w8 (.slice rG rn rc) gg->bN w' (.slice rG rn rc) gg)->Below w.heap.size w w'->jd l q w (ai (.tuple #[.agg (bj c0 c1 c2 c3),.agg (br val is er pt (.slice rG rn rc)),.bool dn])) w':=by
    rcases fI with ⟨x,hx,rfl⟩ | ⟨o,gv',hT,rfl,jQ⟩
    ·exact ⟨_,_,_,_,_,_,_,_,_,_,_,_,rfl,fun w' _ hb=>⟨.inl ⟨x,hx,rfl⟩,hb⟩⟩
    ·obtain ⟨rG,rc,rfl,r1,r2⟩:=jQ;exact ⟨_,_,_,_,_,_,_,_,_,_,_,_,rfl,fun w' hk hb=>⟨.inr ⟨o,_,hT,rfl,hk _ ⟨rG,rc,rfl,r1,r2⟩⟩,hb⟩⟩
   have HF:=ar gW;replace k2:=k2.ay pQ;replace k3:=k3.ay pQ;have HB8:=ar (aF JJ.out pQ);clear fI gW jm cf lf kf k0 k1 pQ
   go_wp2_with (first
    | (refine aK rfl 67 (.tmp 10) (.tmp 56) rfl rfl b2 (bj iX iR iQ iW) rfl rfl 67 bW k2 zK rfl (by simp [aD]) ?_)
    | (refine aK rfl 70 (.tmp 11) (.tmp 57) rfl rfl b3 (br dV is er pt (.slice rG rn rc)) rfl rfl 70 aZ (k3.a7 (b:=b2) (by have:=HZ.out;omega) (bj iX iR iQ iW)) zK rfl (by simp [aD]) ?_))
   have sX:=k3.a7 (b:=b2) (by have:=HZ.out;omega) (bj iX iR iQ iW)
   have Ag:=(k2.bL (bj iX iR iQ iW)).a7 (b:=b3) (by have:=HZ.out;omega) (br dV is er pt (.slice rG rn rc))
   have Af:=sX.bL (br dV is er pt (.slice rG rn rc));have qa:=eT (eT HB8.out (g:=b2) (by rw [HW.out];have:=HZ.out;omega) (bj iX iR iQ iW)) (g:=b3) (by rw [HW.out];have:=HZ.out;omega) (br dV is er pt (.slice rG rn rc))
   exact aX (v:=.tuple #[.agg (bj iX iR iQ iW),.agg (br dV is er pt (.slice rG rn rc)),.bool dn]) (eH (p:=10) (q:=11) (t:=12) (t1:=67) (t2:=70) rfl _ _ b2 b3 _ _ (0,0) (0,0) _ _ _ rfl rfl rfl Ag Af bU rfl zK aI rfl zK) rfl
    (HF.out _ (fun gg hg=>(hg.row k2 zD _).row sX zD _) qa)
  ·rcases (show i=0\/i=1 by omega) with rfl | rfl
   ·have jZ:∀ w',(Instr.index 106 (.agg oS) (aa ab 0)).run aw w'= .ok (.agg #[aa ab 1,aa ab 3,.func (.func 71) #[] #[]]) w':=fun w'=>by kernel_rfl
    have d1:decide ((1:Int)<=op.kind)=true:=by simp;omega
    have d2:decide (op.kind<=3)=false:=by simp;omega
    clear h1 h2 hi
    go_wp2_with fail
    go_roundw
    case rel=>exact ⟨1,rfl,zD,aB HBW.out _⟩
    case measure=>decide
   ·have jZ:∀ w',(Instr.index 106 (.agg oS) (aa ab 1)).run aw w'= .ok (.agg #[aa ab 4,aa ab 5,.func (.func 72) #[] #[]]) w':=fun w'=>by kernel_rfl
    have d1:decide ((4:Int)<=op.kind)=true:=by simp;omega
    have d2:decide (op.kind<=5)=true:=by simp;omega
    clear h1 h2 hi
    go_upto_region 6 with fail
    have jc:=aB (Below.refl wr.heap.size wr) (ag #[aa ab 4,aa ab 5,.func (.func 72) #[] #[]] 105);have kf:=Bk.made wr 105 #[aa ab 4,aa ab 5,.func (.func 72) #[] #[]];replace k0:=k0.ay jc;replace k1:=k1.ay jc;replace k2:=k2.ay jc;replace k3:=k3.ay jc;have JJ:=ar (aF HB6.out jc);clear jc c0 l1 d1 d2;generalize wr.alloc (ag #[aa ab 4,aa ab 5,.func (.func 72) #[] #[]] 105)=w7 at *;obtain ⟨bf,Mb⟩:∃ x,wr.heap.size=x:=⟨_,rfl⟩;rw [Mb] at kf ⊢;clear Mb;have cf:=kf.cell 2;have lf:=kf.lt;simp at cf
    go_wp2_with (first
     | (refine aL rfl 34 (.tmp 5) rfl b0 rfl 34 (lyC l) (0,0) _ k0 aJ rfl zK ?_)
     | (refine aL rfl 54 (.tmp 8) rfl b1 rfl 54 (eg op) (0,0) _ k1 Tryz.underlying54 rfl zK ?_))
    have jm:Calls aw 72 #[lyV l,aa ab me,gv,.agg (eg op),.slice A n cap] w7 (jd l q w7):=HC.out w7 JJ.out
    (with_reducible refine jm.mono ?_)
    rintro e w8 ⟨fI,pQ⟩;obtain ⟨iX,iR,iQ,iW,dV,is,er,pt,rG,rn,rc,dn,rfl,gW⟩:∃ c0 c1 c2 c3 val is er pt rG rn rc dn,e=ai (.tuple #[.agg (bj c0 c1 c2 c3),.agg (br val is er pt (.slice rG rn rc)),.bool dn])/\∀ w':World,(∀ gg,bN w8 (.slice rG rn rc) gg->bN w' (.slice rG rn rc) gg)->Below w.heap.size w w'->jd l q w (ai (.tuple #[.agg (bj c0 c1 c2 c3),.agg (br val is er pt (.slice rG rn rc)),.bool dn])) w':=by
     rcases fI with ⟨x,hx,rfl⟩ | ⟨o,gv',hT,rfl,jQ⟩
     ·exact ⟨_,_,_,_,_,_,_,_,_,_,_,_,rfl,fun w' _ hb=>⟨.inl ⟨x,hx,rfl⟩,hb⟩⟩
     ·obtain ⟨rG,rc,rfl,r1,r2⟩:=jQ;exact ⟨_,_,_,_,_,_,_,_,_,_,_,_,rfl,fun w' hk hb=>⟨.inr ⟨o,_,hT,rfl,hk _ ⟨rG,rc,rfl,r1,r2⟩⟩,hb⟩⟩
    have HF:=ar gW;replace k2:=k2.ay pQ;replace k3:=k3.ay pQ;have HB8:=ar (aF JJ.out pQ);clear fI gW jm cf lf kf k0 k1 pQ
    go_wp2_with (first
     | (refine aK rfl 67 (.tmp 10) (.tmp 56) rfl rfl b2 (bj iX iR iQ iW) rfl rfl 67 bW k2 zK rfl (by simp [aD]) ?_)
     | (refine aK rfl 70 (.tmp 11) (.tmp 57) rfl rfl b3 (br dV is er pt (.slice rG rn rc)) rfl rfl 70 aZ (k3.a7 (b:=b2) (by have:=HZ.out;omega) (bj iX iR iQ iW)) zK rfl (by simp [aD]) ?_))
    have sX:=k3.a7 (b:=b2) (by have:=HZ.out;omega) (bj iX iR iQ iW)
    have Ag:=(k2.bL (bj iX iR iQ iW)).a7 (b:=b3) (by have:=HZ.out;omega) (br dV is er pt (.slice rG rn rc))
    have Af:=sX.bL (br dV is er pt (.slice rG rn rc));have qa:=eT (eT HB8.out (g:=b2) (by rw [HW.out];have:=HZ.out;omega) (bj iX iR iQ iW)) (g:=b3) (by rw [HW.out];have:=HZ.out;omega) (br dV is er pt (.slice rG rn rc))
    exact aX (v:=.tuple #[.agg (bj iX iR iQ iW),.agg (br dV is er pt (.slice rG rn rc)),.bool dn]) (eH (p:=10) (q:=11) (t:=12) (t1:=67) (t2:=70) rfl _ _ b2 b3 _ _ (0,0) (0,0) _ _ _ rfl rfl rfl Ag Af bU rfl zK aI rfl zK) rfl
     (HF.out _ (fun gg hg=>(hg.row k2 zD _).row sX zD _) qa)
  ·rcases (show i=0\/i=1\/i=2 by omega) with rfl | rfl | rfl
   ·have jZ:∀ w',(Instr.index 106 (.agg oS) (aa ab 0)).run aw w'= .ok (.agg #[aa ab 1,aa ab 3,.func (.func 71) #[] #[]]) w':=fun w'=>by kernel_rfl
    have d1:decide ((1:Int)<=op.kind)=true:=by simp;omega
    have d2:decide (op.kind<=3)=false:=by simp;omega
    clear h1 h2 hi
    go_wp2_with fail
    go_roundw
    case rel=>exact ⟨1,rfl,zD,aB HBW.out _⟩
    case measure=>decide
   ·have jZ:∀ w',(Instr.index 106 (.agg oS) (aa ab 1)).run aw w'= .ok (.agg #[aa ab 4,aa ab 5,.func (.func 72) #[] #[]]) w':=fun w'=>by kernel_rfl
    have d1:decide ((4:Int)<=op.kind)=true:=by simp;omega
    have d2:decide (op.kind<=5)=false:=by simp;omega
    clear h1 h2 hi
    go_wp2_with fail
    go_roundw
    case rel=>exact ⟨2,rfl,zD,aB HBW.out _⟩
    case measure=>decide
   ·have jZ:∀ w',(Instr.index 106 (.agg oS) (aa ab 2)).run aw w'= .ok (.agg #[aa ab 6,aa ab 7,.func (.func 73) #[] #[]]) w':=fun w'=>by kernel_rfl
    have d1:decide ((6:Int)<=op.kind)=true:=by simp;omega
    have d2:decide (op.kind<=7)=true:=by simp;omega
    clear h1 h2 hi
    go_upto_region 6 with fail
    have jc:=aB (Below.refl wr.heap.size wr) (ag #[aa ab 6,aa ab 7,.func (.func 73) #[] #[]] 105);have kf:=Bk.made wr 105 #[aa ab 6,aa ab 7,.func (.func 73) #[] #[]];replace k0:=k0.ay jc;replace k1:=k1.ay jc;replace k2:=k2.ay jc;replace k3:=k3.ay jc;have JJ:=ar (aF HB6.out jc);clear jc c0 l1 d1 d2;generalize wr.alloc (ag #[aa ab 6,aa ab 7,.func (.func 73) #[] #[]] 105)=w7 at *;obtain ⟨bf,Mb⟩:∃ x,wr.heap.size=x:=⟨_,rfl⟩;rw [Mb] at kf ⊢;clear Mb;have cf:=kf.cell 2;have lf:=kf.lt;simp at cf
    go_wp2_with (first
     | (refine aL rfl 34 (.tmp 5) rfl b0 rfl 34 (lyC l) (0,0) _ k0 aJ rfl zK ?_)
     | (refine aL rfl 54 (.tmp 8) rfl b1 rfl 54 (eg op) (0,0) _ k1 Tryz.underlying54 rfl zK ?_))
    have jm:Calls aw 73 #[lyV l,aa ab me,gv,.agg (eg op),.slice A n cap] w7 (jd l q w7):=HC.out w7 JJ.out
    (with_reducible refine jm.mono ?_)
    rintro e w8 ⟨fI,pQ⟩;obtain ⟨iX,iR,iQ,iW,dV,is,er,pt,rG,rn,rc,dn,rfl,gW⟩:∃ c0 c1 c2 c3 val is er pt rG rn rc dn,e=ai (.tuple #[.agg (bj c0 c1 c2 c3),.agg (br val is er pt (.slice rG rn rc)),.bool dn])/\∀ w':World,(∀ gg,bN w8 (.slice rG rn rc) gg->bN w' (.slice rG rn rc) gg)->Below w.heap.size w w'->jd l q w (ai (.tuple #[.agg (bj c0 c1 c2 c3),.agg (br val is er pt (.slice rG rn rc)),.bool dn])) w':=by
     rcases fI with ⟨x,hx,rfl⟩ | ⟨o,gv',hT,rfl,jQ⟩
     ·exact ⟨_,_,_,_,_,_,_,_,_,_,_,_,rfl,fun w' _ hb=>⟨.inl ⟨x,hx,rfl⟩,hb⟩⟩
     ·obtain ⟨rG,rc,rfl,r1,r2⟩:=jQ;exact ⟨_,_,_,_,_,_,_,_,_,_,_,_,rfl,fun w' hk hb=>⟨.inr ⟨o,_,hT,rfl,hk _ ⟨rG,rc,rfl,r1,r2⟩⟩,hb⟩⟩
    have HF:=ar gW;replace k2:=k2.ay pQ;replace k3:=k3.ay pQ;have HB8:=ar (aF JJ.out pQ);clear fI gW jm cf lf kf k0 k1 pQ
    go_wp2_with (first
     | (refine aK rfl 67 (.tmp 10) (.tmp 56) rfl rfl b2 (bj iX iR iQ iW) rfl rfl 67 bW k2 zK rfl (by simp [aD]) ?_)
     | (refine aK rfl 70 (.tmp 11) (.tmp 57) rfl rfl b3 (br dV is er pt (.slice rG rn rc)) rfl rfl 70 aZ (k3.a7 (b:=b2) (by have:=HZ.out;omega) (bj iX iR iQ iW)) zK rfl (by simp [aD]) ?_))
    have sX:=k3.a7 (b:=b2) (by have:=HZ.out;omega) (bj iX iR iQ iW)
    have Ag:=(k2.bL (bj iX iR iQ iW)).a7 (b:=b3) (by have:=HZ.out;omega) (br dV is er pt (.slice rG rn rc))
    have Af:=sX.bL (br dV is er pt (.slice rG rn rc));have qa:=eT (eT HB8.out (g:=b2) (by rw [HW.out];have:=HZ.out;omega) (bj iX iR iQ iW)) (g:=b3) (by rw [HW.out];have:=HZ.out;omega) (br dV is er pt (.slice rG rn rc))
    exact aX (v:=.tuple #[.agg (bj iX iR iQ iW),.agg (br dV is er pt (.slice rG rn rc)),.bool dn]) (eH (p:=10) (q:=11) (t:=12) (t1:=67) (t2:=70) rfl _ _ b2 b3 _ _ (0,0) (0,0) _ _ _ rfl rfl rfl Ag Af bU rfl zK aI rfl zK) rfl
     (HF.out _ (fun gg hg=>(hg.row k2 zD _).row sX zD _) qa)
end Go.Proofs.YtikdaeddbkopeaaGreatR
namespace Go.Proofs.YtikdaeddbkopeaaGreatR
section
variable {m m':Sm} {g:Gh} {s:Nat}
def rel (g:Gh):Loc->Prop
 | .free | .msize | .bucket _ | .top | .head | .tail=>True
 | .nd n i=>(0<=i/\i<=5/\((g.st n).isL=true\/(g.st n).isS=true\/g.st n= .sg))\/(i=7/\g.st n= .fr)
 | _=>False
theorem BC {p:Pl} (h:p= .li):p.isL=true:=by rw [h];rfl
theorem yi {p:Pl} (h:p= .sk):p.isS=true:=by rw [h];rfl
theorem pZ:∀ {l:List Int},(∀ n∈l,m' (.nd n 1)=m (.nd n 1))->p7 m' l=p7 m l:=by
 intro l h;unfold p7;exact List.countP_congr fun n hn=>by unfold cX;rw [h n hn]
theorem tI:∀ {l:List Int},(∀ n∈l,m' (.nd n 0)=m (.nd n 0))->pe m' l=pe m l:=by
 intro l h;unfold pe;exact List.countP_congr fun n hn=>by rw [h n hn]
theorem tx {n:Int} (h:∀ i,1<=i->i<=5->m' (.nd n i)=m (.nd n i)):oK m' n=oK m n:=by
 unfold oK nzP rcP;rw [h 1 zO zO,h 2 zO zO,h 3 zO zO,h 4 zO zO,h 5 zO zO]
theorem mE {l:List Int} (h:∀ n∈l,∀ i,1<=i->i<=5->m' (.nd n i)=m (.nd n i)):gH m' l=gH m l:=by
 unfold gH;rw [List.map_congr_left fun n hn=>tx (h n hn)]
theorem CW {l:List Int} (h:∀ n∈l,m' (.nd n 1)=m (.nd n 1)) (hp:l.Pairwise fun a b=>cX m a < cX m b):l.Pairwise fun a b=>cX m' a < cX m' b:=
 hp.imp_of_mem fun {a b} ha hb hab=>by unfold cX at *;rw [h a ha,h b hb];exact hab
theorem Gl.congr (h:Gl m g) (e:∀ x,rel g x->m' x=m x):Gl m' g:=by
 have eL:∀ n i,(g.st n).isL=true->0<=i->i<=5->m' (.nd n i)=m (.nd n i):=fun n i hn h0 h5=>e _ (jL ⟨h0,h5,jL hn⟩)
 have eS:∀ n i,(g.st n).isS=true->0<=i->i<=5->m' (.nd n i)=m (.nd n i):=fun n i hn h0 h5=>e _ (jL ⟨h0,h5,Or.inr (jL hn)⟩)
 have eC:∀ n i,g.st n= .sg->0<=i->i<=5->m' (.nd n i)=m (.nd n i):=fun n i hn h0 h5=>e _ (jL ⟨h0,h5,Or.inr (Or.inr hn)⟩)
 have eF:∀ n,g.st n= .fr->m' (.nd n 7)=m (.nd n 7):=fun n hn=>e _ (Or.inr ⟨rfl,hn⟩)
 have kL:∀ n,(g.st n).isL=true->cX m' n=cX m n:=fun n hn=>eL n 1 hn zO zO
 have lL:∀ n∈g.ls,(g.st n).isL=true:=fun n hn=>BC ((h.lmem n).1 hn)
 have h1L:(g.st 1).isL=true:=by obtain ⟨r,hr⟩:=h.lhd;exact lL 1 (by rw [hr];simp)
 have cC:∀ n∈g.sg,g.st n= .sg:=fun n hn=>(h.cmem n).1 hn
 refine
 { rng:=h.rng,fw:=?_,fch:=?_,fmem:=h.fmem,fnd:=h.fnd,ftk:=h.ftk,fcb:=h.fcb,lhd:=h.lhd,sE:=?_,lmem:=h.lmem,lsrt:=?_,lwrd:=?_,lded:=?_,lmrk:=?_,lkey:=?_,l1:=?_,b0:=?_,b1:=?_,msz:=?_,tpw:=?_,sch:=?_,smem:=h.smem,snd:=h.snd,snx:=?_,chd:=?_,c2:=h.c2,td:=?_,cch:=?_,cmem:=h.cmem,cnd:=h.cnd,cfst:=?_,cful:=?_,cval:=?_,lM:=h.lM,dnd:=h.dnd,dlen:=h.dlen,tM:=?_ }
 ·rw [e .free trivial];exact h.fw
 ·exact h.fch.congr fun n hn=>eF n ((h.fmem n).1 hn).2.2
 ·exact h.sE.congr fun n hn=>by show idxOf _=idxOf _;rw [eL n 0 (lL n hn) zO zO]
 ·exact CW (fun n hn=>kL n (lL n hn)) h.lsrt
 ·intro n hn;obtain ⟨x,h0,h1,hw,hx⟩:=h.lwrd n hn;rw [eL n 0 hn zO zO];refine ⟨x,h0,h1,hw,hx.imp_right fun ⟨hx1,Dm⟩=>⟨hx1,?_⟩⟩
  rw [kL n hn,kL x hx1];exact Dm
 ·intro n s hn;rw [eL n 0 (by rw [hn];rfl) zO zO];exact h.lded n s hn
 ·intro n hn hm;rw [eL n 0 hn zO zO] at hm;rw [kL n hn];exact h.lmrk n hn hm
 ·intro n hn;rw [kL n hn];exact h.lkey n hn
 ·rw [kL 1 h1L];exact h.l1
 ·rw [e (.bucket 0) trivial];exact h.b0
 ·rw [e (.bucket 1) trivial];exact h.b1.imp_right fun ⟨d,h1,h2,h3⟩=>⟨d,h1,by rw [kL d h1];exact h2,h3⟩
 ·rw [e .msize trivial];exact h.msz
 ·rw [e .top trivial];exact h.tpw
 ·exact h.sch.congr fun n hn=>eS n 0 (yi ((h.smem n).1 hn)) zO zO
 ·intro n hn;rw [eS n 0 hn zO zO];exact h.snx n hn
 ·rw [e .head trivial];exact h.chd
 ·rw [e .tail trivial];exact h.td
 ·exact h.cch.congr fun n hn=>eC n 0 (cC n hn) zO zO
 ·intro n hn h2;rw [eC n 1 (cC n hn) zO zO];exact h.cfst n hn h2
 ·intro n hn h2 i vu yQ;rw [eC n 0 (cC n hn) zO zO] at h2;rw [eC n i (cC n hn) zO yQ];exact h.cful n hn h2 i vu yQ
 ·intro n hn i vu yQ;rw [eC n i (cC n hn) zO yQ];exact h.cval n hn i vu yQ
 ·rw [pZ fun n hn=>kL n (lL n hn),tI fun n hn=>eL n 0 (lL n hn) zO zO,mE fun n hn i h1 h5=>eC n i (cC n hn) zO h5]
  exact h.tM
def bP (s:Nat) (g:Gh):Loc->Prop
 | .nd n i=>g.st n= .ow s
 | .era | .resv _ _ | .mcount | .slot=>True
 | _=>False
theorem Nm {c x:Loc} (h:bP s g c) (hx:rel g x):x≠c:=by
 rintro rfl
 cases x with
 | nd n i=>
  simp only [bP] at h;simp only [rel,h,Pl.isL,Pl.isS] at hx;simp at hx
 | _=>first | exact h | exact hx
theorem Gl.bP {c:Loc} (h:Gl m g) (hc:bP s g c) (v:Int):Gl (bZ m c v) g:=
 h.congr fun x hx=>lu m v (Nm hc hx)
theorem Env.refl (s:Nat) (m:Sm) (g:Gh):Env s m g m g:=
 ⟨fun n h=>⟨h,rfl,rfl⟩,fun _ _ _=>rfl,fun n h=>⟨h,rfl,rfl⟩,fun n h=>⟨h,fun _=>rfl,fun i _ _=>fun _=>.inl rfl⟩,fun n t h _=>⟨h,fun _=>rfl⟩,fun _ _ h _=>h,az _,uO _,fun _=>⟨rfl,rfl,fun _ _=>rfl⟩,fun _ _=>rfl⟩
theorem Env.bP {c:Loc} (hg:Gl m g) (hc:bP s g c) (v:Int):Env s m g (bZ m c v) g:=by
 have key:∀ n i,g.st n≠ .ow s->bZ m c v (.nd n i)=m (.nd n i):=by
  intro n i hn;refine lu m v ?_;rintro rfl;exact hn hc
 have hf:bZ m c v .free=m .free:=lu m v (by rintro rfl;exact hc)
 refine ⟨fun n h=>⟨h,key n 1 ?_,key n 2 ?_⟩,fun n h _=>key n 0 ?_,fun n h=>⟨h,key n 0 ?_,key n 1 ?_⟩,fun n h=>⟨h,fun _=>key n 0 ?_,fun i _ _=>?_⟩,fun n t h ht=>⟨h,fun i=>key n i ?_⟩,fun _ _ h _=>h,az _,uO _,fun _=>⟨hf,rfl,fun n hn=>?_⟩,fun _ _=>rfl⟩
 all_goals try (intro he;rw [he] at h;simp [Pl.isL,Pl.isS] at h;done)
 ·rw [key n i (by rw [h];simp)];exact fun _=>.inl rfl
 ·intro he;rw [he] at h;injection h with h;exact ht h.symm
 ·exact key n 7 (by rw [((hg.fmem n).1 hn).2.2];simp)
end
section
variable {m m':Sm} {g:Gh} {s:Nat}
def Gh.take (g:Gh) (s:Nat):Gh:={ g with fl:=g.fl.tail,fc:=g.fc+1,st:=eK g.st (g.fl.headD 0) (.ow s),tk:=g.tk+1 }
def Gh.qK (g:Gh) (n:Int):Gh:={ g with fl:=n :: g.fl,fc:=g.fc+1,st:=eK g.st n .fr }
def Gh.push (g:Gh) (n:Int):Gh:={ g with sk:=n :: g.sk,st:=eK g.st n .sk,n:=g.n+1 }
def Gh.pop (g:Gh) (s:Nat):Gh:={ g with sk:=g.sk.tail,st:=eK g.st (g.sk.headD 0) (.dsk s),dd:=ud g.dd s (g.dd s++[g.sk.headD 0]),ds:=g.ds+1,n:=g.n+1 }
theorem vx (h:Gl m g):0<=g.fl.headD 0/\g.fl.headD 0<=40:=by
 cases hf:g.fl with
 | nil=>simp
 | cons x r=>have:=(h.fmem x).1 (by rw [hf];simp);simp;omega
theorem JN {w x:Int} {c:Nat} {i:Int} (hw:w=dS i false c) (hc:c+1 < 268435456) (h0:0<=x) (h1:x<=40):ed w x=dS x false ((c+1:Nat):Int):=by
 unfold ed;rw [hw,zo _ _ _ zO zO]
 congr 1
 ·omega
 ·omega
theorem Bg (w:Int) {x:Int} (h0:0<=x) (h1:x<=40):∃ c,ed w x=dS x false c:=⟨_,by unfold ed;rw [show x % 65536=x by omega]⟩
theorem Gl.take (h:Gl m g) {x:Int} {r:List Int} (hf:g.fl=x :: r) (hc:g.fc+1 < 268435456):Gl (bZ m .free (ed (m .free) (m (.nd x 7)))) (g.take s):=by
 have hx:=(h.fmem x).1 (by rw [hf];simp)
 have mK:=h.fch;rw [hf] at mK;have tJ:m (.nd x 7)=r.headD 0:=mK.head;have gu:=h.fnd;rw [hf] at gu;have hxr:x ∉ r:=(fy.1 gu).1;have hr:0<=r.headD 0/\r.headD 0<=40:=by
  cases hr:r with
  | nil=>simp
  | cons y t=>have:=(h.fmem y).1 (by rw [hf,hr];simp);simp;omega
 have eA:(g.take s).st=eK g.st x (.ow s):=by simp [Gh.take,hf]
 have efl:(g.take s).fl=r:=by simp [Gh.take,hf]
 have eL:∀ n,(eK g.st x (.ow s) n).isL=(g.st n).isL:=by
  intro n;by_cases hn:n=x
  ·rw [hn,bH,hx.2.2];rfl
  ·rw [bJ _ _ hn]
 have eS:∀ n,(eK g.st x (.ow s) n).isS=(g.st n).isS:=by
  intro n;by_cases hn:n=x
  ·rw [hn,bH,hx.2.2];rfl
  ·rw [bJ _ _ hn]
 have eO:∀ n p,p≠ .fr->p≠ .ow s->((eK g.st x (.ow s) n=p) ↔ g.st n=p):=by
  intro n p h1 h2;by_cases hn:n=x
  ·rw [hn,bH,hx.2.2];exact ⟨fun e=>absurd e.symm h2,fun e=>absurd e.symm h1⟩
  ·rw [bJ _ _ hn]
 have hm:∀ c,c≠ .free->bZ m .free (ed (m .free) (m (.nd x 7))) c=m c:=fun c hc=>lu m _ hc
 have base:Gl m { g with st:=eK g.st x (.ow s) } ->True:=fun _=>trivial
 refine
 { rng:=?_,fw:=?_,fch:=?_,fmem:=?_,fnd:=?_,ftk:=?_,fcb:=?_,lhd:=h.lhd,sE:=h.sE,lmem:=?_,lsrt:=h.lsrt,lwrd:=?_,lded:=?_,lmrk:=?_,lkey:=?_,l1:=h.l1,b0:=h.b0,b1:=?_,msz:=h.msz,tpw:=h.tpw,sch:=h.sch,smem:=?_,snd:=h.snd,snx:=?_,chd:=h.chd,c2:=h.c2,td:=h.td,cch:=h.cch,cmem:=?_,cnd:=h.cnd,cfst:=h.cfst,cful:=h.cful,cval:=h.cval,lM:=?_,dnd:=h.dnd,dlen:=h.dlen,tM:=h.tM }
 ·intro n hn;rw [eA] at hn
  by_cases e:n=x
  ·rw [e];exact ⟨hx.1,hx.2.1⟩
  ·rw [bJ _ _ e] at hn;exact h.rng n hn
 ·rw [db,efl,tJ];exact JN h.fw hc hr.1 hr.2
 ·rw [efl];exact mK.tail
 ·intro n;rw [efl,eA]
  by_cases e:n=x
  ·rw [e,bH];exact ⟨fun hh=>absurd hh hxr,fun hh=>by simp at hh⟩
  ·rw [bJ _ _ e,<- h.fmem n,hf];simp [e]
 ·rw [efl];exact (fy.1 gu).2
 ·rw [efl];have:=h.ftk;rw [hf] at this;simp [Gh.take] at this ⊢;omega
 ·exact hc
 ·intro n;rw [eA,eO n .li zS zS];exact h.lmem n
 ·intro n hn;rw [eA,eL] at hn;obtain ⟨y,h0,h1,hw,hy⟩:=h.lwrd n hn;exact ⟨y,h0,h1,hw,hy.imp_right fun ⟨a,b⟩=>⟨by rw [eA,eL];exact a,b⟩⟩
 ·intro n t hn;rw [eA,eO n _ zS zS] at hn;exact h.lded n t hn
 ·intro n hn;rw [eA,eL] at hn;exact h.lmrk n hn
 ·intro n hn;rw [eA,eL] at hn;exact h.lkey n hn
 ·exact h.b1.imp_right fun ⟨d,a,b⟩=>⟨d,by rw [eA,eL];exact a,b⟩
 ·intro n;rw [eA,eO n .sk zS zS];exact h.smem n
 ·intro n hn;rw [eA,eS] at hn;exact (h.snx n hn).imp_right fun a=>by rw [eA,eS];exact a
 ·intro n;rw [eA,eO n .sg zS zS];exact h.cmem n
 ·intro t n;rw [eA,eO n _ zS zS,eO n _ zS zS];exact h.lM t n
theorem Env.take (h:Gl m g) {x:Int} {r:List Int} (hf:g.fl=x :: r) (v:Int):Env s m g (bZ m .free v) (g.take s):=by
 have hx:=(h.fmem x).1 (by rw [hf];simp)
 have eA:(g.take s).st=eK g.st x (.ow s):=by simp [Gh.take,hf]
 refine ⟨fun n hn=>⟨?_,rfl,rfl⟩,fun n hn _=>rfl,fun n hn=>⟨?_,rfl,rfl⟩,fun n hn=>⟨?_,fun _=>rfl,fun i _ _=>fun _=>.inl rfl⟩,fun n t hn ht=>⟨?_,fun i=>rfl⟩,fun n t hn ht=>?_,by simp [Gh.take],by simp [Gh.take],fun e=>?_,fun _ _=>rfl⟩
 ·rw [eA,bJ _ _ (by rintro rfl;rw [hx.2.2] at hn;cases hn)];exact hn
 ·rw [eA,bJ _ _ (by rintro rfl;rw [hx.2.2] at hn;cases hn)];exact hn
 ·rw [eA,bJ _ _ (by rintro rfl;rw [hx.2.2] at hn;cases hn)];exact hn
 ·rw [eA,bJ _ _ (by rintro rfl;rw [hx.2.2] at hn;cases hn)];exact hn
 ·rw [eA] at hn
  by_cases e:n=x
  ·rw [e,bH] at hn;injection hn with hn;exact absurd hn.symm ht
  ·rw [bJ _ _ e] at hn;exact hn
 ·simp [Gh.take] at e
theorem Gl.qK (h:Gl m g) {n:Int} (hn:g.st n= .ow s) (hc:g.fc+1 < 268435456) (tJ:m (.nd n 7)=idxOf (m .free)):Gl (bZ m .free (ed (m .free) n)) (g.qK n):=by
 have hr:=h.rng n (by rw [hn];simp)
 have hd:=vx h;have hi:idxOf (m .free)=g.fl.headD 0:=by rw [h.fw];exact iz _ _ _ hd.1 zO
 have hnf:n ∉ g.fl:=fun hm=>by have:=((h.fmem n).1 hm).2.2;rw [hn] at this;simp at this
 have eA:(g.qK n).st=eK g.st n .fr:=rfl;have eL:∀ x,(eK g.st n .fr x).isL=(g.st x).isL:=by
  intro x;by_cases e:x=n
  ·rw [e,bH,hn];rfl
  ·rw [bJ _ _ e]
 have eS:∀ x,(eK g.st n .fr x).isS=(g.st x).isS:=by
  intro x;by_cases e:x=n
  ·rw [e,bH,hn];rfl
  ·rw [bJ _ _ e]
 have eO:∀ x p,p≠ .fr->p≠ .ow s->((eK g.st n .fr x=p) ↔ g.st x=p):=by
  intro x p h1 h2;by_cases e:x=n
  ·rw [e,bH,hn];exact ⟨fun e=>absurd e.symm h1,fun e=>absurd e.symm h2⟩
  ·rw [bJ _ _ e]
 refine
 { rng:=?_,fw:=?_,fch:=?_,fmem:=?_,fnd:=?_,ftk:=?_,fcb:=hc,lhd:=h.lhd,sE:=h.sE,lmem:=?_,lsrt:=h.lsrt,lwrd:=?_,lded:=?_,lmrk:=?_,lkey:=?_,l1:=h.l1,b0:=h.b0,b1:=?_,msz:=h.msz,tpw:=h.tpw,sch:=h.sch,smem:=?_,snd:=h.snd,snx:=?_,chd:=h.chd,c2:=h.c2,td:=h.td,cch:=h.cch,cmem:=?_,cnd:=h.cnd,cfst:=h.cfst,cful:=h.cful,cval:=h.cval,lM:=?_,dnd:=h.dnd,dlen:=h.dlen,tM:=h.tM }
 ·intro x hx;rw [eA] at hx
  by_cases e:x=n
  ·rw [e,bH] at hx;simp at hx
  ·rw [bJ _ _ e] at hx;exact h.rng x hx
 ·rw [db];exact JN h.fw hc zO hr.2
 ·exact Chn.cons (h.fch.congr fun x _=>rfl) (tJ.trans hi)
 ·intro x;rw [eA]
  by_cases e:x=n
  ·rw [e,bH];simp [Gh.qK,hr]
  ·rw [bJ _ _ e,<- h.fmem x];simp [Gh.qK,e]
 ·exact fy.2 ⟨hnf,h.fnd⟩
 ·have:=h.ftk;simp [Gh.qK];omega
 ·intro x;rw [eA,eO x .li zS zS];exact h.lmem x
 ·intro x hx;rw [eA,eL] at hx;obtain ⟨y,h0,h1,hw,hy⟩:=h.lwrd x hx;exact ⟨y,h0,h1,hw,hy.imp_right fun ⟨a,b⟩=>⟨by rw [eA,eL];exact a,b⟩⟩
 ·intro x t hx;rw [eA,eO x _ zS zS] at hx;exact h.lded x t hx
 ·intro x hx;rw [eA,eL] at hx;exact h.lmrk x hx
 ·intro x hx;rw [eA,eL] at hx;exact h.lkey x hx
 ·exact h.b1.imp_right fun ⟨d,a,b⟩=>⟨d,by rw [eA,eL];exact a,b⟩
 ·intro x;rw [eA,eO x .sk zS zS];exact h.smem x
 ·intro x hx;rw [eA,eS] at hx;exact (h.snx x hx).imp_right fun a=>by rw [eA,eS];exact a
 ·intro x;rw [eA,eO x .sg zS zS];exact h.cmem x
 ·intro t x;rw [eA,eO x _ zS zS,eO x _ zS zS];exact h.lM t x
theorem Kh {n:Int} {g':Gh} {c:Loc} {v:Int} {p:Pl} (hn:g.st n= .ow s) (hs:g'.st=eK g.st n p) (hp:∀ t,t≠s->p≠ .ow t)
  (hc:∀ x i,bZ m c v (.nd x i)=m (.nd x i)) (h1:g.fc<=g'.fc) (h2:g'.fc<=g.fc+1) (h3:g'.fc=g.fc->bZ m c v .free=m .free/\g'.fl=g.fl/\∀ x∈g.fl,bZ m c v (.nd x 7)=m (.nd x 7)) (hd:∀ t,t≠s->g'.dd t=g.dd t):Env s m g (bZ m c v) g':=by
 have e1:∀ x,x≠n->g'.st x=g.st x:=fun x hx=>by rw [hs,bJ _ _ hx]
 have en:∀ x q,g.st x=q->q≠ .ow s->x≠n:=fun x q hx hq e=>hq (by rw [<- hx,e,hn])
 refine ⟨fun x hx=>⟨?_,hc x 1,hc x 2⟩,fun x hx _=>hc x 0,fun x hx=>⟨?_,hc x 0,hc x 1⟩,fun x hx=>⟨?_,fun _=>hc x 0,fun i _ _=>by rw [hc x i];exact fun _=>.inl rfl⟩,fun x t hx ht=>⟨?_,fun i=>hc x i⟩,fun x t hx ht=>?_,h1,h2,h3,hd⟩
 ·rw [e1 x (by rintro rfl;rw [hn] at hx;cases hx)];exact hx
 ·rw [e1 x (by rintro rfl;rw [hn] at hx;cases hx)];exact hx
 ·rw [e1 x (en x _ hx zS)];exact hx
 ·rw [e1 x (en x _ hx (by intro e;injection e with e;exact ht e))];exact hx
 ·by_cases e:x=n
  ·rw [hs,e,bH] at hx;exact absurd hx (hp t ht)
  ·rw [e1 x e] at hx;exact hx
theorem Env.qK {n:Int} (hn:g.st n= .ow s) (v:Int):Env s m g (bZ m .free v) (g.qK n):=
 Kh hn rfl zS (fun _ _=>rfl) (by simp [Gh.qK]) (by simp [Gh.qK]) (by simp [Gh.qK]) (fun _ _=>rfl)
theorem skD (h:Gl m g):g.sk.headD 0=0/\g.sk=[]\/g.st (g.sk.headD 0)= .sk/\1<=g.sk.headD 0/\g.sk.headD 0<=40:=by
 cases hf:g.sk with
 | nil=>exact .inl ⟨rfl,rfl⟩
 | cons x r=>
  have h1:=(h.smem x).1 (by rw [hf];simp)
  exact .inr ⟨h1,h.rng x (by rw [h1];simp)⟩
theorem BJ (h:Gl m g):idxOf (m .top)=g.sk.headD 0:=by
 obtain ⟨c,hc⟩:=h.tpw;have:=skD h;rw [hc];exact iz _ _ _ zO zO
theorem Gl.push (h:Gl m g) {n:Int} (hn:g.st n= .ow s) (h0:m (.nd n 0)=idxOf (m .top)):Gl (bZ m .top (ed (m .top) n)) (g.push n):=by
 have hr:=h.rng n (by rw [hn];simp)
 rw [BJ h] at h0;have eA:(g.push n).st=eK g.st n .sk:=rfl;have eL:∀ x,(eK g.st n .sk x).isL=(g.st x).isL:=by
  intro x;by_cases e:x=n
  ·rw [e,bH,hn];rfl
  ·rw [bJ _ _ e]
 have eS:∀ x,(g.st x).isS=true->(eK g.st n .sk x).isS=true:=by
  intro x hx;by_cases e:x=n
  ·rw [e,bH];rfl
  ·rw [bJ _ _ e];exact hx
 have eO:∀ x p,p≠ .sk->p≠ .ow s->((eK g.st n .sk x=p) ↔ g.st x=p):=by
  intro x p h1 h2;by_cases e:x=n
  ·rw [e,bH,hn];exact ⟨fun e=>absurd e.symm h1,fun e=>absurd e.symm h2⟩
  ·rw [bJ _ _ e]
 refine
 { rng:=?_,fw:=h.fw,fch:=h.fch,fmem:=?_,fnd:=h.fnd,ftk:=h.ftk,fcb:=h.fcb,lhd:=h.lhd,sE:=h.sE,lmem:=?_,lsrt:=h.lsrt,lwrd:=?_,lded:=?_,lmrk:=?_,lkey:=?_,l1:=h.l1,b0:=h.b0,b1:=?_,msz:=h.msz,tpw:=?_,sch:=?_,smem:=?_,snd:=?_,snx:=?_,chd:=h.chd,c2:=h.c2,td:=h.td,cch:=h.cch,cmem:=?_,cnd:=h.cnd,cfst:=h.cfst,cful:=h.cful,cval:=h.cval,lM:=?_,dnd:=h.dnd,dlen:=h.dlen,tM:=?_ }
 ·intro x hx;rw [eA] at hx
  by_cases e:x=n
  ·rw [e];exact hr
  ·rw [bJ _ _ e] at hx;exact h.rng x hx
 ·intro x;rw [eA,eO x .fr zS zS];exact h.fmem x
 ·intro x;rw [eA,eO x .li zS zS];exact h.lmem x
 ·intro x hx;rw [eA,eL] at hx;obtain ⟨y,h0,h1,hw,hy⟩:=h.lwrd x hx;exact ⟨y,h0,h1,hw,hy.imp_right fun ⟨a,b⟩=>⟨by rw [eA,eL];exact a,b⟩⟩
 ·intro x t hx;rw [eA,eO x _ zS zS] at hx;exact h.lded x t hx
 ·intro x hx;rw [eA,eL] at hx;exact h.lmrk x hx
 ·intro x hx;rw [eA,eL] at hx;exact h.lkey x hx
 ·exact h.b1.imp_right fun ⟨d,a,b⟩=>⟨d,by rw [eA,eL];exact a,b⟩
 ·obtain ⟨c,hc⟩:=Bg (m .top) (x:=n) zO hr.2;exact ⟨c,by rw [db];exact hc⟩
 ·exact Chn.cons (h.sch.congr fun x _=>rfl) h0
 ·intro x;rw [eA]
  by_cases e:x=n
  ·rw [e,bH];simp [Gh.push]
  ·rw [bJ _ _ e,<- h.smem x];simp [Gh.push,e]
 ·exact fy.2 ⟨fun hm=>by have:=(h.smem n).1 hm;rw [hn] at this;simp at this,h.snd⟩
 ·intro x hx
  by_cases e:x=n
  ·subst e;rcases skD h with ⟨h1,_⟩ | ⟨h1,_⟩
   ·exact .inl (h0.trans h1)
   ·refine .inr ?_;show ((g.push x).st (m (.nd x 0))).isS=true;rw [h0];exact eS _ (by rw [h1];rfl)
  ·rw [eA,bJ _ _ e] at hx;exact (h.snx x hx).imp_right fun a=>eS _ a
 ·intro x;rw [eA,eO x .sg zS zS];exact h.cmem x
 ·intro t x;rw [eA,eO x _ zS zS,eO x _ zS zS];exact h.lM t x
 ·have:=h.tM;show p7 m g.ls+g.dl+(pe m g.ls+g.dl)+((n :: g.sk).length+g.ds)+g.ds+gH m g.sg<=g.n+1;simp;omega
theorem Env.push {n:Int} (hn:g.st n= .ow s) (v:Int):Env s m g (bZ m .top v) (g.push n):=
 Kh hn rfl zS (fun _ _=>rfl) (az _) (uO _) (fun _=>⟨rfl,rfl,fun _ _=>rfl⟩) (fun _ _=>rfl)
theorem Gl.pop (h:Gl m g) {x:Int} {r:List Int} (hf:g.sk=x :: r):Gl (bZ m .top (ed (m .top) (m (.nd x 0)))) (g.pop s):=by
 have hx:=(h.smem x).1 (by rw [hf];simp)
 have hr:=h.rng x (by rw [hx];simp)
 have mK:=h.sch;rw [hf] at mK;have hb:m (.nd x 0)=r.headD 0:=mK.head;have gu:=h.snd;rw [hf] at gu;have hxr:x ∉ r:=(fy.1 gu).1;have hrr:0<=r.headD 0/\r.headD 0<=40:=by
  cases hr:r with
  | nil=>simp
  | cons y t=>
   have h1:=(h.smem y).1 (by rw [hf,hr];simp)
   have:=h.rng y (by rw [h1];simp)
   simp;omega
 have eA:(g.pop s).st=eK g.st x (.dsk s):=by simp [Gh.pop,hf]
 have esk:(g.pop s).sk=r:=by simp [Gh.pop,hf]
 have edd:(g.pop s).dd=ud g.dd s (g.dd s++[x]):=by simp [Gh.pop,hf]
 have eL:∀ n,(eK g.st x (.dsk s) n).isL=(g.st n).isL:=by
  intro n;by_cases e:n=x
  ·rw [e,bH,hx];rfl
  ·rw [bJ _ _ e]
 have eS:∀ n,(eK g.st x (.dsk s) n).isS=(g.st n).isS:=by
  intro n;by_cases e:n=x
  ·rw [e,bH,hx];rfl
  ·rw [bJ _ _ e]
 have eO:∀ n p,p≠ .sk->p≠ .dsk s->((eK g.st x (.dsk s) n=p) ↔ g.st n=p):=by
  intro n p h1 h2;by_cases e:n=x
  ·rw [e,bH,hx];exact ⟨fun e=>absurd e.symm h2,fun e=>absurd e.symm h1⟩
  ·rw [bJ _ _ e]
 refine
 { rng:=?_,fw:=h.fw,fch:=h.fch,fmem:=?_,fnd:=h.fnd,ftk:=h.ftk,fcb:=h.fcb,lhd:=h.lhd,sE:=h.sE,lmem:=?_,lsrt:=h.lsrt,lwrd:=?_,lded:=?_,lmrk:=?_,lkey:=?_,l1:=h.l1,b0:=h.b0,b1:=?_,msz:=h.msz,tpw:=?_,sch:=?_,smem:=?_,snd:=?_,snx:=?_,chd:=h.chd,c2:=h.c2,td:=h.td,cch:=h.cch,cmem:=?_,cnd:=h.cnd,cfst:=h.cfst,cful:=h.cful,cval:=h.cval,lM:=?_,dnd:=?_,dlen:=?_,tM:=?_ }
 ·intro n hn;rw [eA] at hn
  by_cases e:n=x
  ·rw [e];exact hr
  ·rw [bJ _ _ e] at hn;exact h.rng n hn
 ·intro n;rw [eA,eO n .fr zS zS];exact h.fmem n
 ·intro n;rw [eA,eO n .li zS zS];exact h.lmem n
 ·intro n hn;rw [eA,eL] at hn;obtain ⟨y,h0,h1,hw,hy⟩:=h.lwrd n hn;exact ⟨y,h0,h1,hw,hy.imp_right fun ⟨a,b⟩=>⟨by rw [eA,eL];exact a,b⟩⟩
 ·intro n t hn;rw [eA,eO n _ zS zS] at hn;exact h.lded n t hn
 ·intro n hn;rw [eA,eL] at hn;exact h.lmrk n hn
 ·intro n hn;rw [eA,eL] at hn;exact h.lkey n hn
 ·exact h.b1.imp_right fun ⟨d,a,b⟩=>⟨d,by rw [eA,eL];exact a,b⟩
 ·rw [hb,esk,db];exact Bg (m .top) hrr.1 hrr.2
 ·rw [esk];exact mK.tail
 ·intro n;rw [eA,esk]
  by_cases e:n=x
  ·rw [e,bH];exact ⟨fun hh=>absurd hh hxr,fun hh=>by simp at hh⟩
  ·rw [bJ _ _ e,<- h.smem n,hf];simp [e]
 ·rw [esk];exact (fy.1 gu).2
 ·intro n hn;rw [eA,eS] at hn;exact (h.snx n hn).imp_right fun a=>by rw [eA,eS];exact a
 ·intro n;rw [eA,eO n .sg zS zS];exact h.cmem n
 ·intro t n;rw [eA,edd]
  by_cases e:n=x
  ·subst e;rw [bH]
   by_cases et:t=s
   ·subst et;rw [eV];simp
   ·rw [ib _ _ et];refine ⟨fun hh=>?_,fun hh=>?_⟩
    ·have:=(h.lM t n).1 hh;rw [hx] at this;simp at this
    ·rcases hh with hh | hh
     ·simp at hh
     ·injection hh with hh;exact absurd hh.symm et
  ·rw [bJ _ _ e]
   by_cases et:t=s
   ·subst et;rw [eV,<- h.lM t n];simp [e]
   ·rw [ib _ _ et];exact h.lM t n
 ·intro t;rw [edd]
  by_cases et:t=s
  ·subst et;rw [eV];refine List.nodup_append.2 ⟨h.dnd t,zS,?_⟩;intro a ha b hb' e;rw [eN] at hb';rw [e,hb'] at ha;have:=(h.lM t x).1 ha;rw [hx] at this;simp at this
  ·rw [ib _ _ et];exact h.dnd t
 ·intro t;rw [edd];have h1:=h.dlen t;show _<=g.dl+(g.ds+1)
  by_cases et:t=s
  ·subst et;rw [eV];simp;omega
  ·rw [ib _ _ et];omega
 ·have:=h.tM;rw [hf] at this;rw [esk];show p7 m g.ls+g.dl+(pe m g.ls+g.dl)+(r.length+(g.ds+1))+(g.ds+1)+gH m g.sg<=g.n+1;simp at this;omega
theorem On {x:Int} {g':Gh} {c:Loc} {v:Int} {p:Pl} (hL:p.isL=(g.st x).isL) (hS:p.isS=(g.st x).isS) (hC:g.st x≠ .sg) (hO:∀ t,g.st x≠ .ow t) (hP:∀ t,p≠ .ow t) (hs:g'.st=eK g.st x p)
  (rr:∀ y i,(i≠0\/(g.st y).isL=false\/fG (m (.nd y 0))=true)->bZ m c v (.nd y i)=m (.nd y i)) (h1:g'.fc=g.fc) (h3:bZ m c v .free=m .free/\g'.fl=g.fl) (hd:∀ t,t≠s->g'.dd t=g.dd t):Env s m g (bZ m c v) g':=by
 have e1:∀ y,y≠x->g'.st y=g.st y:=fun y hy=>by rw [hs,bJ _ _ hy]
 refine ⟨fun y hy=>⟨?_,rr y 1 (.inl zD),rr y 2 (.inl zD)⟩,fun y hy hm=>rr y 0 (.inr (.inr hm)),fun y hy=>⟨?_,rr y 0 (.inr (.inl ?_)),rr y 1 (.inl zD)⟩,fun y hy=>⟨?_,fun _=>rr y 0 (.inr (.inl (by rw [hy];rfl))),fun i hi _=>by rw [rr y i (.inl zO)];exact fun _=>.inl rfl⟩,fun y t hy ht=>⟨?_,fun i=>rr y i (.inr (.inl (by rw [hy];rfl)))⟩,fun y t hy ht=>?_,zO,zO,fun _=>⟨h3.1,h3.2,fun y hy=>rr y 7 (.inl zD)⟩,hd⟩
 ·by_cases e:y=x
  ·rw [hs,e,bH,hL,<- e];exact hy
  ·rw [e1 y e];exact hy
 ·by_cases e:y=x
  ·rw [hs,e,bH,hS,<- e];exact hy
  ·rw [e1 y e];exact hy
 ·cases hq:g.st y <;> rw [hq] at hy <;> simp [Pl.isS] at hy <;> rfl
 ·by_cases e:y=x
  ·rw [e] at hy;exact absurd hy hC
  ·rw [e1 y e];exact hy
 ·by_cases e:y=x
  ·rw [e] at hy;exact absurd hy (hO t)
  ·rw [e1 y e];exact hy
 ·by_cases e:y=x
  ·rw [hs,e,bH] at hy;exact absurd hy (hP t)
  ·rw [e1 y e] at hy;exact hy
theorem Env.pop (h:Gl m g) {x:Int} {r:List Int} (hf:g.sk=x :: r) (v:Int):Env s m g (bZ m .top v) (g.pop s):=by
 have hx:=(h.smem x).1 (by rw [hf];simp)
 exact On (x:=x) (p:=.dsk s) (by rw [hx];rfl) (by rw [hx];rfl) (by rw [hx];simp) (by rw [hx];simp) zS (by simp [Gh.pop,hf]) (fun _ _ _=>rfl) rfl ⟨rfl,rfl⟩ (fun t ht=>by simp [Gh.pop,ib _ _ ht])
end
def sG (p n:Int):List Int->List Int
 | []=>[]
 | a :: r=>if a=p then a :: n :: r else a :: sG p n r
theorem rY {p:Int} (n:Int):∀ {l:List Int},p∈l->(sG p n l).Perm (n :: l)
 | [],h=>by simp at h
 | a :: r,h=>by
  unfold sG
  by_cases e:a=p
  ·rw [if_pos e];exact List.Perm.swap n a r
  ·rw [if_neg e];have hp:p∈r:=by
    rcases bD.1 h with h | h
    ·exact absurd h.symm e
    ·exact h
   exact ((rY n hp).cons a).trans (List.Perm.swap n a r)
theorem Dk {p n x:Int} {l:List Int} (h:p∈l):x∈sG p n l ↔ x=n\/x∈l:=by
 rw [(rY n h).mem_iff,bD]
theorem uB {f:Int->Int} {p:Int}:∀ {a:Int} {l:List Int},Chn f (a :: l)->p∈a :: l->f p=0\/f p∈l
 | a,[],h,hp=>by
  simp at hp;subst hp;exact .inl h
 | a,b :: r,h,hp=>by
  rcases bD.1 hp with hp | hp
  ·subst hp;exact .inr (by rw [h.1];simp)
  ·exact (uB h.2 hp).imp_right (jk _)
theorem Dl {f f':Int->Int} {p n:Int}:∀ {l:List Int},l.Nodup->Chn f l->p∈l->n ∉ l->f' p=n->f' n=f p->(∀ x∈l,x≠p->f' x=f x)->Chn f' (sG p n l)
 | [],_,_,h,_,_,_,_=>by simp at h
 | a :: r,hd,hc,hp,hn,h1,h2,h3=>by
  unfold sG;have qE:=fy.1 hd
  by_cases e:a=p
  ·subst e;rw [if_pos rfl];refine ⟨h1,Chn.cons (hc.tail.congr fun x hx=>h3 x (jk _ hx) (by rintro rfl;exact qE.1 hx)) (h2.trans hc.head)⟩
  ·rw [if_neg e];have uK:p∈r:=by
    rcases bD.1 hp with h | h
    ·exact absurd h.symm e
    ·exact h
   have ih:=Dl qE.2 hc.tail uK (fun hh=>hn (jk _ hh)) h1 h2 (fun x hx=>h3 x (jk _ hx))
   refine Chn.cons ih ((h3 a zS e).trans (hc.head.trans ?_))
   cases r with
   | nil=>simp at uK
   | cons b t=>unfold sG;by_cases e2:b=p <;> simp [e2]
theorem Dj {f k:Int->Int} {p n:Int}:∀ {l:List Int},l.Pairwise (fun a b=>k a < k b)->Chn f l->p∈l->(∀ x∈l,x≠0)->k p < k n->(f p=0\/k n < k (f p))->(sG p n l).Pairwise fun a b=>k a < k b
 | [],_,_,h,_,_,_=>by simp at h
 | a :: r,hs,hc,hp,h0,h1,h2=>by
  unfold sG;have fa:=List.pairwise_cons.1 hs
  by_cases e:a=p
  ·subst e;rw [if_pos rfl];have hn:∀ y∈r,k n < k y:=by
    cases r with
    | nil=>simp
    | cons b t=>
     have hb:k n < k b:=by
      rcases h2 with h2 | h2
      ·rw [hc.1] at h2;exact absurd h2 (h0 b zS)
      ·rw [hc.1] at h2;exact h2
     intro y hy;rcases bD.1 hy with hy | hy
     ·rw [hy];exact hb
     ·have:=(List.pairwise_cons.1 fa.2).1 y hy;omega
   refine List.pairwise_cons.2 ⟨?_,List.pairwise_cons.2 ⟨hn,fa.2⟩⟩;intro y hy;rcases bD.1 hy with hy | hy
   ·rw [hy];exact h1
   ·exact fa.1 y hy
  ·rw [if_neg e];have uK:p∈r:=by
    rcases bD.1 hp with h | h
    ·exact absurd h.symm e
    ·exact h
   refine List.pairwise_cons.2 ⟨?_,Dj fa.2 hc.tail uK (fun x hx=>h0 x (jk _ hx)) h1 h2⟩
   intro y hy;rcases (Dk uK).1 hy with hy | hy
   ·rw [hy];have:=fa.1 p uK;omega
   ·exact fa.1 y hy
theorem yx {k:Int->Int} {l:List Int} (h:l.Pairwise fun a b=>k a < k b):l.Nodup:=
 h.imp fun {a b} hab e=>by rw [e] at hab;omega
theorem A7 {f f':Int->Int} {p c:Int} (xc:c≠0):∀ {l:List Int},l.Nodup->Chn f l->p∈l->f p=c->f' p=f c->(∀ x∈l,x≠p->f' x=f x)->Chn f' (l.erase c)/\(l.erase c).headD 0=l.headD 0
 | [],_,_,h,_,_,_=>by simp at h
 | a :: r,hd,hc,hp,h1,h2,h3=>by
  have qE:=fy.1 hd;have En:c∈r:=by
   rcases uB hc hp with h | h
   ·rw [h1] at h;exact absurd h xc
   ·rw [h1] at h;exact h
  have hca:a≠c:=by rintro rfl;exact qE.1 En
  rw [List.erase_cons_tail (by simpa using hca)]
  refine ⟨?_,rfl⟩
  by_cases e:a=p
  ·subst e
   cases r with
   | nil=>simp at En
   | cons b t=>
    have hb:b=c:=hc.1.symm.trans h1;subst hb;rw [List.erase_cons_head];refine Chn.cons (hc.tail.tail.congr fun x hx=>h3 x (by simp [hx]) (by rintro rfl;exact qE.1 (by simp [hx]))) ?_
    rw [h2];exact hc.tail.head
  ·have uK:p∈r:=by
    rcases bD.1 hp with h | h
    ·exact absurd h.symm e
    ·exact h
   have ih:=A7 xc qE.2 hc.tail uK h1 h2 (fun x hx=>h3 x (jk _ hx))
   exact Chn.cons ih.1 ((h3 a zS e).trans (hc.head.trans ih.2.symm))
theorem ze {P Q:Int->Bool} {x:Int}:∀ {l:List Int},l.Nodup->x∈l->P x=false->Q x=true->(∀ y∈l,y≠x->Q y=P y)->l.countP Q=l.countP P+1
 | [],_,h,_,_,_=>by simp at h
 | a :: r,hd,hx,h1,h2,h3=>by
  have qE:=fy.1 hd;rw [List.countP_cons,List.countP_cons]
  by_cases e:a=x
  ·subst e;have:r.countP Q=r.countP P:=List.countP_congr fun y hy=>by rw [h3 y (by simp [hy]) (by rintro rfl;exact qE.1 hy)]
   rw [this,h1,h2];simp
  ·have AW:x∈r:=by
    rcases bD.1 hx with h | h
    ·exact absurd h.symm e
    ·exact h
   rw [ze qE.2 AW h1 h2 (fun y hy=>h3 y (by simp [hy])),h3 a zS e];omega
section
variable {m m':Sm} {g:Gh} {s:Nat}
def Gh.ins (g:Gh) (p n:Int) (e:Nat):Gh:={ g with ls:=sG p n g.ls,st:=eK g.st n .li,n:=g.n+e }
def Gh.mark (g:Gh):Gh:={ g with n:=g.n+1 }
def Gh.unl (g:Gh) (s:Nat) (c:Int):Gh:={ g with ls:=g.ls.erase c,st:=eK g.st c (.dli s),dd:=ud g.dd s (g.dd s++[c]),dl:=g.dl+1 }
theorem I3 (h:Gl m g) {p:Int} (hp:(g.st p).isL=true) (hm:fG (m (.nd p 0))=false):g.st p= .li:=by
 cases hq:g.st p with
 | li=>rfl
 | dli t=>have:=h.lded p t hq;rw [hm] at this;simp at this
 | _=>rw [hq] at hp;simp [Pl.isL] at hp
theorem jY (h:Gl m g) {p:Int} (hp:(g.st p).isL=true):1<=p/\p<=40:=h.rng p (by rintro e;rw [e] at hp;simp [Pl.isL] at hp)
theorem oF (h:Gl m g) {p c:Int} (hp:(g.st p).isL=true) (xc:0<=c) (rr:c<=40) (hw:m (.nd p 0)=a9 c):g.st p= .li/\p∈g.ls/\idxOf (m (.nd p 0))=c/\(c=0\/c∈g.ls):=by
 have h1:=I3 h hp (by rw [hw];exact dQ c)
 have h2:=(h.lmem p).2 h1;have h3:idxOf (m (.nd p 0))=c:=by rw [hw];exact iU xc rr
 refine ⟨h1,h2,h3,?_⟩;obtain ⟨r,hr⟩:=h.lhd;have mK:=h.sE;rw [hr] at mK h2;rcases uB mK h2 with e | e
 ·exact .inl (h3.symm.trans e)
 ·rw [h3] at e;exact .inr (by rw [hr];simp [e])
theorem Gl.ins (h:Gl m g) {p n c o:Int} {e:Nat} (hp:(g.st p).isL=true) (hw:m (.nd p 0)=a9 c) (hn:g.st n= .ow s) (hk:m (.nd n 1)=o) (hpo:cX m p < o)
  (hc:c=0\/(g.st c).isL=true/\o < cX m c) (N0:m (.nd n 0)=a9 c) (ho0:0<=o) (ho1:o < 131072) (ho2:o % 2=0->o=65536) (he:if o % 2=1 then e=1 else e=0):
  Gl (bZ m (.nd p 0) (a9 n)) (g.ins p n e):=by
 have hr:=h.rng n (by rw [hn];simp)
 have En:0<=c/\c<=40:=by
  rcases hc with hc | hc
  ·omega
  ·have:=jY h hc.1;omega
 obtain ⟨lH,qI,hpi,Lj⟩:=oF h hp En.1 En.2 hw;have dF:n≠p:=by rintro rfl;rw [hn] at lH;simp at lH
 have hnl:n ∉ g.ls:=fun hm=>by have:=(h.lmem n).1 hm;rw [hn] at this;simp at this
 have eA:(g.ins p n e).st=eK g.st n .li:=rfl;have els:(g.ins p n e).ls=sG p n g.ls:=rfl;have cU:∀ x i,(x≠p\/i≠0)->bZ m (.nd p 0) (a9 n) (.nd x i)=m (.nd x i):=fun x i hx=>lu m _ (by
  intro e;injection e with e1 e2;rcases hx with hx | hx
  ·exact hx e1
  ·exact hx e2)
 have Ja:bZ m (.nd p 0) (a9 n) (.nd p 0)=a9 n:=db m _ _;have kL:∀ x,cX (bZ m (.nd p 0) (a9 n)) x=cX m x:=fun x=>cU x 1 (.inr zD)
 have kn:cX m n=o:=hk;have eL:∀ x,(g.st x).isL=true->(eK g.st n .li x).isL=true:=by
  intro x hx;by_cases e:x=n
  ·rw [e,bH];rfl
  ·rw [bJ _ _ e];exact hx
 have eS:∀ x,(eK g.st n .li x).isS=(g.st x).isS:=by
  intro x;by_cases e:x=n
  ·rw [e,bH,hn];rfl
  ·rw [bJ _ _ e]
 have eO:∀ x q,q≠ .li->q≠ .ow s->((eK g.st n .li x=q) ↔ g.st x=q):=by
  intro x q h1 h2;by_cases e:x=n
  ·rw [e,bH,hn];exact ⟨fun e=>absurd e.symm h1,fun e=>absurd e.symm h2⟩
  ·rw [bJ _ _ e]
 have hnS:∀ x,(g.st x).isS=true->x≠p:=fun x hx e=>by rw [e,lH] at hx;simp [Pl.isS] at hx
 have hnC:∀ x,g.st x= .sg->x≠p:=fun x hx e=>by rw [e,lH] at hx;simp at hx
 have cC:∀ x∈g.sg,x≠p:=fun x hx=>hnC x ((h.cmem x).1 hx)
 refine
 { rng:=?_,fw:=h.fw,fch:=?_,fmem:=?_,fnd:=h.fnd,ftk:=h.ftk,fcb:=h.fcb,lhd:=?_,sE:=?_,lmem:=?_,lsrt:=?_,lwrd:=?_,lded:=?_,lmrk:=?_,lkey:=?_,l1:=?_,b0:=h.b0,b1:=?_,msz:=h.msz,tpw:=h.tpw,sch:=?_,smem:=?_,snd:=h.snd,snx:=?_,chd:=h.chd,c2:=h.c2,td:=h.td,cch:=?_,cmem:=?_,cnd:=h.cnd,cfst:=?_,cful:=?_,cval:=?_,lM:=?_,dnd:=h.dnd,dlen:=h.dlen,tM:=?_ }
 ·intro x hx;rw [eA] at hx
  by_cases e:x=n
  ·rw [e];exact hr
  ·rw [bJ _ _ e] at hx;exact h.rng x hx
 ·exact h.fch.congr fun x _=>cU x 7 (.inr zD)
 ·intro x;rw [eA,eO x .fr zS zS];exact h.fmem x
 ·obtain ⟨r,hr⟩:=h.lhd;rw [els,hr];unfold sG
  by_cases e:1=p
  ·exact ⟨_,by rw [if_pos e]⟩
  ·exact ⟨_,by rw [if_neg e]⟩
 ·rw [els];refine Dl (yx h.lsrt) h.sE qI hnl ?_ ?_ ?_
  ·show idxOf _=n;rw [Ja];exact iU zO hr.2
  ·show idxOf _=idxOf _;rw [cU n 0 (.inl dF),N0,hw]
  ·intro x _ hx;show idxOf _=idxOf _;rw [cU x 0 (.inl hx)]
 ·intro x;rw [els,Dk qI,eA,h.lmem x]
  by_cases e:x=n
  ·rw [e,bH];simp
  ·rw [bJ _ _ e];simp [e]
 ·rw [els];refine (Dj (f:=fun x=>idxOf (m (.nd x 0))) h.lsrt h.sE qI ?_ (by rw [kn];exact hpo) ?_).imp fun {a b} hab=>by rw [kL,kL];exact hab
  ·intro x hx e;have:=h.rng x (by rw [(h.lmem x).1 hx];simp);omega
  ·show idxOf (m (.nd p 0))=0\/cX m n < cX m (idxOf (m (.nd p 0)));rw [hpi,kn];exact hc.imp_right fun hh=>hh.2
 ·intro x hx;rw [eA] at hx
  by_cases e1:x=p
  ·subst e1;refine ⟨n,zO,hr.2,.inl Ja,.inr ⟨by rw [eA,bH];rfl,?_⟩⟩
   rw [kL,kL,kn];exact hpo
  ·by_cases e2:x=n
   ·subst e2;refine ⟨c,En.1,En.2,.inl ?_,hc.imp_right fun hh=>⟨eL c hh.1,?_⟩⟩
    ·rw [cU x 0 (.inl e1)];exact N0
    ·rw [kL,kL,kn];exact hh.2
   ·rw [bJ _ _ e2] at hx;obtain ⟨y,h0,h1,hw',hy⟩:=h.lwrd x hx;refine ⟨y,h0,h1,by rw [cU x 0 (.inl e1)];exact hw',hy.imp_right fun ⟨a,b⟩=>⟨eL y a,by rw [kL,kL];exact b⟩⟩
 ·intro x t hx;rw [eA,eO x _ zS zS] at hx;rw [cU x 0 (.inl (by rintro rfl;rw [lH] at hx;simp at hx))];exact h.lded x t hx
 ·intro x hx hm;rw [kL]
  by_cases e1:x=p
  ·subst e1;rw [Ja,dQ] at hm;simp at hm
  ·rw [cU x 0 (.inl e1)] at hm
   by_cases e2:x=n
   ·subst e2;rw [N0,dQ] at hm;simp at hm
   ·rw [eA,bJ _ _ e2] at hx;exact h.lmrk x hx hm
 ·intro x hx;rw [kL]
  by_cases e2:x=n
  ·subst e2;rw [kn];exact ⟨ho0,ho1,fun hh=>.inr (ho2 hh)⟩
  ·rw [eA,bJ _ _ e2] at hx;exact h.lkey x hx
 ·rw [kL];exact h.l1
 ·refine h.b1.imp_right fun ⟨d,a,b,c⟩=>⟨d,eL d a,by rw [kL];exact b,c⟩
 ·exact h.sch.congr fun x hx=>cU x 0 (.inl (hnS x (yi ((h.smem x).1 hx))))
 ·intro x;rw [eA,eO x .sk zS zS];exact h.smem x
 ·intro x hx;rw [eA,eS] at hx;rw [cU x 0 (.inl (hnS x hx))];exact (h.snx x hx).imp_right fun a=>by rw [eA,eS];exact a
 ·exact h.cch.congr fun x hx=>cU x 0 (.inl (cC x hx))
 ·intro x;rw [eA,eO x .sg zS zS];exact h.cmem x
 ·intro x hx h2;rw [cU x 1 (.inr zD)];exact h.cfst x hx h2
 ·intro x hx h2 i vu yQ;rw [cU x 0 (.inl (cC x hx))] at h2;rw [cU x i (.inr zO)];exact h.cful x hx h2 i vu yQ
 ·intro x hx i vu yQ;rw [cU x i (.inr zO)];exact h.cval x hx i vu yQ
 ·intro t x;rw [eA,eO x _ zS zS,eO x _ zS zS];exact h.lM t x
 ·have Ji:=h.tM;have h1:p7 (bZ m (.nd p 0) (a9 n)) (sG p n g.ls)=p7 m g.ls+e:=by
   unfold p7;rw [(rY n qI).countP_eq,List.countP_cons];have:(g.ls.countP fun x=>cX (bZ m (.nd p 0) (a9 n)) x % 2==1)=g.ls.countP fun x=>cX m x % 2==1:=List.countP_congr fun x _=>by rw [kL]
   rw [this,kL,kn]
   by_cases ho:o % 2=1
   ·rw [if_pos ho] at he;simp [ho,he]
   ·rw [if_neg ho] at he;simp [ho,he]
  have h2:pe (bZ m (.nd p 0) (a9 n)) (sG p n g.ls)=pe m g.ls:=by
   unfold pe;rw [(rY n qI).countP_eq,List.countP_cons,cU n 0 (.inl dF),N0,dQ];simp only [Bool.false_eq_true,if_false,Nat.add_zero];refine List.countP_congr fun x hx=>?_
   by_cases e1:x=p
   ·subst e1;rw [Ja,hw,dQ,dQ]
   ·rw [cU x 0 (.inl e1)]
  have h3:gH (bZ m (.nd p 0) (a9 n)) g.sg=gH m g.sg:=mE fun x _ i hi _=>cU x i (.inr zO)
  show p7 _ (sG p n g.ls)+g.dl+(pe _ (sG p n g.ls)+g.dl)+(g.sk.length+g.ds)+g.ds+gH _ g.sg<=g.n+e;omega
theorem Env.ins (h:Gl m g) {p n c:Int} {e:Nat} (hp:g.st p= .li) (hw:m (.nd p 0)=a9 c) (hn:g.st n= .ow s):
  Env s m g (bZ m (.nd p 0) (a9 n)) (g.ins p n e):=by
 have cU:∀ x i,(x≠p\/i≠0)->bZ m (.nd p 0) (a9 n) (.nd x i)=m (.nd x i):=fun x i hx=>lu m _ (by
  intro e;injection e with e1 e2;rcases hx with hx | hx
  ·exact hx e1
  ·exact hx e2)
 have eA:(g.ins p n e).st=eK g.st n .li:=rfl;have en:∀ x q,g.st x=q->q≠ .ow s->x≠n:=fun x q hx hq e=>hq (by rw [<- hx,e,hn])
 refine ⟨fun x hx=>⟨?_,cU x 1 (.inr zD),cU x 2 (.inr zD)⟩,fun x hx hm=>cU x 0 (.inl ?_),fun x hx=>⟨?_,cU x 0 (.inl ?_),cU x 1 (.inr zD)⟩,fun x hx=>⟨?_,fun _=>cU x 0 (.inl ?_),fun i hi _=>?_⟩,fun x t hx ht=>⟨?_,fun i=>cU x i (.inl ?_)⟩,fun x t hx ht=>?_,az _,uO _,fun _=>⟨rfl,rfl,fun x _=>cU x 7 (.inr zD)⟩,fun _ _=>rfl⟩
 ·rw [eA,bJ _ _ (by rintro rfl;rw [hn] at hx;cases hx)];exact hx
 ·rintro rfl;rw [hw,dQ] at hm;simp at hm
 ·rw [eA,bJ _ _ (by rintro rfl;rw [hn] at hx;cases hx)];exact hx
 ·rintro rfl;rw [hp] at hx;cases hx
 ·rw [eA,bJ _ _ (en x _ hx zS)];exact hx
 ·rintro rfl;rw [hp] at hx;cases hx
 ·rw [cU x i (.inr zO)];exact fun _=>.inl rfl
 ·rw [eA,bJ _ _ (en x _ hx (by intro e;injection e with e;exact ht e))];exact hx
 ·rintro rfl;rw [hp] at hx;cases hx
 ·rw [eA] at hx
  by_cases e:x=n
  ·rw [e,bH] at hx;cases hx
  ·rw [bJ _ _ e] at hx;exact hx
end
section
variable {m m':Sm} {g:Gh} {s:Nat}
theorem iM (m:Sm) (p v:Int) {x i:Int} (hx:x≠p\/i≠0):bZ m (.nd p 0) v (.nd x i)=m (.nd x i):=lu m _ (by
  intro e;injection e with e1 e2;rcases hx with hx | hx
  ·exact hx e1
  ·exact hx e2)
theorem Gl.mark (h:Gl m g) {c x:Int} (hc:(g.st c).isL=true) (h0:0<=x) (h1:x<=40) (hw:m (.nd c 0)=a9 x) (hk:cX m c % 2=1):Gl (bZ m (.nd c 0) (gZ x)) g.mark:=by
 obtain ⟨jm,Lj,hci,_⟩:=oF h hc h0 h1 hw;have cU:∀ y i,(y≠c\/i≠0)->bZ m (.nd c 0) (gZ x) (.nd y i)=m (.nd y i):=fun y i hy=>iM m c _ hy
 have hcv:bZ m (.nd c 0) (gZ x) (.nd c 0)=gZ x:=db m _ _;have kL:∀ y,cX (bZ m (.nd c 0) (gZ x)) y=cX m y:=fun y=>cU y 1 (.inr zD)
 have hi:∀ y,idxOf (bZ m (.nd c 0) (gZ x) (.nd y 0))=idxOf (m (.nd y 0)):=by
  intro y;by_cases e:y=c
  ·subst e;rw [hcv,lF h0 h1,hci]
  ·rw [cU y 0 (.inl e)]
 have hnS:∀ y,(g.st y).isS=true->y≠c:=fun y hy e=>by rw [e,jm] at hy;simp [Pl.isS] at hy
 have cC:∀ y∈g.sg,y≠c:=fun y hy e=>by have:=(h.cmem y).1 hy;rw [e,jm] at this;simp at this
 refine
 { rng:=h.rng,fw:=h.fw,fch:=?_,fmem:=h.fmem,fnd:=h.fnd,ftk:=h.ftk,fcb:=h.fcb,lhd:=h.lhd,sE:=?_,lmem:=h.lmem,lsrt:=?_,lwrd:=?_,lded:=?_,lmrk:=?_,lkey:=?_,l1:=?_,b0:=h.b0,b1:=?_,msz:=h.msz,tpw:=h.tpw,sch:=?_,smem:=h.smem,snd:=h.snd,snx:=?_,chd:=h.chd,c2:=h.c2,td:=h.td,cch:=?_,cmem:=h.cmem,cnd:=h.cnd,cfst:=?_,cful:=?_,cval:=?_,lM:=h.lM,dnd:=h.dnd,dlen:=h.dlen,tM:=?_ }
 ·exact h.fch.congr fun y _=>cU y 7 (.inr zD)
 ·exact h.sE.congr fun y _=>hi y
 ·exact h.lsrt.imp fun {a b} hab=>by rw [kL,kL];exact hab
 ·intro y hy;obtain ⟨z,z0,z1,hz,L2⟩:=h.lwrd y hy;have NP:z=0\/(g.st z).isL=true/\cX (bZ m (.nd c 0) (gZ x)) y < cX (bZ m (.nd c 0) (gZ x)) z:=L2.imp_right fun ⟨a,b⟩=>⟨a,by rw [kL,kL];exact b⟩
  by_cases e:y=c
  ·subst e;have hzx:z=x:=by
    rcases hz with hz | hz
    ·exact AJ z0 z1 h0 h1 (hz.symm.trans hw)
    ·rw [hw] at hz;have:=dQ x;rw [hz,lB] at this;simp at this
   exact ⟨z,z0,z1,.inr (by rw [hcv,hzx]),NP⟩
  ·exact ⟨z,z0,z1,by rw [cU y 0 (.inl e)];exact hz,NP⟩
 ·intro y t hy;have hy:g.st y= .dli t:=hy;rw [cU y 0 (.inl (by rintro rfl;rw [jm] at hy;simp at hy))];exact h.lded y t hy
 ·intro y hy hm;rw [kL]
  by_cases e:y=c
  ·rw [e];exact hk
  ·rw [cU y 0 (.inl e)] at hm;exact h.lmrk y hy hm
 ·intro y hy;rw [kL];exact h.lkey y hy
 ·rw [kL];exact h.l1
 ·exact h.b1.imp_right fun ⟨d,a,b,e⟩=>⟨d,a,by rw [kL];exact b,e⟩
 ·exact h.sch.congr fun y hy=>cU y 0 (.inl (hnS y (yi ((h.smem y).1 hy))))
 ·intro y hy;rw [cU y 0 (.inl (hnS y hy))];exact h.snx y hy
 ·exact h.cch.congr fun y hy=>cU y 0 (.inl (cC y hy))
 ·intro y hy h2;rw [cU y 1 (.inr zD)];exact h.cfst y hy h2
 ·intro y hy h2 i vu yQ;rw [cU y 0 (.inl (cC y hy))] at h2;rw [cU y i (.inr zO)];exact h.cful y hy h2 i vu yQ
 ·intro y hy i vu yQ;rw [cU y i (.inr zO)];exact h.cval y hy i vu yQ
 ·have Ji:=h.tM;have e1:p7 (bZ m (.nd c 0) (gZ x)) g.ls=p7 m g.ls:=pZ fun y _=>kL y
  have e2:pe (bZ m (.nd c 0) (gZ x)) g.ls=pe m g.ls+1:=by
   unfold pe;refine ze (yx h.lsrt) Lj ?_ ?_ ?_
   ·show fG (m (.nd c 0))=false;rw [hw,dQ]
   ·show fG (bZ m (.nd c 0) (gZ x) (.nd c 0))=true;rw [hcv,lB]
   ·intro y _ hy;show fG (bZ m _ _ _)=fG _;rw [cU y 0 (.inl hy)]
  have e3:gH (bZ m (.nd c 0) (gZ x)) g.sg=gH m g.sg:=mE fun y _ i hi _=>cU y i (.inr zO)
  show p7 _ g.ls+g.dl+(pe _ g.ls+g.dl)+(g.sk.length+g.ds)+g.ds+gH _ g.sg<=g.n+1;omega
theorem Env.nd0 (h:Gl m g) {c v:Int} {g':Gh} (hc:g.st c= .li) (hm:fG (m (.nd c 0))=false) (hs:∀ x,(g.st x).isL=true->(g'.st x).isL=true) (ho:∀ x,(g.st x).isL=false->g'.st x=g.st x) (hw:∀ x t,g'.st x= .ow t->g.st x= .ow t)
  (hfc:g'.fc=g.fc) (Dw:g'.fl=g.fl) (hd:∀ t,t≠s->g'.dd t=g.dd t):Env s m g (bZ m (.nd c 0) v) g':=by
 have nL:∀ x q,g.st x=q->q.isL=false->(g.st x).isL=false:=fun x q hx hq=>by rw [hx];exact hq
 refine ⟨fun x hx=>⟨hs x hx,iM m c v (.inr zD),iM m c v (.inr zD)⟩,fun x hx zR=>iM m c v (.inl ?_),fun x hx=>⟨?_,iM m c v (.inl ?_),iM m c v (.inr zD)⟩,fun x hx=>⟨?_,fun _=>iM m c v (.inl ?_),fun i hi _=>?_⟩,fun x t hx ht=>⟨?_,fun i=>iM m c v (.inl ?_)⟩,fun x t hx ht=>hw x t hx,zO,zO,fun _=>⟨rfl,Dw,fun x _=>iM m c v (.inr zD)⟩,hd⟩
 ·rintro rfl;rw [hm] at zR;simp at zR
 ·have:(g.st x).isL=false:=by cases hq:g.st x <;> rw [hq] at hx <;> simp [Pl.isS] at hx <;> rfl
  rw [ho x this];exact hx
 ·rintro rfl;rw [hc] at hx;cases hx
 ·rw [ho x (nL x _ hx rfl)];exact hx
 ·rintro rfl;rw [hc] at hx;cases hx
 ·rw [iM m c v (.inr zO)];exact fun _=>.inl rfl
 ·rw [ho x (nL x _ hx rfl)];exact hx
 ·rintro rfl;rw [hc] at hx;cases hx
theorem Gl.unl (h:Gl m g) {p c x:Int} (hp:(g.st p).isL=true) (hw:m (.nd p 0)=a9 c) (hc:(g.st c).isL=true) (h0:0<=x) (h1:x<=40) (hcw:m (.nd c 0)=gZ x):
  Gl (bZ m (.nd p 0) (a9 x)) (g.unl s c):=by
 have En:=jY h hc;obtain ⟨lH,qI,hpi,Lj⟩:=oF h hp zO En.2 hw;have Lj:c∈g.ls:=Lj.resolve_left zO;have jm:g.st c= .li:=(h.lmem c).1 Lj;have Jj:fG (m (.nd c 0))=true:=by rw [hcw,lB]
 have dF:c≠p:=by rintro rfl;rw [hw,dQ] at Jj;simp at Jj
 have hko:cX m c % 2=1:=h.lmrk c hc Jj;have rr:c≠1:=by rintro rfl;rw [h.l1] at hko;simp at hko
 have eA:(g.unl s c).st=eK g.st c (.dli s):=rfl;have els:(g.unl s c).ls=g.ls.erase c:=rfl;have edd:(g.unl s c).dd=ud g.dd s (g.dd s++[c]):=rfl;have cU:∀ y i,(y≠p\/i≠0)->bZ m (.nd p 0) (a9 x) (.nd y i)=m (.nd y i):=fun y i hy=>iM m p _ hy
 have Ja:bZ m (.nd p 0) (a9 x) (.nd p 0)=a9 x:=db m _ _;have kL:∀ y,cX (bZ m (.nd p 0) (a9 x)) y=cX m y:=fun y=>cU y 1 (.inr zD)
 have eL:∀ y,(eK g.st c (.dli s) y).isL=(g.st y).isL:=by
  intro y;by_cases e:y=c
  ·rw [e,bH,jm];rfl
  ·rw [bJ _ _ e]
 have eS:∀ y,(eK g.st c (.dli s) y).isS=(g.st y).isS:=by
  intro y;by_cases e:y=c
  ·rw [e,bH,jm];rfl
  ·rw [bJ _ _ e]
 have eO:∀ y q,q≠ .li->q≠ .dli s->((eK g.st c (.dli s) y=q) ↔ g.st y=q):=by
  intro y q h1 h2;by_cases e:y=c
  ·rw [e,bH,jm];exact ⟨fun e=>absurd e.symm h2,fun e=>absurd e.symm h1⟩
  ·rw [bJ _ _ e]
 have gu:=yx h.lsrt;have hnS:∀ y,(g.st y).isS=true->y≠p:=fun y hy e=>by rw [e,lH] at hy;simp [Pl.isS] at hy
 have cC:∀ y∈g.sg,y≠p:=fun y hy e=>by have:=(h.cmem y).1 hy;rw [e,lH] at this;simp at this
 refine
 { rng:=?_,fw:=h.fw,fch:=?_,fmem:=?_,fnd:=h.fnd,ftk:=h.ftk,fcb:=h.fcb,lhd:=?_,sE:=?_,lmem:=?_,lsrt:=?_,lwrd:=?_,lded:=?_,lmrk:=?_,lkey:=?_,l1:=?_,b0:=h.b0,b1:=?_,msz:=h.msz,tpw:=h.tpw,sch:=?_,smem:=?_,snd:=h.snd,snx:=?_,chd:=h.chd,c2:=h.c2,td:=h.td,cch:=?_,cmem:=?_,cnd:=h.cnd,cfst:=?_,cful:=?_,cval:=?_,lM:=?_,dnd:=?_,dlen:=?_,tM:=?_ }
 ·intro y hy;rw [eA] at hy
  by_cases e:y=c
  ·rw [e];exact En
  ·rw [bJ _ _ e] at hy;exact h.rng y hy
 ·exact h.fch.congr fun y _=>cU y 7 (.inr zD)
 ·intro y;rw [eA,eO y .fr zS zS];exact h.fmem y
 ·obtain ⟨r,hr⟩:=h.lhd;rw [els,hr,List.erase_cons_tail (by simpa using fun e=>rr e.symm)]
  exact ⟨_,rfl⟩
 ·rw [els];refine (A7 zO gu h.sE qI hpi ?_ ?_).1
  ·show idxOf _=idxOf _;rw [Ja,hcw,iU h0 h1,lF h0 h1]
  ·intro y _ hy;show idxOf _=idxOf _;rw [cU y 0 (.inl hy)]
 ·intro y;rw [els,gu.mem_erase_iff,eA,h.lmem y]
  by_cases e:y=c
  ·rw [e,bH];simp
  ·rw [bJ _ _ e];simp [e]
 ·rw [els];exact (h.lsrt.sublist List.erase_sublist).imp fun {a b} hab=>by rw [kL,kL];exact hab
 ·intro y hy;rw [eA,eL] at hy;obtain ⟨z,z0,z1,hz,L2⟩:=h.lwrd y hy
  by_cases e:y=p
  ·subst e;obtain ⟨z',z0',z1',hz',NP⟩:=h.lwrd c hc;have hzx:z'=x:=by
    rcases hz' with hz' | hz'
    ·rw [hz',dQ] at Jj;simp at Jj
    ·rw [<- lF z0' z1',<- hz',hcw,lF h0 h1]
   have hpc:cX m y < cX m c:=by
    have hzc:z=c:=by
     rcases hz with hz | hz
     ·exact AJ z0 z1 zO En.2 (hz.symm.trans hw)
     ·have:=dQ c;rw [<- hw,hz,lB] at this;simp at this
    rcases L2 with L2 | L2
    ·omega
    ·rw [hzc] at L2;exact L2.2
   refine ⟨x,h0,h1,.inl Ja,?_⟩;rw [hzx] at NP;exact NP.imp_right fun ⟨a,b⟩=>⟨by rw [eA,eL];exact a,by rw [kL,kL];omega⟩
  ·exact ⟨z,z0,z1,by rw [cU y 0 (.inl e)];exact hz,L2.imp_right fun ⟨a,b⟩=>⟨by rw [eA,eL];exact a,by rw [kL,kL];exact b⟩⟩
 ·intro y t hy;rw [eA] at hy
  by_cases e:y=c
  ·subst e;rw [cU y 0 (.inl dF)];exact Jj
  ·rw [bJ _ _ e] at hy;rw [cU y 0 (.inl (by rintro rfl;rw [lH] at hy;simp at hy))];exact h.lded y t hy
 ·intro y hy hm;rw [eA,eL] at hy;rw [kL]
  by_cases e:y=p
  ·subst e;rw [Ja,dQ] at hm;simp at hm
  ·rw [cU y 0 (.inl e)] at hm;exact h.lmrk y hy hm
 ·intro y hy;rw [eA,eL] at hy;rw [kL];exact h.lkey y hy
 ·rw [kL];exact h.l1
 ·exact h.b1.imp_right fun ⟨d,a,b,e⟩=>⟨d,by rw [eA,eL];exact a,by rw [kL];exact b,e⟩
 ·exact h.sch.congr fun y hy=>cU y 0 (.inl (hnS y (yi ((h.smem y).1 hy))))
 ·intro y;rw [eA,eO y .sk zS zS];exact h.smem y
 ·intro y hy;rw [eA,eS] at hy;rw [cU y 0 (.inl (hnS y hy))];exact (h.snx y hy).imp_right fun a=>by rw [eA,eS];exact a
 ·exact h.cch.congr fun y hy=>cU y 0 (.inl (cC y hy))
 ·intro y;rw [eA,eO y .sg zS zS];exact h.cmem y
 ·intro y hy h2;rw [cU y 1 (.inr zD)];exact h.cfst y hy h2
 ·intro y hy h2 i vu yQ;rw [cU y 0 (.inl (cC y hy))] at h2;rw [cU y i (.inr zO)];exact h.cful y hy h2 i vu yQ
 ·intro y hy i vu yQ;rw [cU y i (.inr zO)];exact h.cval y hy i vu yQ
 ·intro t n;rw [eA,edd]
  by_cases e:n=c
  ·subst e;rw [bH]
   by_cases et:t=s
   ·subst et;rw [eV];simp
   ·rw [ib _ _ et];refine ⟨fun hh=>?_,fun hh=>?_⟩
    ·have:=(h.lM t n).1 hh;rw [jm] at this;simp at this
    ·rcases hh with hh | hh
     ·injection hh with hh;exact absurd hh.symm et
     ·simp at hh
  ·rw [bJ _ _ e]
   by_cases et:t=s
   ·subst et;rw [eV,<- h.lM t n];simp [e]
   ·rw [ib _ _ et];exact h.lM t n
 ·intro t;rw [edd]
  by_cases et:t=s
  ·subst et;rw [eV];refine List.nodup_append.2 ⟨h.dnd t,zS,?_⟩;intro a ha b hb' e;rw [eN] at hb';rw [e,hb'] at ha;have:=(h.lM t c).1 ha;rw [jm] at this;simp at this
  ·rw [ib _ _ et];exact h.dnd t
 ·intro t;rw [edd];have h1:=h.dlen t;show _<=(g.dl+1)+g.ds
  by_cases et:t=s
  ·subst et;rw [eV];simp;omega
  ·rw [ib _ _ et];omega
 ·have Ji:=h.tM;have hpc:=List.perm_cons_erase Lj;have e1:p7 m g.ls=p7 (bZ m (.nd p 0) (a9 x)) (g.ls.erase c)+1:=by
   unfold p7;rw [hpc.countP_eq,List.countP_cons];have:((g.ls.erase c).countP fun y=>cX (bZ m (.nd p 0) (a9 x)) y % 2==1)=(g.ls.erase c).countP fun y=>cX m y % 2==1:=List.countP_congr fun y _=>by rw [kL]
   rw [this];simp [hko]
  have e2:pe m g.ls=pe (bZ m (.nd p 0) (a9 x)) (g.ls.erase c)+1:=by
   unfold pe;rw [hpc.countP_eq,List.countP_cons,Jj];have:((g.ls.erase c).countP fun y=>fG (bZ m (.nd p 0) (a9 x) (.nd y 0)))=(g.ls.erase c).countP fun y=>fG (m (.nd y 0)):=List.countP_congr fun y _=>by
    by_cases e:y=p
    ·subst e;rw [Ja,hw,dQ,dQ]
    ·rw [cU y 0 (.inl e)]
   rw [this];simp
  have e3:gH (bZ m (.nd p 0) (a9 x)) g.sg=gH m g.sg:=mE fun y _ i hi _=>cU y i (.inr zO)
  show p7 _ (g.ls.erase c)+(g.dl+1)+(pe _ (g.ls.erase c)+(g.dl+1))+(g.sk.length+g.ds)+g.ds+gH _ g.sg<=g.n;omega
theorem Env.mark (h:Gl m g) {c x:Int} (hc:(g.st c).isL=true) (h0:0<=x) (h1:x<=40) (hw:m (.nd c 0)=a9 x):Env s m g (bZ m (.nd c 0) (gZ x)) g.mark:=
 Env.nd0 h (oF h hc h0 h1 hw).1 (by rw [hw];exact dQ x) (fun _ h=>h) (fun _ _=>rfl) (fun _ _ h=>h) rfl rfl (fun _ _=>rfl)
theorem Env.unl (h:Gl m g) {p c x:Int} (hp:(g.st p).isL=true) (hw:m (.nd p 0)=a9 c) (hc:(g.st c).isL=true):Env s m g (bZ m (.nd p 0) (a9 x)) (g.unl s c):=by
 have En:=jY h hc;obtain ⟨lH,qI,hpi,Lj⟩:=oF h hp zO En.2 hw;have jm:g.st c= .li:=(h.lmem c).1 (Lj.resolve_left zO);have eA:(g.unl s c).st=eK g.st c (.dli s):=rfl;refine Env.nd0 h lH (by rw [hw];exact dQ c) (fun y hy=>?_) (fun y hy=>?_) (fun y t hy=>?_) rfl rfl (fun t ht=>ib _ _ ht)
 ·rw [eA];by_cases e:y=c
  ·rw [e,bH];rfl
  ·rw [bJ _ _ e];exact hy
 ·rw [eA,bJ _ _ (by rintro rfl;rw [jm] at hy;simp [Pl.isL] at hy)]
 ·rw [eA] at hy;by_cases e:y=c
  ·rw [e,bH] at hy;simp at hy
  ·rw [bJ _ _ e] at hy;exact hy
theorem Gl.bucket (h:Gl m g) {d:Int} (hd:(g.st d).isL=true) (hk:cX m d=65536):Gl (bZ m (.bucket 1) (a9 d)) g:=
 { h with
  fw:=h.fw,fch:=h.fch,sE:=h.sE,lsrt:=h.lsrt,lwrd:=h.lwrd,lded:=h.lded,lmrk:=h.lmrk,lkey:=h.lkey,l1:=h.l1
  b0:=by rw [lu _ _ zS];exact h.b0
  b1:=.inr ⟨d,hd,hk,db _ _ _⟩
  msz:=h.msz,tpw:=h.tpw,sch:=h.sch,snx:=h.snx,chd:=h.chd,td:=h.td,cch:=h.cch,cfst:=h.cfst,cful:=h.cful,cval:=h.cval,tM:=h.tM }
theorem Gl.size (h:Gl m g):Gl (bZ m .msize 2) g:=
 { h with
  fw:=h.fw,fch:=h.fch,sE:=h.sE,lsrt:=h.lsrt,lwrd:=h.lwrd,lded:=h.lded,lmrk:=h.lmrk,lkey:=h.lkey,l1:=h.l1,b0:=h.b0,b1:=h.b1
  msz:=.inr (db _ _ _)
  tpw:=h.tpw,sch:=h.sch,snx:=h.snx,chd:=h.chd,td:=h.td,cch:=h.cch,cfst:=h.cfst,cful:=h.cful,cval:=h.cval,tM:=h.tM }
theorem Bm (h:Gl m g) {x:Int} (hx:x∈g.sg):1<=x/\x<=40:=h.rng x (by rw [(h.cmem x).1 hx];simp)
theorem Gl.tail (h:Gl m g) {x w:Int} (hx:x∈g.sg):Gl (bZ m .tail (ed w x)) g:=
 { h with
  fw:=h.fw,fch:=h.fch,sE:=h.sE,lsrt:=h.lsrt,lwrd:=h.lwrd,lded:=h.lded,lmrk:=h.lmrk,lkey:=h.lkey,l1:=h.l1,b0:=h.b0,b1:=h.b1,msz:=h.msz
  tpw:=h.tpw,sch:=h.sch,snx:=h.snx,chd:=h.chd
  td:=by
   have:=Bm h hx;obtain ⟨c,hc⟩:=Bg w (x:=x) zO this.2;exact ⟨x,c,hx,by rw [db];exact hc⟩
  cch:=h.cch,cfst:=h.cfst,cful:=h.cful,cval:=h.cval,tM:=h.tM }
theorem Env.plain {c:Loc} {v:Int} (hc:∀ x i,c≠ .nd x i) (hf:c≠ .free):Env s m g (bZ m c v) g:=by
 have k:∀ x i,bZ m c v (.nd x i)=m (.nd x i):=fun x i=>lu m v (fun e=>hc x i e.symm)
 refine ⟨fun n h=>⟨h,k n 1,k n 2⟩,fun n _ _=>k n 0,fun n h=>⟨h,k n 0,k n 1⟩,fun n h=>⟨h,fun _=>k n 0,fun i _ _=>by rw [k n i];exact fun _=>.inl rfl⟩,fun n t h _=>⟨h,fun i=>k n i⟩,fun _ _ h _=>h,az _,uO _,fun _=>⟨lu m v (fun e=>hf e.symm),rfl,fun n _=>k n 7⟩,fun _ _=>rfl⟩
def Gh.eff (g:Gh):Gh:={ g with n:=g.n+1 }
def Gh.app (g:Gh) (n:Int):Gh:={ g with sg:=g.sg++[n],st:=eK g.st n .sg,n:=g.n+1 }
theorem fO (m:Sm) (p j v:Int) {x i:Int} (hx:x≠p\/i≠j):bZ m (.nd p j) v (.nd x i)=m (.nd x i):=lu m _ (by
  intro e;injection e with e1 e2;rcases hx with hx | hx
  ·exact hx e1
  ·exact hx e2)
theorem MC {n i v:Int} (h1:1<=i) (h5:i<=5) (hv:v≠0) (hw:m (.nd n i)≠1/\v=1/\m (.nd n i)≠0\/m (.nd n i)=0/\v≠1):oK (bZ m (.nd n i) v) n=oK m n+1:=by
 have hi:i=1\/i=2\/i=3\/i=4\/i=5:=zO;rcases hi with rfl | rfl | rfl | rfl | rfl <;> rcases hw with ⟨a,b,c⟩ | ⟨a,b⟩ <;>
  (unfold oK nzP rcP;simp [bZ, *];omega)
theorem KL {n i v:Int} {l:List Int} (hd:l.Nodup) (hn:n∈l) (h1:1<=i) (h5:i<=5) (hv:v≠0) (hw:m (.nd n i)≠1/\v=1/\m (.nd n i)≠0\/m (.nd n i)=0/\v≠1):gH (bZ m (.nd n i) v) l=gH m l+1:=by
 induction l with
 | nil=>simp at hn
 | cons a r ih=>
  have qE:=fy.1 hd;unfold gH at *;rw [List.map_cons,List.map_cons,List.sum_cons,List.sum_cons]
  by_cases e:a=n
  ·subst e;have:r.map (oK (bZ m (.nd a i) v))=r.map (oK m):=List.map_congr_left fun y hy=>tx fun j _ _=>fO m a i v (.inl (by rintro rfl;exact qE.1 hy))
   rw [this,MC h1 h5 hv hw];omega
  ·have hn':n∈r:=by
    rcases bD.1 hn with hh | hh
    ·exact absurd hh.symm e
    ·exact hh
   rw [ih qE.2 hn',tx fun j _ _=>fO m n i v (.inl e)];omega
theorem Gl.place (h:Gl m g) {n i v:Int} (hn:g.st n= .sg) (h1:1<=i) (h5:i<=5) (hv:1<=v/\v<=4294967297) (hw:m (.nd n i)≠1/\v=1/\m (.nd n i)≠0\/m (.nd n i)=0/\v≠1):Gl (bZ m (.nd n i) v) g.eff:=by
 have hm:=(h.cmem n).2 hn;have nL:∀ y j,(g.st y).isL=true->bZ m (.nd n i) v (.nd y j)=m (.nd y j):=fun y j hy=>fO m n i v (.inl (by rintro rfl;rw [hn] at hy;simp [Pl.isL] at hy))
 have nS:∀ y j,(g.st y).isS=true->bZ m (.nd n i) v (.nd y j)=m (.nd y j):=fun y j hy=>fO m n i v (.inl (by rintro rfl;rw [hn] at hy;simp [Pl.isS] at hy))
 have n0:∀ y,bZ m (.nd n i) v (.nd y 0)=m (.nd y 0):=fun y=>fO m n i v (.inr zO)
 have n7:∀ y,bZ m (.nd n i) v (.nd y 7)=m (.nd y 7):=fun y=>fO m n i v (.inr zO)
 have kL:∀ y,(g.st y).isL=true->cX (bZ m (.nd n i) v) y=cX m y:=fun y hy=>nL y 1 hy
 have lL:∀ y∈g.ls,(g.st y).isL=true:=fun y hy=>BC ((h.lmem y).1 hy)
 have h1L:(g.st 1).isL=true:=by obtain ⟨r,hr⟩:=h.lhd;exact lL 1 (by rw [hr];simp)
 refine
 { rng:=h.rng,fw:=h.fw,fch:=?_,fmem:=h.fmem,fnd:=h.fnd,ftk:=h.ftk,fcb:=h.fcb,lhd:=h.lhd,sE:=?_,lmem:=h.lmem,lsrt:=?_,lwrd:=?_,lded:=?_,lmrk:=?_,lkey:=?_,l1:=?_,b0:=h.b0,b1:=?_,msz:=h.msz,tpw:=h.tpw,sch:=?_,smem:=h.smem,snd:=h.snd,snx:=?_,chd:=h.chd,c2:=h.c2,td:=h.td,cch:=?_,cmem:=h.cmem,cnd:=h.cnd,cfst:=?_,cful:=?_,cval:=?_,lM:=h.lM,dnd:=h.dnd,dlen:=h.dlen,tM:=?_ }
 ·exact h.fch.congr fun y _=>n7 y
 ·exact h.sE.congr fun y _=>by show idxOf _=idxOf _;rw [n0]
 ·exact CW (fun y hy=>kL y (lL y hy)) h.lsrt
 ·intro y hy;obtain ⟨z,z0,z1,hz,L2⟩:=h.lwrd y hy;exact ⟨z,z0,z1,by rw [n0];exact hz,L2.imp_right fun ⟨a,b⟩=>⟨a,by rw [kL y hy,kL z a];exact b⟩⟩
 ·intro y t hy;rw [n0];exact h.lded y t hy
 ·intro y hy hm;rw [n0] at hm;rw [kL y hy];exact h.lmrk y hy hm
 ·intro y hy;rw [kL y hy];exact h.lkey y hy
 ·rw [kL 1 h1L];exact h.l1
 ·exact h.b1.imp_right fun ⟨d,a,b,e⟩=>⟨d,a,by rw [kL d a];exact b,e⟩
 ·exact h.sch.congr fun y _=>n0 y
 ·intro y hy;rw [n0];exact h.snx y hy
 ·exact h.cch.congr fun y _=>n0 y
 ·intro y hy h2
  by_cases e:y=n/\(1:Int)=i
  ·rw [e.1,e.2,db];omega
  ·rw [fO m n i v zO];exact h.cfst y hy h2
 ·intro y hy h2 j hj1 xa;rw [n0] at h2
  by_cases e:y=n/\j=i
  ·rw [e.1,e.2,db];omega
  ·rw [fO m n i v zO];exact h.cful y hy h2 j hj1 xa
 ·intro y hy j hj1 xa
  by_cases e:y=n/\j=i
  ·rw [e.1,e.2,db];omega
  ·rw [fO m n i v zO];exact h.cval y hy j hj1 xa
 ·have Ji:=h.tM;have e1:=pZ (m:=m) (m':=bZ m (.nd n i) v) fun y hy=>nL y 1 (lL y hy)
  have e2:=tI (m:=m) (m':=bZ m (.nd n i) v) fun y hy=>nL y 0 (lL y hy)
  have e3:=KL (m:=m) h.cnd hm h1 h5 zO hw;show p7 _ g.ls+g.dl+(pe _ g.ls+g.dl)+(g.sk.length+g.ds)+g.ds+gH _ g.sg<=g.n+1;omega
theorem Env.place {n i v:Int} (hn:g.st n= .sg) (h1:1<=i) (h5:i<=5) (hw:m (.nd n i)≠0->v=1):Env s m g (bZ m (.nd n i) v) g.eff:=by
 have nq:∀ y j,g.st y≠ .sg->bZ m (.nd n i) v (.nd y j)=m (.nd y j):=fun y j hy=>fO m n i v (.inl (by rintro rfl;exact hy hn))
 have L:∀ y,(g.st y).isL=true->g.st y≠ .sg:=fun y hy e=>by rw [e] at hy;simp [Pl.isL] at hy
 have S:∀ y,(g.st y).isS=true->g.st y≠ .sg:=fun y hy e=>by rw [e] at hy;simp [Pl.isS] at hy
 refine ⟨fun y hy=>⟨hy,nq y 1 (L y hy),nq y 2 (L y hy)⟩,fun y hy _=>nq y 0 (L y hy),fun y hy=>⟨hy,nq y 0 (S y hy),nq y 1 (S y hy)⟩,fun y hy=>⟨hy,fun _=>fO m n i v (.inr zO),fun j hj1 xa=>?_⟩,fun y t hy _=>⟨hy,fun j=>nq y j (by rw [hy];simp)⟩,fun _ _ h _=>h,az _,uO _,fun _=>⟨rfl,rfl,fun y _=>fO m n i v (.inr zO)⟩,fun _ _=>rfl⟩
 by_cases e:y=n/\j=i
 ·rw [e.1,e.2,db];exact fun h=>.inr (hw h)
 ·rw [fO m n i v zO];exact fun _=>.inl rfl
theorem DV {f:Int->Int}:∀ {l:List Int} {x:Int},Chn f l->l.Nodup->(∀ y∈l,y≠0)->x∈l->f x=0->∃ r,l=r++[x]
 | [],x,_,_,_,h,_=>by simp at h
 | [a],x,_,_,_,h,_=>by simp at h;subst h;exact ⟨[],rfl⟩
 | a :: b :: r,x,hc,hd,h0,hx,hz=>by
  rcases bD.1 hx with hx | hx
  ·subst hx;rw [hc.1] at hz;exact absurd hz (h0 b zS)
  ·obtain ⟨t,ht⟩:=DV (l:=b :: r) hc.2 (fy.1 hd).2 (fun y hy=>h0 y (jk _ hy)) hx hz
   exact ⟨a :: t,by rw [ht];rfl⟩
theorem DU {f f':Int->Int} {x n:Int}:∀ {r:List Int},Chn f (r++[x])->(r++[x]).Nodup->f' x=n->f' n=0->(∀ y∈r++[x],y≠x->f' y=f y)->Chn f' (r++[x]++[n])
 | [],_,_,h1,h2,_=>⟨h1,h2⟩
 | a :: r,hc,hd,h1,h2,h3=>by
  have qE:=fy.1 hd;have ih:=DU (r:=r) hc.tail qE.2 h1 h2 (fun y hy=>h3 y (jk _ hy))
  refine Chn.cons ih ((h3 a zS (by rintro rfl;exact qE.1 zS)).trans (hc.head.trans ?_))
  cases r <;> rfl
theorem Gl.app (h:Gl m g) {x n v:Int} (hx:g.st x= .sg) (hz:m (.nd x 0)=0) (hf:∀ i,1<=i->i<=5->m (.nd x i)≠0) (hn:g.st n= .ow s) (vt:m (.nd n 0)=0) (A3:m (.nd n 1)=v) (hv:2<=v/\v<=4294967297) (L6:∀ i,2<=i->i<=5->m (.nd n i)=0):
  Gl (bZ m (.nd x 0) n) (g.app n):=by
 have hr:=h.rng n (by rw [hn];simp)
 have hxm:=(h.cmem x).2 hx;have hnm:n ∉ g.sg:=fun hh=>by have:=(h.cmem n).1 hh;rw [hn] at this;simp at this
 have hxn:n≠x:=by rintro rfl;rw [hn] at hx;simp at hx
 have eA:(g.app n).st=eK g.st n .sg:=rfl;have esg:(g.app n).sg=g.sg++[n]:=rfl;have dF:∀ y j,(y≠x\/j≠0)->bZ m (.nd x 0) n (.nd y j)=m (.nd y j):=fun y j hy=>fO m x 0 n hy
 have nL:∀ y j,(g.st y).isL=true->bZ m (.nd x 0) n (.nd y j)=m (.nd y j):=fun y j hy=>dF y j (.inl (by rintro rfl;rw [hx] at hy;simp [Pl.isL] at hy))
 have nS:∀ y j,(g.st y).isS=true->bZ m (.nd x 0) n (.nd y j)=m (.nd y j):=fun y j hy=>dF y j (.inl (by rintro rfl;rw [hx] at hy;simp [Pl.isS] at hy))
 have kL:∀ y,cX (bZ m (.nd x 0) n) y=cX m y:=fun y=>dF y 1 (.inr zD)
 have eL:∀ y,(eK g.st n .sg y).isL=(g.st y).isL:=by
  intro y;by_cases e:y=n
  ·rw [e,bH,hn];rfl
  ·rw [bJ _ _ e]
 have eS:∀ y,(eK g.st n .sg y).isS=(g.st y).isS:=by
  intro y;by_cases e:y=n
  ·rw [e,bH,hn];rfl
  ·rw [bJ _ _ e]
 have eO:∀ y q,q≠ .sg->q≠ .ow s->((eK g.st n .sg y=q) ↔ g.st y=q):=by
  intro y q h1 h2;by_cases e:y=n
  ·rw [e,bH,hn];exact ⟨fun e=>absurd e.symm h1,fun e=>absurd e.symm h2⟩
  ·rw [bJ _ _ e]
 have lL:∀ y∈g.ls,(g.st y).isL=true:=fun y hy=>BC ((h.lmem y).1 hy)
 obtain ⟨r2,hr2⟩:=h.c2;refine
 { rng:=?_,fw:=h.fw,fch:=?_,fmem:=?_,fnd:=h.fnd,ftk:=h.ftk,fcb:=h.fcb,lhd:=h.lhd,sE:=?_,lmem:=?_,lsrt:=?_,lwrd:=?_,lded:=?_,lmrk:=?_,lkey:=?_,l1:=?_,b0:=h.b0,b1:=?_,msz:=h.msz,tpw:=h.tpw,sch:=?_,smem:=?_,snd:=h.snd,snx:=?_,chd:=h.chd,c2:=?_,td:=?_,cch:=?_,cmem:=?_,cnd:=?_,cfst:=?_,cful:=?_,cval:=?_,lM:=?_,dnd:=h.dnd,dlen:=h.dlen,tM:=?_ }
 ·intro y hy;rw [eA] at hy
  by_cases e:y=n
  ·rw [e];exact hr
  ·rw [bJ _ _ e] at hy;exact h.rng y hy
 ·exact h.fch.congr fun y _=>dF y 7 (.inr zD)
 ·intro y;rw [eA,eO y .fr zS zS];exact h.fmem y
 ·exact h.sE.congr fun y hy=>by show idxOf _=idxOf _;rw [nL y 0 (lL y hy)]
 ·intro y;rw [eA,eO y .li zS zS];exact h.lmem y
 ·exact h.lsrt.imp fun {a b} hab=>by rw [kL,kL];exact hab
 ·intro y hy;rw [eA,eL] at hy;obtain ⟨z,z0,z1,hz',L2⟩:=h.lwrd y hy;exact ⟨z,z0,z1,by rw [nL y 0 hy];exact hz',L2.imp_right fun ⟨a,b⟩=>⟨by rw [eA,eL];exact a,by rw [kL,kL];exact b⟩⟩
 ·intro y t hy;rw [eA,eO y _ zS zS] at hy;rw [nL y 0 (by rw [hy];rfl)];exact h.lded y t hy
 ·intro y hy hm;rw [eA,eL] at hy;rw [nL y 0 hy] at hm;rw [kL];exact h.lmrk y hy hm
 ·intro y hy;rw [eA,eL] at hy;rw [kL];exact h.lkey y hy
 ·rw [kL];exact h.l1
 ·exact h.b1.imp_right fun ⟨d,a,b,e⟩=>⟨d,by rw [eA,eL];exact a,by rw [kL];exact b,e⟩
 ·exact h.sch.congr fun y hy=>nS y 0 (yi ((h.smem y).1 hy))
 ·intro y;rw [eA,eO y .sk zS zS];exact h.smem y
 ·intro y hy;rw [eA,eS] at hy;rw [nS y 0 hy];exact (h.snx y hy).imp_right fun a=>by rw [eA,eS];exact a
 ·exact ⟨r2++[n],by rw [esg,hr2];rfl⟩
 ·obtain ⟨y,c,h1,h2⟩:=h.td;exact ⟨y,c,by rw [esg];simp [h1],h2⟩
 ·rw [esg];obtain ⟨t,ht⟩:=DV h.cch h.cnd (fun y hy e=>by have:=Bm h hy;omega) hxm hz
  have mK:=h.cch;have gu:=h.cnd;rw [ht] at mK gu ⊢;exact DU mK gu (db _ _ _) ((dF n 0 (.inl hxn)).trans vt) (fun y _ hy=>dF y 0 (.inl hy))
 ·intro y;rw [esg,eA]
  by_cases e:y=n
  ·rw [e,bH];simp
  ·rw [bJ _ _ e,<- h.cmem y];simp [e]
 ·rw [esg];refine List.nodup_append.2 ⟨h.cnd,zS,?_⟩;intro a ha b hb e;rw [eN] at hb;rw [e,hb] at ha;exact hnm ha
 ·intro y hy h2;rw [dF y 1 (.inr zD)];rw [esg] at hy;rcases List.mem_append.1 hy with hy | hy
  ·exact h.cfst y hy h2
  ·rw [eN.1 hy,A3];omega
 ·intro y hy h2 j hj1 xa;rw [dF y j (.inr zO)];rw [esg] at hy;rcases List.mem_append.1 hy with hy | hy
  ·by_cases e:y=x
   ·rw [e];exact hf j hj1 xa
   ·rw [dF y 0 (.inl e)] at h2;exact h.cful y hy h2 j hj1 xa
  ·rw [eN.1 hy,dF n 0 (.inl hxn)] at h2;exact absurd vt h2
 ·intro y hy j hj1 xa;rw [dF y j (.inr zO)];rw [esg] at hy;rcases List.mem_append.1 hy with hy | hy
  ·exact h.cval y hy j hj1 xa
  ·rw [eN.1 hy]
   by_cases e:j=1
   ·rw [e,A3];omega
   ·rw [L6 j zO xa];omega
 ·intro t y;rw [eA,eO y _ zS zS,eO y _ zS zS];exact h.lM t y
 ·have Ji:=h.tM;have e1:=pZ (m:=m) (m':=bZ m (.nd x 0) n) (l:=g.ls) fun y hy=>nL y 1 (lL y hy)
  have e2:=tI (m:=m) (m':=bZ m (.nd x 0) n) (l:=g.ls) fun y hy=>nL y 0 (lL y hy)
  have e3:=mE (m:=m) (m':=bZ m (.nd x 0) n) (l:=g.sg++[n]) fun y hy i hi _=>dF y i (.inr zO)
  have e4:gH m (g.sg++[n])=gH m g.sg+1:=by
   unfold gH;rw [List.map_append,List.sum_append];have:oK m n=1:=by
    unfold oK nzP rcP;rw [A3,L6 2 zO zO,L6 3 zO zO,L6 4 zO zO,L6 5 zO zO];have v0:v≠0:=zO;have v1:v≠1:=zO;simp [v0,v1]
   simp [this]
  show p7 _ g.ls+g.dl+(pe _ g.ls+g.dl)+(g.sk.length+g.ds)+g.ds+gH _ (g.sg++[n])<=g.n+1;omega
theorem Env.app {x n:Int} (hx:g.st x= .sg) (hz:m (.nd x 0)=0) (hn:g.st n= .ow s):Env s m g (bZ m (.nd x 0) n) (g.app n):=by
 have dF:∀ y j,(y≠x\/j≠0)->bZ m (.nd x 0) n (.nd y j)=m (.nd y j):=fun y j hy=>fO m x 0 n hy
 have eA:(g.app n).st=eK g.st n .sg:=rfl;have en:∀ y q,g.st y=q->q≠ .ow s->y≠n:=fun y q hy hq e=>hq (by rw [<- hy,e,hn])
 refine ⟨fun y hy=>⟨?_,dF y 1 (.inr zD),dF y 2 (.inr zD)⟩,fun y hy _=>dF y 0 (.inl ?_),fun y hy=>⟨?_,dF y 0 (.inl ?_),dF y 1 (.inr zD)⟩,fun y hy=>⟨?_,fun h0=>dF y 0 (.inl ?_),fun i hi _=>?_⟩,fun y t hy ht=>⟨?_,fun i=>dF y i (.inl ?_)⟩,fun y t hy ht=>?_,az _,uO _,fun _=>⟨rfl,rfl,fun y _=>dF y 7 (.inr zD)⟩,fun _ _=>rfl⟩
 ·rw [eA,bJ _ _ (by rintro rfl;rw [hn] at hy;cases hy)];exact hy
 ·rintro rfl;rw [hx] at hy;cases hy
 ·rw [eA,bJ _ _ (by rintro rfl;rw [hn] at hy;cases hy)];exact hy
 ·rintro rfl;rw [hx] at hy;cases hy
 ·rw [eA,bJ _ _ (en y _ hy zS)];exact hy
 ·rintro rfl;exact h0 hz
 ·rw [dF y i (.inr zO)];exact fun _=>.inl rfl
 ·rw [eA,bJ _ _ (en y _ hy (by intro e;injection e with e;exact ht e))];exact hy
 ·rintro rfl;rw [hx] at hy;cases hy
 ·rw [eA] at hy
  by_cases e:y=n
  ·rw [e,bH] at hy;cases hy
  ·rw [bJ _ _ e] at hy;exact hy
end
def Gd (g:Gh):Loc->Prop
 | .nd x i=>i=0/\(g.st x).isL=true
 | .top | .tail | .head=>True
 | _=>False
def Rd (m:Sm) (g:Gh):Loc->Int->Prop
 | .nd x _,v=>∃ y,0<=y/\y<=40/\(v=a9 y\/v=gZ y/\m (.nd x 0)=v)/\(y=0\/(g.st y).isL=true/\cX m x < cX m y)
 | .top,v=>idxOf v=0\/(g.st (idxOf v)).isS=true
 | .tail,v=>g.st (idxOf v)= .sg
 | .head,v=>g.st (idxOf v)= .sg
 | _,_=>True
def JK (m:Sm) (g:Gh) (fr:Int):Prop:=1<=idxOf fr/\idxOf fr<=40/\mM fr<=g.fc/\(mM fr=g.fc->m .free=fr)
def mO (s:Nat) (m:Sm) (g:Gh):Sub->Prop
 | .g1 i c=>i < 3/\Gd g c
 | .g2 i c v=>i < 3/\Gd g c/\Rd m g c v
 | .g3 i c _=>i < 3/\Gd g c
 | .t1=>True
 | .t2 fr=>JK m g fr
 | .t3 fr lk=>JK m g fr/\(mM fr=g.fc->lk=m (.nd (idxOf fr) 7))
 | .t4 n _=>g.st n= .ow s
 | .t5 n _ _=>g.st n= .ow s
 | .v1 n=>g.st n= .ow s
 | .v2 n _=>g.st n= .ow s
 | .v3 n fr=>g.st n= .ow s/\m (.nd n 7)=idxOf fr
 | .cl i=>i < 3
 | .r1 n=>n∈g.dd s
 | .r2 n _=>n∈g.dd s
inductive Cls where
 | G (c:Loc) | T | V | C | R
def Sub.cls:Sub->Cls
 | .g1 _ c | .g2 _ c _ | .g3 _ c _=>.G c
 | .t1 | .t2 _ | .t3 _ _ | .t4 _ _ | .t5 _ _ _=>.T
 | .v1 _ | .v2 _ _ | .v3 _ _=>.V
 | .cl _=>.C
 | .r1 _ | .r2 _ _=>.R
def Sub.own:Sub->Int
 | .t4 n _ | .t5 n _ _ | .v1 n | .v2 n _ | .v3 n _=>n
 | _=>0
def Sub.cH:Sub->List Int
 | .r1 n | .r2 n _=>[n]
 | _=>[]
def Sub.tk:Sub->Nat
 | .t4 _ _ | .t5 _ _ _=>1
 | _=>0
def Ret.own:Ret->Int
 | .tk n _ _=>n
 | _=>0
def Ret.tkn:Ret->Nat
 | .tk _ _ _=>1
 | _=>0
def kV (s:Nat) (m:Sm) (g:Gh):Cls->Ret->Prop
 | .G c,.gd v _=>Gd g c/\Rd m g c v
 | .T,.tk n _ ok=>ok=true/\g.st n= .ow s
 | .V,.un | .C,.un | .R,.un=>True
 | _,_=>False
def eJ (g:Gh) (s:Nat) (a b:Int):Prop:=∀ y,g.st y= .ow s ↔ y≠0/\(y=a\/y=b)
def JF (s:Nat) (m:Sm) (g:Gh) (k:Cls) (o0:Int) (p0:List Int):SX->Prop
 | .go x z=>x.cls=k/\mO s m g x/\z.dO.length=3/\eJ g s x.own o0/\g.dd s=z.gone.map (·.1)++(x.cH++p0)
 | .ret r z=>kV s m g k r/\z.dO.length=3/\eJ g s r.own o0/\g.dd s=z.gone.map (·.1)++p0
 | .stuck=>False
def Sub.gst (s:Nat) (g:Gh):Sub->Int × Bool->Gh
 | .t3 _ _,r=>if r.2 then g.take s else g
 | .v3 n _,r=>if r.2 then g.qK n else g
 | _,_=>g
def SX.tk:SX->Nat
 | .go x _=>x.tk
 | .ret r _=>r.tkn
 | .stuck=>0
section
variable {m m':Sm} {g g':Gh} {s t:Nat}
theorem Gd.env (e:Env s m g m' g') {c:Loc} (h:Gd g c):Gd g' c:=by
 cases c with
 | nd x i=>exact ⟨h.1,(e.isL x h.2).1⟩
 | _=>exact h
theorem iN (e:Env s m g m' g') {x:Int} (h:(g.st x).isL=true):cX m' x=cX m x:=(e.isL x h).2.1
theorem Rd.env (e:Env s m g m' g') {c:Loc} {v:Int} (hc:Gd g c) (h:Rd m g c v):Rd m' g' c v:=by
 cases c with
 | nd x i=>
  obtain ⟨y,h0,h1,hv,hy⟩:=h;have hx:=hc.2;refine ⟨y,h0,h1,hv.imp_right fun ⟨a,b⟩=>⟨a,?_⟩,hy.imp_right fun ⟨a,b⟩=>⟨(e.isL y a).1,?_⟩⟩
  ·rw [e.mrk x hx (by rw [b,a];exact lB y)];exact b
  ·rw [iN e hx,iN e a];exact b
 | top=>exact Or.imp_right (fun a=>(e.isS _ a).1) h
 | tail=>exact (e.isC _ h).1
 | head=>exact (e.isC _ h).1
 | _=>exact h
theorem JK.env (e:Env s m g m' g') {fr:Int} (h:JK m g fr):JK m' g' fr:=by
 obtain ⟨h1,h2,h3,h4⟩:=h;have:=e.fcl;refine ⟨h1,h2,zO,fun hc=>?_⟩
 have hfc:g'.fc=g.fc:=zO;rw [(e.fce hfc).1];exact h4 zO
theorem Og (h:Gl m g) {fr:Int} (hf:JK m g fr) (hc:mM fr=g.fc):∃ r,g.fl=idxOf fr :: r:=by
 have h1:=hf.2.2.2 hc;have hd:=vx h;have h2:idxOf fr=g.fl.headD 0:=by rw [<- h1,h.fw];exact iz _ _ _ hd.1 zO
 cases Dw:g.fl with
 | nil=>rw [Dw] at h2;simp at h2;have:=hf.1;omega
 | cons x r=>rw [Dw] at h2;exact ⟨r,by rw [h2];rfl⟩
theorem mO.env (h:Gl m g) (e:Env s m g m' g') (ht:t≠s) {x:Sub} (hx:mO t m g x):mO t m' g' x:=by
 cases x with
 | g1 i c=>exact ⟨hx.1,hx.2.env e⟩
 | g2 i c v=>exact ⟨hx.1,hx.2.1.env e,hx.2.2.env e hx.2.1⟩
 | g3 i c v=>exact ⟨hx.1,hx.2.env e⟩
 | t1=>trivial
 | t2 fr=>exact JK.env e hx
 | t3 fr lk=>
  refine ⟨hx.1.env e,fun hc=>?_⟩
  have:=e.fcl;have h3:=hx.1.2.2.1;have hfc:g'.fc=g.fc:=zO;have Ka:mM fr=g.fc:=zO;obtain ⟨r,hr⟩:=Og h hx.1 Ka;rw [(e.fce hfc).2.2 (idxOf fr) (by rw [hr];simp)];exact hx.2 Ka
 | t4 n p=>exact (e.own n t hx ht).1
 | t5 n b p=>exact (e.own n t hx ht).1
 | v1 n=>exact (e.own n t hx ht).1
 | v2 n fr=>exact (e.own n t hx ht).1
 | v3 n fr=>exact ⟨(e.own n t hx.1 ht).1,by rw [(e.own n t hx.1 ht).2];exact hx.2⟩
 | cl i=>exact hx
 | r1 n=>show n∈g'.dd t;rw [e.ddo t ht];exact hx
 | r2 n v=>show n∈g'.dd t;rw [e.ddo t ht];exact hx
theorem eJ.env (e:Env s m g m' g') (ht:t≠s) {a b:Int} (h:eJ g t a b):eJ g' t a b:=
 fun y=>⟨fun hy=>(h y).1 (e.got y t hy ht),fun hy=>(e.own y t ((h y).2 hy) ht).1⟩
theorem MU (h:Gl m g) {c:Loc} (hc:Gd g c):Rd m g c (m c):=by
 cases c with
 | nd x i=>
  obtain ⟨rfl,hx⟩:=hc;obtain ⟨y,h0,h1,hw,hy⟩:=h.lwrd x hx;exact ⟨y,h0,h1,hw.imp_right fun a=>⟨a,rfl⟩,hy⟩
 | top=>
  show idxOf (m .top)=0\/(g.st (idxOf (m .top))).isS=true;rw [BJ h];rcases skD h with ⟨a,_⟩ | ⟨a,_⟩
  ·exact .inl a
  ·exact .inr (by rw [a];rfl)
 | tail=>
  obtain ⟨x,c,hx,hc⟩:=h.td;have:=Bm h hx;show g.st (idxOf (m .tail))= .sg;rw [hc,iz x false c zO zO];exact (h.cmem x).1 hx
 | head=>
  obtain ⟨c,hc⟩:=h.chd;obtain ⟨r,hr⟩:=h.c2;show g.st (idxOf (m .head))= .sg;rw [hc,iz 2 false c zO zO];exact (h.cmem 2).1 (by rw [hr];simp)
 | _=>exact absurd hc (by simp [Gd])
theorem sa {z:Pz} {k:Cls} {o0:Int} {p0:List Int} (hk:k= .C) (hz:z.dO.length=3) (ho:eJ g s 0 o0) (hd:g.dd s=z.gone.map (·.1)++p0) (i:Nat):JF s m g k o0 p0 (dK z i):=by
 subst hk;have nc:∀ f i j,sU z.dO f i=some j->f+i<=3->j < 3:=by
  intro f
  induction f with
  | zero=>intro i j hj;cases hj
  | succ f ih=>
   intro i j hj hi;unfold sU at hj;split at hj
   ·injection hj with hj;omega
   ·exact ih (i+1) j hj zO
 unfold dK
 cases hj:sU z.dO (3 - i) i with
 | none=>exact ⟨trivial,hz,ho,hd⟩
 | some j=>
  have:j < 3:=by
   by_cases hi:i<=3
   ·exact nc _ _ _ hj zO
   ·rw [show 3 - i=0 by omega] at hj;cases hj
  exact ⟨rfl,this,hz,ho,by simpa [Sub.cH] using hd⟩
theorem JQ {l:List Int} (h:l.length=3) (i:Nat) (v:Int):(l.set i v).length=3:=by simp [h]
def nU (g:Gh):Loc->Prop
 | .nd n i=>1<=n/\n<=40/\0<=i/\i < 8/\(i≠7->g.st n≠ .fr)
 | .resv _ i=>0<=i/\i < 3
 | .bucket b=>b=0\/b=1
 | _=>True
theorem I1 {p:Pl} (h:p.isL=true):p≠ .fr:=by rintro rfl;cases h
theorem NJ {p:Pl} (h:p.isS=true):p≠ .fr:=by rintro rfl;cases h
theorem gd_loc (h:Gl m g) {c:Loc} (hc:Gd g c):nU g c:=by
 cases c with
 | nd x i=>
  have:=jY h hc.2;exact ⟨this.1,this.2,by rw [hc.1];decide,by rw [hc.1];decide,fun _=>I1 hc.2⟩
 | top=>trivial
 | tail=>trivial
 | head=>trivial
 | _=>exact absurd hc (by simp [Gd])
theorem oE (h:Gl m g) {n i:Int} (hn:g.st n= .ow s) (h0:0<=i) (h8:i < 8):nU g (.nd n i):=by
 have:=h.rng n (by rw [hn];simp)
 exact ⟨this.1,this.2,h0,h8,fun _=>by rw [hn];simp⟩
theorem Sub.pg (h:Gl m g) {x:Sub} (hx:mO s m g x):nU g (x.acc s).c:=by
 cases x with
 | g1 i c=>exact gd_loc h hx.2
 | g2 i c v=>trivial
 | g3 i c v=>have:=hx.1;exact ⟨zO,zO⟩
 | t2 fr=>exact ⟨hx.1,hx.2.1,zD,zD,fun e=>absurd rfl e⟩
 | t5 n b p=>exact oE h hx zD zD
 | v2 n fr=>exact oE h hx zD zD
 | cl i=>have:i < 3:=hx;exact ⟨zO,zO⟩
 | _=>trivial
theorem K4 {a b:Int} (h:a=b):a<=b:=zO
theorem Sub.step (h:Gl m g) {x:Sub} {z:Pz} {o0:Int} {p0:List Int} {th:Int} (hx:mO s m g x) (hz:z.dO.length=3) (ho:eJ g s x.own o0) (hd:g.dd s=z.gone.map (·.1)++(x.cH++p0))
  (hc:g.fc+1 < 268435456) (ht:g.tk<=37) (hV:x.cls= .V->o0=0) (jl:((g.dd s).length:Int) < th):
  Gl ((x.acc s).mem m) (x.gst s g ((x.acc s).res m))/\Env s m g ((x.acc s).mem m) (x.gst s g ((x.acc s).res m))/\
  JF s ((x.acc s).mem m) (x.gst s g ((x.acc s).res m)) x.cls o0 p0 (x.stp th z ((x.acc s).res m))/\(x.gst s g ((x.acc s).res m)).tk+x.tk<=g.tk+(x.stp th z ((x.acc s).res m)).tk/\(x.gst s g ((x.acc s).res m)).n=g.n:=by
 cases x with
 | g1 i c=>
  rw [bO rfl];refine ⟨h,Env.refl s m g,⟨rfl,⟨hx.1,hx.2,?_⟩,hz,ho,hd⟩,az _,rfl⟩;rw [fF];exact MU h hx.2
 | g2 i c v=>
  rw [bO rfl];refine ⟨h,Env.refl s m g,?_,?_,rfl⟩
  ·show JF _ _ _ _ _ _ (if _ then _ else _)
   split
   ·exact ⟨⟨hx.2.1,hx.2.2⟩,hz,ho,hd⟩
   ·exact ⟨rfl,⟨hx.1,hx.2.1⟩,hz,ho,hd⟩
  ·exact dZ _ _
 | g3 i c e=>
  rw [cW rfl];exact ⟨h.bP (s:=s) (c:=.resv s i) trivial e,Env.bP h (c:=.resv s i) trivial e,⟨rfl,hx,JQ hz i e,ho,hd⟩,az _,rfl⟩
 | t1=>
  rw [bO rfl];have qE:=vx h;have dF:g.fl.headD 0≠0:=by
   have:=h.ftk
   cases hf:g.fl with
   | nil=>rw [hf] at this;simp at this;omega
   | cons y r=>have:=(h.fmem y).1 (by rw [hf];simp);simp;omega
  have hi:idxOf (m .free)=g.fl.headD 0:=by rw [h.fw];exact iz _ _ _ qE.1 zO
  have hcn:mM (m .free)=g.fc:=by rw [h.fw];exact zo _ _ _ zO zO
  have e1:Sub.stp th z .t1 ((Sub.t1.acc s).res m)= .go (.t2 (m .free)) z.got:=by
   show (if idxOf ((Sub.t1.acc s).res m).1=0 then _ else _)=_
   rw [fF];exact if_neg (by show idxOf (m .free)≠0;rw [hi];exact dF)
  rw [e1];exact ⟨h,Env.refl s m g,⟨rfl,⟨zO,zO,K4 hcn,fun _=>rfl⟩,hz,ho,hd⟩,az _,rfl⟩
 | t2 fr=>
  rw [bO rfl];exact ⟨h,Env.refl s m g,⟨rfl,⟨hx,fun _=>fF _ _⟩,hz,ho,hd⟩,az _,rfl⟩
 | t3 fr lk=>
  cases hr:((Sub.t3 fr lk).acc s |>.res m).2 with
  | false=>
   rw [dg rfl hr];have e1:Sub.gst s g (.t3 fr lk) (((Sub.t3 fr lk).acc s).res m)=g:=by simp [Sub.gst,hr]
   have e2:Sub.stp th z (.t3 fr lk) (((Sub.t3 fr lk).acc s).res m)= .go .t1 z.got:=by simp [Sub.stp,hr]
   rw [e1,e2];exact ⟨h,Env.refl s m g,⟨rfl,trivial,hz,ho,hd⟩,az _,rfl⟩
  | true=>
   obtain ⟨hm,hw⟩:=eZ (a:=(Sub.t3 fr lk).acc s) rfl hr;have hm:m .free=fr:=hm;rw [hw];have e1:Sub.gst s g (.t3 fr lk) (((Sub.t3 fr lk).acc s).res m)=g.take s:=by simp [Sub.gst,hr]
   have e2:Sub.stp th z (.t3 fr lk) (((Sub.t3 fr lk).acc s).res m)= .go (.t4 (idxOf fr) z.made) z.got:=by simp [Sub.stp,hr]
   rw [e1,e2];have hcn:mM fr=g.fc:=by rw [<- hm,h.fw];exact zo _ _ _ zO zO
   obtain ⟨r,Dw⟩:=Og h hx.1 hcn;have tJ:=hx.2 hcn;have g1:=h.take (s:=s) Dw hc;rw [hm,<- tJ] at g1;have eA:(g.take s).st=eK g.st (idxOf fr) (.ow s):=by simp [Gh.take,Dw]
   have rp:=((h.fmem (idxOf fr)).1 (by rw [Dw];simp)).2.2
   refine ⟨g1,Env.take h Dw _,⟨rfl,?_,hz,?_,hd⟩,?_,rfl⟩
   ·show (g.take s).st (idxOf fr)= .ow s;rw [eA,bH]
   ·intro y;have h1:=hx.1.1;have hoy:=ho y;show (g.take s).st y= .ow s ↔ y≠0/\(y=idxOf fr\/y=o0);rw [eA]
    by_cases e:y=idxOf fr
    ·rw [e,bH];simp;omega
    ·rw [bJ _ _ e,hoy];show _/\(y=0\/y=o0) ↔ _;simp [e];omega
   ·show (g.take s).tk+0<=g.tk+1;simp [Gh.take]
 | t4 n p=>
  rw [bO rfl];exact ⟨h,Env.refl s m g,⟨rfl,hx,hz,ho,hd⟩,az _,rfl⟩
 | t5 n b p=>
  rw [cW rfl];exact ⟨h.bP (s:=s) (c:=.nd n 6) hx b,Env.bP h (c:=.nd n 6) hx b,⟨⟨rfl,hx⟩,hz,ho,hd⟩,az _,rfl⟩
 | v1 n=>
  rw [bO rfl];exact ⟨h,Env.refl s m g,⟨rfl,hx,hz,ho,hd⟩,az _,rfl⟩
 | v2 n fr=>
  rw [cW rfl];exact ⟨h.bP (s:=s) (c:=.nd n 7) hx _,Env.bP h (c:=.nd n 7) hx _,⟨rfl,⟨hx,db _ _ _⟩,hz,ho,hd⟩,az _,rfl⟩
 | v3 n fr=>
  cases hr:((Sub.v3 n fr).acc s |>.res m).2 with
  | false=>
   rw [dg rfl hr];have e1:Sub.gst s g (.v3 n fr) (((Sub.v3 n fr).acc s).res m)=g:=by simp [Sub.gst,hr]
   have e2:Sub.stp th z (.v3 n fr) (((Sub.v3 n fr).acc s).res m)= .go (.v1 n) z.got:=by simp [Sub.stp,hr]
   rw [e1,e2];exact ⟨h,Env.refl s m g,⟨rfl,hx.1,hz,ho,hd⟩,az _,rfl⟩
  | true=>
   obtain ⟨hm,hw⟩:=eZ (a:=(Sub.v3 n fr).acc s) rfl hr;have hm:m .free=fr:=hm;rw [hw];have e1:Sub.gst s g (.v3 n fr) (((Sub.v3 n fr).acc s).res m)=g.qK n:=by simp [Sub.gst,hr]
   have e2:Sub.stp th z (.v3 n fr) (((Sub.v3 n fr).acc s).res m)= .ret .un z.got:=by simp [Sub.stp,hr]
   rw [e1,e2];have g1:=h.qK (s:=s) (n:=n) hx.1 hc (by rw [hm];exact hx.2)
   rw [hm] at g1;refine ⟨g1,Env.qK hx.1 _,⟨trivial,hz,?_,hd⟩,az _,rfl⟩;intro y;have hoy:=ho y;have h1:=h.rng n (by rw [hx.1];simp)
   show eK g.st n .fr y= .ow s ↔ y≠0/\(y=0\/y=o0)
   by_cases e:y=n
   ·rw [e,bH];have:=hV rfl;simp;omega
   ·rw [bJ _ _ e,hoy];show _/\(y=n\/y=o0) ↔ _;simp [e];omega
 | cl i=>
  rw [cW rfl];refine ⟨h.bP (s:=s) (c:=.resv s i) trivial 0,Env.bP h (c:=.resv s i) trivial 0,?_,?_,rfl⟩
  ·exact sa (z:={ z.got with dO:=z.dO.set i 0 }) rfl (JQ hz i 0) ho hd _
  ·exact dZ _ _
 | r1 n=>
  rw [bO rfl];exact ⟨h,Env.refl s m g,⟨rfl,hx,hz,ho,hd⟩,az _,rfl⟩
 | r2 n e=>
  rw [rV rfl];have hl:(z.gone.length:Int)+1 < th:=by
   rw [hd] at jl;simp [Sub.cH] at jl;omega
  have e2:Sub.stp th z (.r2 n e) (((Sub.r2 n e).acc s).res m)= .ret .un { z.got with gone:=z.gone++[(n,e)] }:=by
   show (if _ then _ else _)=_
   rw [if_pos hl]
  rw [e2];refine ⟨h.bP (s:=s) (c:=.era) trivial _,Env.bP h (c:=.era) trivial _,⟨trivial,hz,ho,?_⟩,az _,rfl⟩;show g.dd s=(z.gone++[(n,e)]).map (·.1)++p0;rw [hd];simp [Sub.cH]
end
end Go.Proofs.YtikdaeddbkopeaaGreatR
