/- A part of the proof. -/
import Derived.Outline
import Derived.Deep.RegionWith
import Derived.Deep.Cut
import Derived.Deep.RegionHeld
import Derived.Maps.AppendAt
import Derived.OwnWalk
import Derived.Great.BuildSlice
import Derived.Deep.AppendLies
import Derived.WideShapes
import Derived.WalkKit
import Derived.WalkSpells
import Derived.WalkLawsBesides
import Derived.Deep.RegionHeld3
import Derived.Deep.DrawnRows
import Derived.Deep.DeepMust
import Derived.Deep.QuietTactic
import Derived.BigQuiet
import Derived.Test.YtikdaeddbkopeaaGreatRV1
set_option linter.unusedVariables false
set_option linter.unusedSimpArgs false
set_option maxRecDepth 100000
set_option maxHeartbeats 16000000
open And renaming intro → au
open Array renaming getElem?_eq_some_iff → bE
open Bool renaming and_eq_true → dq
open Go renaming execOp → Av, setRow_heap → Cm, Program → Cn, wpList_store_rowTo → aK, wpList_load_row → aL, wp_at_zero → aV, wp_at_succ → aW, bodyPost_ret → aX, TypeId → bR, run_loadVar_row → be, loadVar → dr, Ending → lb, maxLen → nu, wpAnyH_ready → qw, results → qx
open Go.Ending renaming returned → ai
open Go.Instr renaming field → uP, sureAddr → xG
open Go.IntKind renaming i64 → ab
open Go.IntWalk renaming i64_in → cV
open Go.Lib renaming hid → ar
open Go.Obj renaming cells → ag
open Go.Proofs.Tryz renaming underlying34 → aJ, prog → aw
open Go.Region renaming wanted → Eg, ready → qy
open Go.Result renaming andThen_ok → bQ
open Go.RowKit.Below renaming heap_setCell → pM
open Go.Sem renaming run_bind → di, run_pure → dx
open Go.Value renaming oneCell' → aD, int → aa, pointer → ae, slice → af
open Go.WideShapes renaming add_plain → fV
open Go.World.ownsRow renaming cellAt → jj
open List renaming getElem?_eq_some_iff → a8, setIfInBounds_toArray → aj, set_cons_zero → ak, set_cons_succ → al, getElem_cons_zero → an, getElem_cons_succ → ao, getElem_toArray → aq, mem_cons → bD, all_eq_true → dM, mem_singleton → eN, take_add_one → j7, mem_cons_of_mem → jk, range → xF
open Nat renaming le_trans → aQ, le_refl → az, lt_of_lt_of_le → bg, zero_add → eE, le_succ → uO
open Or renaming inl → jL
namespace Go.Proofs.YtikdaeddbkopeaaGreatR
open Go.RowKit
attribute [local go_sem ↓] aV aW
theorem eT {a w:World} (h:Below a.heap.size a w) {g:Nat} (hg:a.heap.size<=g) (cs:Array Value):Below a.heap.size a (w.setRow g cs):=
 ⟨h.os,h.tape,h.output,by simpa using h.size,fun k hk=>(setRow_other w g k cs zO).trans (h.block k hk)⟩
theorem results_cell_tmp {P:Cn} {fn:Func} {p t:Tmp} {ty:bR} (h:fn.results=#[.cell p ty,.tmp t]) (tmps:Array Value) (w:World) (g:Nat) (t':bR) (cs:Array Value) (fr:Nat × Nat) (d:TypeDesc)
  (v:Value) (hp:tmps.getD p undef=ae (some ⟨g,0,none⟩)) (hv:tmps.getD t undef=v) (hg:w.heap[g]? =some (ag cs t' fr))
  (hu:P.underlying ty=some d) (hd:(match d with | .struct _ | .array _ _=>true | _=>false)=true) (hi:(P.info? ty).map (·.size)=some cs.size):
  (qx fn tmps).run P w= .ok (.tuple #[.agg cs,v]) w:=by
 subst hv;have uK:tmps[p]?.getD undef=ae (some ⟨g,0,none⟩):=by simpa using hp
 simp [qx,h,uK,asAddr,be w g t' ty cs fr d hg hu hd hi]
structure Upd (g:Nat) (w w':World):Prop where
 ay:∀ g' t cs,g'≠g->Bk w g' t cs->Bk w' g' t cs
 below:∀ a:World,a.heap.size<=g->Below a.heap.size a w->Below a.heap.size a w'
 size:w'.heap.size=w.heap.size
theorem Upd.set (w:World) (g i:Nat) (u:Value):Upd g w (w.setCell ⟨g,i,none⟩ u):=
 ⟨fun _ _ _ h k=>k.other h u,fun _ h hb=>hb.setCell h u,zS⟩
def OQ (g:Nat) (a a':Int) (w:World) (e:lb) (w':World):Prop:=e=ai (aa ab a)/\Bk w' g 3 #[aa ab a']/\Upd g w w'
theorem fX (m e a a':Int) (g:Nat) (w:World) (k:Bk w g 3 #[aa ab a]) (h:a+m * e=a') (ha:0<=a) (ha':a'<=1000000000) (hm:0<=m * e):
  Calls aw 65 #[aa ab m,aa ab e,ae (some ⟨g,0,none⟩)] w (OQ g a a' w):=by
 have c0:=k.cell 0;simp at c0;have f0:=k.free 0;have s1:=k.stored 0 (aa ab a');obtain ⟨p,hp⟩:∃ p,p=m * e:=⟨_,rfl⟩;have hmul:IntKind.i64.wrap (m * e)=p:=by rw [<- hp];exact cV _ zO
 have hp0:0<=p:=zO;have eP:p<=1000000000:=zO;have hadd:IntKind.i64.wrap (a+p)=a':=by rw [hp,h];exact cV _ zO
 have HK:=ar (au k s1);have H1:=ar (au hp h);clear k s1 hp h hm;go_enter Tryz.func65,Tryz.ntmps65
 go_wp2
 go_ret
 refine ⟨rfl,?_,?_⟩
 ·have:=HK.out.2;simp at this
  first | exact this | (rw [<- H1.out.2,<- H1.out.1] at this;exact this)
 ·exact Upd.set _ _ _ _
def Ad (c:Cf):Ly:=
 let r:=4+8 * c.aM+c.aM * qi (jq c.tasks)
 let ce:=r+c.tasks * 4
 let m:=ce+c.cells
 let s:=m+c.maps * (2+c.buckets)
 let ch:=s+c.stacks * (1+c.slots)
 let nd:=ch+c.chans * 2
 ⟨c,0,1,2,3,4,4+c.aM,4+2 * c.aM,4+5 * c.aM,4+8 * c.aM,r,ce,m,s,ch,nd,nd+c.nodes * 8⟩
def Cf.can (c:Cf):Prop:=c.may/\c.maps+c.chans<=c.nodes/\c.nodes<=1000
theorem AH (t:Int):1<=jq t/\jq t<=5:=by
 unfold jq
 repeat' split
 all_goals omega
theorem LS (t:Int):0<=qi t/\qi t<=252:=by
 unfold qi
 repeat' split
 all_goals omega
structure LyOk (c:Cf) (l:Ly):Prop where
 owner:4+c.aM * 1=l.owner
 resv:l.owner+c.aM * 1=l.resv
 deque:l.resv+c.aM * 3=l.deque
 ring:l.deque+c.aM * 3=l.ring
 task:l.ring+c.aM * qi (jq c.tasks)=l.task
 cell:l.task+c.tasks * 4=l.cell
 map:l.cell+c.cells * 1=l.map
 stack:l.map+c.maps * (2+c.buckets)=l.stack
 chan:l.stack+c.stacks * (1+c.slots)=l.chan
 node:l.chan+c.chans * 2=l.node
 size:l.node+c.nodes * 8=l.size
 b0:5<=l.owner/\l.owner<=l.resv/\l.resv<=l.deque/\l.deque<=l.ring/\l.ring<=l.task/\l.task<=l.cell/\l.cell<=l.map/\l.map<=l.stack/\l.stack<=l.chan/\l.chan<=l.node/\l.node<=l.size/\l.size<=1000000
 m0:0<=c.aM * qi (jq c.tasks)
 m1:0<=c.maps * (2+c.buckets)
 m2:0<=c.stacks * (1+c.slots)
theorem By (a b A B:Int) (h0:0<=a) (h1:a<=A) (h2:0<=b) (h3:b<=B):0<=a * b/\a * b<=A * B:=
 ⟨Int.mul_nonneg h0 h2,Int.mul_le_mul h1 h3 h2 zO⟩
theorem J1 (c:Cf) (h:c.can):LyOk c (Ad c):=by
 obtain ⟨⟨hr,_⟩,h1,h2⟩:=h;have r0:1<=c.aM/\c.aM<=8:=hr 0 zO;have r1:1<=c.buckets/\c.buckets<=64:=hr 1 zO;have r2:1<=c.slots/\c.slots<=8:=hr 2 zO;have r3:1<=c.tasks/\c.tasks<=64:=hr 3 zO;have r4:0<=c.cells/\c.cells<=16:=hr 4 zO;have r5:0<=c.maps/\c.maps<=8:=hr 5 zO;have r6:0<=c.stacks/\c.stacks<=8:=hr 6 zO;have r7:0<=c.chans/\c.chans<=8:=hr 7 zO;have q:=LS (jq c.tasks);have m0:=By c.aM (qi (jq c.tasks)) 8 252 zO zO zO zO;have m1:=By c.maps (2+c.buckets) 8 66 zO zO zO zO;have m2:=By c.stacks (1+c.slots) 8 9 zO zO zO zO
 constructor
 all_goals first
  | exact m0.1
  | exact m1.1
  | exact m2.1
  | (simp only [Ad];done)
  | (simp only [Ad];omega)
  | (unfold Ad;dsimp only;omega)
abbrev Bc:Ly:=⟨⟨0,0,0,0,0,0,0,0,0⟩,0,0,0,0,0,0,0,0,0,0,0,0,0,0,0,0⟩
def OR (l:Ly) (er:Int) (w:World) (e:lb) (w':World):Prop:=e=ai (.tuple #[lyV l,aa ab er])/\Below w.heap.size w w'
theorem of_ok (c:Cf) (w:World) (hc:c.can):Calls aw 41 #[cfV c] w (OR (Ad c) 0 w):=by
 have hl:=J1 c hc;obtain ⟨l,hle⟩:∃ l,l=Ad c:=⟨_,rfl⟩;rw [<- hle] at hl ⊢;have HLE:=ar hle;have HL:=ar hl;obtain ⟨b0,b1,b2,b3,b4,b5,b6,b7,b8,b9,D2,Jy⟩:=hl.b0;clear hl hle;obtain ⟨hm,n1,n2⟩:=hc;have r0:1<=c.aM/\c.aM<=8:=hm.1 0 zO;have r1:1<=c.buckets/\c.buckets<=64:=hm.1 1 zO;have r2:1<=c.slots/\c.slots<=8:=hm.1 2 zO;have r3:1<=c.tasks/\c.tasks<=64:=hm.1 3 zO;have r4:0<=c.cells/\c.cells<=16:=hm.1 4 zO;have r5:0<=c.maps/\c.maps<=8:=hm.1 5 zO;have r6:0<=c.stacks/\c.stacks<=8:=hm.1 6 zO;have r7:0<=c.chans/\c.chans<=8:=hm.1 7 zO;have HM:=ar hm;clear hm;have d1:decide (c.nodes < c.maps+c.chans)=false:=by simp;omega
 have d2:decide (1000 < c.nodes)=false:=by simp;omega
 go_enter Tryz.func41,Tryz.ntmps41
 go_wp2_with fail
 (with_reducible refine (DX c _).mono ?_)
 rintro e w1 ⟨bb,rfl,ey,hb⟩;obtain rfl:bb=true:=ey.2 HM.out;clear ey;have k0:=((Bk.made w 32 (cfC c)).alloc (ag (lyC Bc) 34)).ay hb;have k1:=(Bk.new (w.alloc (ag (cfC c) 32)) (g:=w.heap.size+1) zS 34 (lyC Bc)).ay hb;have bz:=aF (aB (aB (Below.refl w.heap.size w) (ag (cfC c) 32)) (ag (lyC Bc) 34)) hb;have hg:w.heap.size+1 < w1.heap.size:=k1.lt;have N6:w.heap.size < w1.heap.size:=k0.lt;clear hb;have q0:=k0.cell 0;have q1:=k0.cell 1;have q2:=k0.cell 2;have q3:=k0.cell 3;have q4:=k0.cell 4;have q5:=k0.cell 5;have q6:=k0.cell 6;have q7:=k0.cell 7;have q8:=k0.cell 8;simp at q0 q1 q2 q3 q4 q5 q6 q7 q8
 go_wp2_with (refine dJ rfl 34 (.tmp 6) (.tmp 28) rfl rfl (w1.heap.size+1) _ _ (lyC ⟨c,0,0,0,0,0,0,0,0,0,0,0,0,0,0,0,0⟩) rfl zS rfl rfl zK rfl (by simp [aD]) ?_)
 have k2:=(Bk.made w1 3 #[aa ab 0]).alloc (ag (lyC ⟨c,0,0,0,0,0,0,0,0,0,0,0,0,0,0,0,0⟩) 34);have k3:=Bk.new (w1.alloc (ag #[aa ab 0] 3)) (g:=w1.heap.size+1) zS 34 (lyC ⟨c,0,0,0,0,0,0,0,0,0,0,0,0,0,0,0,0⟩);replace k0:=(k0.alloc (ag #[aa ab 0] 3)).alloc (ag (lyC ⟨c,0,0,0,0,0,0,0,0,0,0,0,0,0,0,0,0⟩) 34);replace k1:=(k1.alloc (ag #[aa ab 0] 3)).alloc (ag (lyC ⟨c,0,0,0,0,0,0,0,0,0,0,0,0,0,0,0,0⟩) 34);replace bz:=aB (aB bz (ag #[aa ab 0] 3)) (ag (lyC ⟨c,0,0,0,0,0,0,0,0,0,0,0,0,0,0,0,0⟩) 34);clear q0 q1 q2 q3 q4 q5 q6 q7 q8;generalize ((w1.alloc (ag #[aa ab 0] 3)).alloc (ag (lyC ⟨c,0,0,0,0,0,0,0,0,0,0,0,0,0,0,0,0⟩) 34))=v at *;generalize w1.heap.size=g at *;clear w1;have q0:=k0.cell 0;have q1:=k0.cell 1;have q2:=k0.cell 2;have q3:=k0.cell 3;have q4:=k0.cell 4;have q5:=k0.cell 5;have q6:=k0.cell 6;have q7:=k0.cell 7;have q8:=k0.cell 8;have t0:=k3.cell 9;have t1:=k3.free 9;have t2:=k2.cell 0;simp at q0 q1 q2 q3 q4 q5 q6 q7 q8 t0 t2
 (with_reducible refine (fX 1 1 0 1 g _ k2 zO zO zO zO).mono ?_)
 rintro e v' ⟨rfl,nB,up⟩;replace k0:=up.ay _ _ _ zO k0;replace k1:=up.ay _ _ _ zO k1;replace k3:=up.ay _ _ _ zO k3;replace bz:=up.below _ zO bz;replace k2:=nB;clear up nB q0 q1 q2 q3 q4 q5 q6 q7 q8 t0 t1 t2 v;have q0:=k0.cell 0;have q1:=k0.cell 1;have q2:=k0.cell 2;have q3:=k0.cell 3;have q4:=k0.cell 4;have q5:=k0.cell 5;have q6:=k0.cell 6;have q7:=k0.cell 7;have q8:=k0.cell 8;have t0:=k3.cell 9;have t1:=k3.free 9;have t2:=k2.cell 0;simp at q0 q1 q2 q3 q4 q5 q6 q7 q8 t0 t2
 go_wp2_with fail
 replace k0:=k0.other (p:=⟨g+1,9,none⟩) zP (aa ab 0);replace k1:=k1.other (p:=⟨g+1,9,none⟩) zP (aa ab 0);replace k2:=k2.other (p:=⟨g+1,9,none⟩) zS (aa ab 0);replace k3:=k3.stored 9 (aa ab 0);replace k3:Bk _ _ _ (lyC ⟨c,0,0,0,0,0,0,0,0,0,0,0,0,0,0,0,0⟩):=k3;replace bz:=bK bz (p:=⟨g+1,9,none⟩) zP (aa ab 0);clear q0 q1 q2 q3 q4 q5 q6 q7 q8 t0 t1 t2;generalize (v'.setCell ⟨g+1,9,none⟩ (aa ab 0))=v at *;clear v';have q0:=k0.cell 0;have q1:=k0.cell 1;have q2:=k0.cell 2;have q3:=k0.cell 3;have q4:=k0.cell 4;have q5:=k0.cell 5;have q6:=k0.cell 6;have q7:=k0.cell 7;have q8:=k0.cell 8;have t0:=k3.cell 10;have t1:=k3.free 10;have t2:=k2.cell 0;simp at q0 q1 q2 q3 q4 q5 q6 q7 q8 t0 t2
 (with_reducible refine (fX 1 1 1 2 g _ k2 zO zO zO zO).mono ?_)
 rintro e v' ⟨rfl,nB,up⟩;replace k0:=up.ay _ _ _ zO k0;replace k1:=up.ay _ _ _ zO k1;replace k3:=up.ay _ _ _ zO k3;replace bz:=up.below _ zO bz;replace k2:=nB;clear up nB q0 q1 q2 q3 q4 q5 q6 q7 q8 t0 t1 t2 v;have q0:=k0.cell 0;have q1:=k0.cell 1;have q2:=k0.cell 2;have q3:=k0.cell 3;have q4:=k0.cell 4;have q5:=k0.cell 5;have q6:=k0.cell 6;have q7:=k0.cell 7;have q8:=k0.cell 8;have t0:=k3.cell 10;have t1:=k3.free 10;have t2:=k2.cell 0;simp at q0 q1 q2 q3 q4 q5 q6 q7 q8 t0 t2
 go_wp2_with fail
 replace k0:=k0.other (p:=⟨g+1,10,none⟩) zP (aa ab 1);replace k1:=k1.other (p:=⟨g+1,10,none⟩) zP (aa ab 1);replace k2:=k2.other (p:=⟨g+1,10,none⟩) zS (aa ab 1);replace k3:=k3.stored 10 (aa ab 1);replace k3:Bk _ _ _ (lyC ⟨c,0,1,0,0,0,0,0,0,0,0,0,0,0,0,0,0⟩):=k3;replace bz:=bK bz (p:=⟨g+1,10,none⟩) zP (aa ab 1);clear q0 q1 q2 q3 q4 q5 q6 q7 q8 t0 t1 t2;generalize (v'.setCell ⟨g+1,10,none⟩ (aa ab 1))=v at *;clear v';have q0:=k0.cell 0;have q1:=k0.cell 1;have q2:=k0.cell 2;have q3:=k0.cell 3;have q4:=k0.cell 4;have q5:=k0.cell 5;have q6:=k0.cell 6;have q7:=k0.cell 7;have q8:=k0.cell 8;have t0:=k3.cell 11;have t1:=k3.free 11;have t2:=k2.cell 0;simp at q0 q1 q2 q3 q4 q5 q6 q7 q8 t0 t2
 (with_reducible refine (fX 1 1 2 3 g _ k2 zO zO zO zO).mono ?_)
 rintro e v' ⟨rfl,nB,up⟩;replace k0:=up.ay _ _ _ zO k0;replace k1:=up.ay _ _ _ zO k1;replace k3:=up.ay _ _ _ zO k3;replace bz:=up.below _ zO bz;replace k2:=nB;clear up nB q0 q1 q2 q3 q4 q5 q6 q7 q8 t0 t1 t2 v;have q0:=k0.cell 0;have q1:=k0.cell 1;have q2:=k0.cell 2;have q3:=k0.cell 3;have q4:=k0.cell 4;have q5:=k0.cell 5;have q6:=k0.cell 6;have q7:=k0.cell 7;have q8:=k0.cell 8;have t0:=k3.cell 11;have t1:=k3.free 11;have t2:=k2.cell 0;simp at q0 q1 q2 q3 q4 q5 q6 q7 q8 t0 t2
 go_wp2_with fail
 replace k0:=k0.other (p:=⟨g+1,11,none⟩) zP (aa ab 2);replace k1:=k1.other (p:=⟨g+1,11,none⟩) zP (aa ab 2);replace k2:=k2.other (p:=⟨g+1,11,none⟩) zS (aa ab 2);replace k3:=k3.stored 11 (aa ab 2);replace k3:Bk _ _ _ (lyC ⟨c,0,1,2,0,0,0,0,0,0,0,0,0,0,0,0,0⟩):=k3;replace bz:=bK bz (p:=⟨g+1,11,none⟩) zP (aa ab 2);clear q0 q1 q2 q3 q4 q5 q6 q7 q8 t0 t1 t2;generalize (v'.setCell ⟨g+1,11,none⟩ (aa ab 2))=v at *;clear v';have q0:=k0.cell 0;have q1:=k0.cell 1;have q2:=k0.cell 2;have q3:=k0.cell 3;have q4:=k0.cell 4;have q5:=k0.cell 5;have q6:=k0.cell 6;have q7:=k0.cell 7;have q8:=k0.cell 8;have t0:=k3.cell 12;have t1:=k3.free 12;have t2:=k2.cell 0;simp at q0 q1 q2 q3 q4 q5 q6 q7 q8 t0 t2
 (with_reducible refine (fX 1 1 3 4 g _ k2 zO zO zO zO).mono ?_)
 rintro e v' ⟨rfl,nB,up⟩;replace k0:=up.ay _ _ _ zO k0;replace k1:=up.ay _ _ _ zO k1;replace k3:=up.ay _ _ _ zO k3;replace bz:=up.below _ zO bz;replace k2:=nB;clear up nB q0 q1 q2 q3 q4 q5 q6 q7 q8 t0 t1 t2 v;have q0:=k0.cell 0;have q1:=k0.cell 1;have q2:=k0.cell 2;have q3:=k0.cell 3;have q4:=k0.cell 4;have q5:=k0.cell 5;have q6:=k0.cell 6;have q7:=k0.cell 7;have q8:=k0.cell 8;have t0:=k3.cell 12;have t1:=k3.free 12;have t2:=k2.cell 0;simp at q0 q1 q2 q3 q4 q5 q6 q7 q8 t0 t2
 go_wp2_with fail
 replace k0:=k0.other (p:=⟨g+1,12,none⟩) zP (aa ab 3);replace k1:=k1.other (p:=⟨g+1,12,none⟩) zP (aa ab 3);replace k2:=k2.other (p:=⟨g+1,12,none⟩) zS (aa ab 3);replace k3:=k3.stored 12 (aa ab 3);replace k3:Bk _ _ _ (lyC ⟨c,0,1,2,3,0,0,0,0,0,0,0,0,0,0,0,0⟩):=k3;replace bz:=bK bz (p:=⟨g+1,12,none⟩) zP (aa ab 3);clear q0 q1 q2 q3 q4 q5 q6 q7 q8 t0 t1 t2;generalize (v'.setCell ⟨g+1,12,none⟩ (aa ab 3))=v at *;clear v';have q0:=k0.cell 0;have q1:=k0.cell 1;have q2:=k0.cell 2;have q3:=k0.cell 3;have q4:=k0.cell 4;have q5:=k0.cell 5;have q6:=k0.cell 6;have q7:=k0.cell 7;have q8:=k0.cell 8;have t0:=k3.cell 13;have t1:=k3.free 13;have t2:=k2.cell 0;simp at q0 q1 q2 q3 q4 q5 q6 q7 q8 t0 t2
 (with_reducible refine (fX c.aM 1 4 l.owner g _ k2 HL.out.owner zO zO zO).mono ?_)
 rintro e v' ⟨rfl,nB,up⟩;replace k0:=up.ay _ _ _ zO k0;replace k1:=up.ay _ _ _ zO k1;replace k3:=up.ay _ _ _ zO k3;replace bz:=up.below _ zO bz;replace k2:=nB;clear up nB q0 q1 q2 q3 q4 q5 q6 q7 q8 t0 t1 t2 v;have q0:=k0.cell 0;have q1:=k0.cell 1;have q2:=k0.cell 2;have q3:=k0.cell 3;have q4:=k0.cell 4;have q5:=k0.cell 5;have q6:=k0.cell 6;have q7:=k0.cell 7;have q8:=k0.cell 8;have t0:=k3.cell 13;have t1:=k3.free 13;have t2:=k2.cell 0;simp at q0 q1 q2 q3 q4 q5 q6 q7 q8 t0 t2
 go_wp2_with fail
 replace k0:=k0.other (p:=⟨g+1,13,none⟩) zP (aa ab 4);replace k1:=k1.other (p:=⟨g+1,13,none⟩) zP (aa ab 4);replace k2:=k2.other (p:=⟨g+1,13,none⟩) zS (aa ab 4);replace k3:=k3.stored 13 (aa ab 4);replace k3:Bk _ _ _ (lyC ⟨c,0,1,2,3,4,0,0,0,0,0,0,0,0,0,0,0⟩):=k3;replace bz:=bK bz (p:=⟨g+1,13,none⟩) zP (aa ab 4);clear q0 q1 q2 q3 q4 q5 q6 q7 q8 t0 t1 t2;generalize (v'.setCell ⟨g+1,13,none⟩ (aa ab 4))=v at *;clear v';have q0:=k0.cell 0;have q1:=k0.cell 1;have q2:=k0.cell 2;have q3:=k0.cell 3;have q4:=k0.cell 4;have q5:=k0.cell 5;have q6:=k0.cell 6;have q7:=k0.cell 7;have q8:=k0.cell 8;have t0:=k3.cell 14;have t1:=k3.free 14;have t2:=k2.cell 0;simp at q0 q1 q2 q3 q4 q5 q6 q7 q8 t0 t2
 (with_reducible refine (fX c.aM 1 l.owner l.resv g _ k2 HL.out.resv zO zO zO).mono ?_)
 rintro e v' ⟨rfl,nB,up⟩;replace k0:=up.ay _ _ _ zO k0;replace k1:=up.ay _ _ _ zO k1;replace k3:=up.ay _ _ _ zO k3;replace bz:=up.below _ zO bz;replace k2:=nB;clear up nB q0 q1 q2 q3 q4 q5 q6 q7 q8 t0 t1 t2 v;have q0:=k0.cell 0;have q1:=k0.cell 1;have q2:=k0.cell 2;have q3:=k0.cell 3;have q4:=k0.cell 4;have q5:=k0.cell 5;have q6:=k0.cell 6;have q7:=k0.cell 7;have q8:=k0.cell 8;have t0:=k3.cell 14;have t1:=k3.free 14;have t2:=k2.cell 0;simp at q0 q1 q2 q3 q4 q5 q6 q7 q8 t0 t2
 go_wp2_with fail
 replace k0:=k0.other (p:=⟨g+1,14,none⟩) zP (aa ab l.owner);replace k1:=k1.other (p:=⟨g+1,14,none⟩) zP (aa ab l.owner);replace k2:=k2.other (p:=⟨g+1,14,none⟩) zS (aa ab l.owner);replace k3:=k3.stored 14 (aa ab l.owner);replace k3:Bk _ _ _ (lyC ⟨c,0,1,2,3,4,l.owner,0,0,0,0,0,0,0,0,0,0⟩):=k3;replace bz:=bK bz (p:=⟨g+1,14,none⟩) zP (aa ab l.owner);clear q0 q1 q2 q3 q4 q5 q6 q7 q8 t0 t1 t2;generalize (v'.setCell ⟨g+1,14,none⟩ (aa ab l.owner))=v at *;clear v';have q0:=k0.cell 0;have q1:=k0.cell 1;have q2:=k0.cell 2;have q3:=k0.cell 3;have q4:=k0.cell 4;have q5:=k0.cell 5;have q6:=k0.cell 6;have q7:=k0.cell 7;have q8:=k0.cell 8;have t0:=k3.cell 15;have t1:=k3.free 15;have t2:=k2.cell 0;simp at q0 q1 q2 q3 q4 q5 q6 q7 q8 t0 t2
 (with_reducible refine (fX c.aM 3 l.resv l.deque g _ k2 HL.out.deque zO zO zO).mono ?_)
 rintro e v' ⟨rfl,nB,up⟩;replace k0:=up.ay _ _ _ zO k0;replace k1:=up.ay _ _ _ zO k1;replace k3:=up.ay _ _ _ zO k3;replace bz:=up.below _ zO bz;replace k2:=nB;clear up nB q0 q1 q2 q3 q4 q5 q6 q7 q8 t0 t1 t2 v;have q0:=k0.cell 0;have q1:=k0.cell 1;have q2:=k0.cell 2;have q3:=k0.cell 3;have q4:=k0.cell 4;have q5:=k0.cell 5;have q6:=k0.cell 6;have q7:=k0.cell 7;have q8:=k0.cell 8;have t0:=k3.cell 15;have t1:=k3.free 15;have t2:=k2.cell 0;simp at q0 q1 q2 q3 q4 q5 q6 q7 q8 t0 t2
 go_wp2_with fail
 replace k0:=k0.other (p:=⟨g+1,15,none⟩) zP (aa ab l.resv);replace k1:=k1.other (p:=⟨g+1,15,none⟩) zP (aa ab l.resv);replace k2:=k2.other (p:=⟨g+1,15,none⟩) zS (aa ab l.resv);replace k3:=k3.stored 15 (aa ab l.resv);replace k3:Bk _ _ _ (lyC ⟨c,0,1,2,3,4,l.owner,l.resv,0,0,0,0,0,0,0,0,0⟩):=k3;replace bz:=bK bz (p:=⟨g+1,15,none⟩) zP (aa ab l.resv);clear q0 q1 q2 q3 q4 q5 q6 q7 q8 t0 t1 t2;generalize (v'.setCell ⟨g+1,15,none⟩ (aa ab l.resv))=v at *;clear v';have q0:=k0.cell 0;have q1:=k0.cell 1;have q2:=k0.cell 2;have q3:=k0.cell 3;have q4:=k0.cell 4;have q5:=k0.cell 5;have q6:=k0.cell 6;have q7:=k0.cell 7;have q8:=k0.cell 8;have t0:=k3.cell 16;have t1:=k3.free 16;have t2:=k2.cell 0;simp at q0 q1 q2 q3 q4 q5 q6 q7 q8 t0 t2
 (with_reducible refine (fX c.aM 3 l.deque l.ring g _ k2 HL.out.ring zO zO zO).mono ?_)
 rintro e v' ⟨rfl,nB,up⟩;replace k0:=up.ay _ _ _ zO k0;replace k1:=up.ay _ _ _ zO k1;replace k3:=up.ay _ _ _ zO k3;replace bz:=up.below _ zO bz;replace k2:=nB;clear up nB q0 q1 q2 q3 q4 q5 q6 q7 q8 t0 t1 t2 v;have q0:=k0.cell 0;have q1:=k0.cell 1;have q2:=k0.cell 2;have q3:=k0.cell 3;have q4:=k0.cell 4;have q5:=k0.cell 5;have q6:=k0.cell 6;have q7:=k0.cell 7;have q8:=k0.cell 8;have t0:=k3.cell 16;have t1:=k3.free 16;have t2:=k2.cell 0;simp at q0 q1 q2 q3 q4 q5 q6 q7 q8 t0 t2
 go_wp2_with fail
 replace k0:=k0.other (p:=⟨g+1,16,none⟩) zP (aa ab l.deque);replace k1:=k1.other (p:=⟨g+1,16,none⟩) zP (aa ab l.deque);replace k2:=k2.other (p:=⟨g+1,16,none⟩) zS (aa ab l.deque);replace k3:=k3.stored 16 (aa ab l.deque);replace k3:Bk _ _ _ (lyC ⟨c,0,1,2,3,4,l.owner,l.resv,l.deque,0,0,0,0,0,0,0,0⟩):=k3;replace bz:=bK bz (p:=⟨g+1,16,none⟩) zP (aa ab l.deque);clear q0 q1 q2 q3 q4 q5 q6 q7 q8 t0 t1 t2;generalize (v'.setCell ⟨g+1,16,none⟩ (aa ab l.deque))=v at *;clear v';refine wp_region_held_drew (S:=fun w'=>Bk w' w.heap.size 32 (cfC c)) zK k0.drew (fun uu=>?_)
 replace k0:=k0.drew;replace k1:=k1.drew;replace k2:=k2.drew;replace k3:=k3.drew;replace bz:=bz.drew;generalize v.drew=v2 at *;clear v;refine wpAnyH_take (i:=0) (oi:=_) (v:=.func (.func 65) #[] #[ae (some ⟨g,0,none⟩)]) rfl zK zK zK (fun _ _ _ h=>h) (jL ⟨by rfl,?_⟩) k0 ?_
 ·intro w' hSw;go_simp
 simp only [aq,an,Act.put,aj,ak,al];refine wpAnyH_take (i:=1) (oi:=_) (v:=ae (some ⟨w.heap.size,0,none⟩)) rfl zK zK zK (fun _ _ _ h=>h) (jL ⟨by rfl,?_⟩) k0 ?_
 ·intro w' hSw;go_simp
 simp only [aq,ao,an,Act.put,aj,ak,al];refine wpAnyH_take (i:=2) (oi:=_) (v:=aa ab c.aM) rfl zK zK zK (fun _ _ _ h=>h) (jL ⟨by rfl,?_⟩) k0 ?_
 ·intro w' hSw;have q0:=hSw.cell 0;simp at q0;go_simp
 simp only [aq,ao,an,Act.put,aj,ak,al];refine qw (rs:=[3]) zK zS ?_;refine AllReadyH.cons (o:=_) rfl (fun K hK=>?_) AllReadyH.nil
 rw [if_pos (by rfl)]
 refine wp_load_row 34 (.tmp 6) rfl (g+1) rfl 34 (lyC ⟨c,0,1,2,3,4,l.owner,l.resv,l.deque,0,0,0,0,0,0,0,0⟩) (0,0) _ k3 aJ rfl zK ?_;refine hK.out _ _ k0 (fun ru=>?_)
 clear ru hK K
 (try simp only [aq,ao,an,Act.put,aj,ak,al])
 refine qw (rs:=[4]) zK zS ?_;refine AllReadyH.cons (o:=_) rfl (fun K hK=>?_) AllReadyH.nil
 (try simp only [aq,ao,an])
 go_simp
 (with_reducible refine (KP ⟨c,0,1,2,3,4,l.owner,l.resv,l.deque,0,0,0,0,0,0,0,0⟩ _ r3.1 r3.2).mono ?_)
 rintro e v3 ⟨rfl,hb⟩;replace k0:=k0.ay hb;replace k1:=k1.ay hb;replace k2:=k2.ay hb;replace k3:=k3.ay hb;replace bz:=aF bz hb;refine hK.out _ _ k0 (fun ru=>?_)
 clear ru hK K hb uu
 (try simp only [])
 refine qw (rs:=[5]) zK zS ?_;refine AllReadyH.cons (o:=_) rfl (fun K hK=>?_) AllReadyH.nil
 (try simp only [aq,ao,an])
 go_simp
 (with_reducible refine (LR (jq c.tasks) _ (by have:=AH c.tasks;omega) (by have:=AH c.tasks;omega)).mono ?_)
 rintro e v4 ⟨rfl,rfl⟩;refine hK.out _ _ k0 (fun ru=>?_)
 clear ru hK K
 (try simp only [aq,ao,an,Act.put,aj,ak,al])
 refine qw (rs:=[6]) zK zS ?_;refine AllReadyH.cons (o:=_) rfl (fun K hK=>?_) AllReadyH.nil
 (try simp only [aq,ao,an])
 go_simp
 (with_reducible refine (fX c.aM (qi (jq c.tasks)) l.ring l.task g _ k2 HL.out.task zO zO HL.out.m0).mono ?_)
 rintro e v' ⟨rfl,nB,up⟩;replace k0:=up.ay _ _ _ zO k0;replace k1:=up.ay _ _ _ zO k1;replace k3:=up.ay _ _ _ zO k3;replace bz:=up.below _ zO bz;replace k2:=nB;refine hK.out _ _ k0 (fun ru=>?_)
 clear ru hK K up nB
 (try simp only [aq,ao,an,Act.put,aj,ak,al])
 refine qw (rs:=[7]) zK zS ?_;refine AllReadyH.cons (o:=_) rfl (fun K hK=>?_) AllReadyH.nil
 (try simp only [aq,ao,an])
 go_simp;refine hK.out _ _ k0 (fun ru=>?_)
 clear ru hK K
 (try simp only [aq,ao,an,Act.put,aj,ak,al])
 have q0:=k0.cell 0;have q1:=k0.cell 1;have q2:=k0.cell 2;have q3:=k0.cell 3;have q4:=k0.cell 4;have q5:=k0.cell 5;have q6:=k0.cell 6;have q7:=k0.cell 7;have q8:=k0.cell 8;have t0:=k3.cell 17;have t1:=k3.free 17;have t2:=k2.cell 0;simp at q0 q1 q2 q3 q4 q5 q6 q7 q8 t0 t2;refine qw (rs:=[8]) zK zS ?_;refine AllReadyH.cons (o:=_) rfl (fun K hK=>?_) AllReadyH.nil
 (try simp only [aq,ao,an])
 go_simp;refine hK.out _ _ (k0.other (p:=⟨g+1,17,none⟩) zP _) (fun ru=>?_)
 clear ru hK K
 (try simp only [aq,ao,an,Act.put,aj,ak,al])
 refine wpAnyH_done zK ?_ _
 go_wp2_with fail
 replace k0:=k0.other (p:=⟨g+1,17,none⟩) zP (aa ab l.ring);replace k1:=k1.other (p:=⟨g+1,17,none⟩) zP (aa ab l.ring);replace k2:=k2.other (p:=⟨g+1,17,none⟩) zS (aa ab l.ring);replace k3:=k3.stored 17 (aa ab l.ring);replace k3:Bk _ _ _ (lyC ⟨c,0,1,2,3,4,l.owner,l.resv,l.deque,l.ring,0,0,0,0,0,0,0⟩):=k3;replace bz:=bK bz (p:=⟨g+1,17,none⟩) zP (aa ab l.ring);clear q0 q1 q2 q3 q4 q5 q6 q7 q8 t0 t1 t2;generalize (v'.setCell ⟨g+1,17,none⟩ (aa ab l.ring))=v at *;clear v';have q0:=k0.cell 0;have q1:=k0.cell 1;have q2:=k0.cell 2;have q3:=k0.cell 3;have q4:=k0.cell 4;have q5:=k0.cell 5;have q6:=k0.cell 6;have q7:=k0.cell 7;have q8:=k0.cell 8;have t0:=k3.cell 18;have t1:=k3.free 18;have t2:=k2.cell 0;simp at q0 q1 q2 q3 q4 q5 q6 q7 q8 t0 t2
 (with_reducible refine (fX c.tasks 4 l.task l.cell g _ k2 HL.out.cell zO zO zO).mono ?_)
 rintro e v' ⟨rfl,nB,up⟩;replace k0:=up.ay _ _ _ zO k0;replace k1:=up.ay _ _ _ zO k1;replace k3:=up.ay _ _ _ zO k3;replace bz:=up.below _ zO bz;replace k2:=nB;clear up nB q0 q1 q2 q3 q4 q5 q6 q7 q8 t0 t1 t2 v;have q0:=k0.cell 0;have q1:=k0.cell 1;have q2:=k0.cell 2;have q3:=k0.cell 3;have q4:=k0.cell 4;have q5:=k0.cell 5;have q6:=k0.cell 6;have q7:=k0.cell 7;have q8:=k0.cell 8;have t0:=k3.cell 18;have t1:=k3.free 18;have t2:=k2.cell 0;simp at q0 q1 q2 q3 q4 q5 q6 q7 q8 t0 t2
 go_wp2_with fail
 replace k0:=k0.other (p:=⟨g+1,18,none⟩) zP (aa ab l.task);replace k1:=k1.other (p:=⟨g+1,18,none⟩) zP (aa ab l.task);replace k2:=k2.other (p:=⟨g+1,18,none⟩) zS (aa ab l.task);replace k3:=k3.stored 18 (aa ab l.task);replace k3:Bk _ _ _ (lyC ⟨c,0,1,2,3,4,l.owner,l.resv,l.deque,l.ring,l.task,0,0,0,0,0,0⟩):=k3;replace bz:=bK bz (p:=⟨g+1,18,none⟩) zP (aa ab l.task);clear q0 q1 q2 q3 q4 q5 q6 q7 q8 t0 t1 t2;generalize (v'.setCell ⟨g+1,18,none⟩ (aa ab l.task))=v at *;clear v';have q0:=k0.cell 0;have q1:=k0.cell 1;have q2:=k0.cell 2;have q3:=k0.cell 3;have q4:=k0.cell 4;have q5:=k0.cell 5;have q6:=k0.cell 6;have q7:=k0.cell 7;have q8:=k0.cell 8;have t0:=k3.cell 19;have t1:=k3.free 19;have t2:=k2.cell 0;simp at q0 q1 q2 q3 q4 q5 q6 q7 q8 t0 t2
 (with_reducible refine (fX c.cells 1 l.cell l.map g _ k2 HL.out.map zO zO zO).mono ?_)
 rintro e v' ⟨rfl,nB,up⟩;replace k0:=up.ay _ _ _ zO k0;replace k1:=up.ay _ _ _ zO k1;replace k3:=up.ay _ _ _ zO k3;replace bz:=up.below _ zO bz;replace k2:=nB;clear up nB q0 q1 q2 q3 q4 q5 q6 q7 q8 t0 t1 t2 v;have q0:=k0.cell 0;have q1:=k0.cell 1;have q2:=k0.cell 2;have q3:=k0.cell 3;have q4:=k0.cell 4;have q5:=k0.cell 5;have q6:=k0.cell 6;have q7:=k0.cell 7;have q8:=k0.cell 8;have t0:=k3.cell 19;have t1:=k3.free 19;have t2:=k2.cell 0;simp at q0 q1 q2 q3 q4 q5 q6 q7 q8 t0 t2
 go_wp2_with fail
 replace k0:=k0.other (p:=⟨g+1,19,none⟩) zP (aa ab l.cell);replace k1:=k1.other (p:=⟨g+1,19,none⟩) zP (aa ab l.cell);replace k2:=k2.other (p:=⟨g+1,19,none⟩) zS (aa ab l.cell);replace k3:=k3.stored 19 (aa ab l.cell);replace k3:Bk _ _ _ (lyC ⟨c,0,1,2,3,4,l.owner,l.resv,l.deque,l.ring,l.task,l.cell,0,0,0,0,0⟩):=k3;replace bz:=bK bz (p:=⟨g+1,19,none⟩) zP (aa ab l.cell);clear q0 q1 q2 q3 q4 q5 q6 q7 q8 t0 t1 t2;generalize (v'.setCell ⟨g+1,19,none⟩ (aa ab l.cell))=v at *;clear v';have q0:=k0.cell 0;have q1:=k0.cell 1;have q2:=k0.cell 2;have q3:=k0.cell 3;have q4:=k0.cell 4;have q5:=k0.cell 5;have q6:=k0.cell 6;have q7:=k0.cell 7;have q8:=k0.cell 8;have t0:=k3.cell 20;have t1:=k3.free 20;have t2:=k2.cell 0;simp at q0 q1 q2 q3 q4 q5 q6 q7 q8 t0 t2
 (with_reducible refine (fX c.maps (2+c.buckets) l.map l.stack g _ k2 HL.out.stack zO zO HL.out.m1).mono ?_)
 rintro e v' ⟨rfl,nB,up⟩;replace k0:=up.ay _ _ _ zO k0;replace k1:=up.ay _ _ _ zO k1;replace k3:=up.ay _ _ _ zO k3;replace bz:=up.below _ zO bz;replace k2:=nB;clear up nB q0 q1 q2 q3 q4 q5 q6 q7 q8 t0 t1 t2 v;have q0:=k0.cell 0;have q1:=k0.cell 1;have q2:=k0.cell 2;have q3:=k0.cell 3;have q4:=k0.cell 4;have q5:=k0.cell 5;have q6:=k0.cell 6;have q7:=k0.cell 7;have q8:=k0.cell 8;have t0:=k3.cell 20;have t1:=k3.free 20;have t2:=k2.cell 0;simp at q0 q1 q2 q3 q4 q5 q6 q7 q8 t0 t2
 go_wp2_with fail
 replace k0:=k0.other (p:=⟨g+1,20,none⟩) zP (aa ab l.map);replace k1:=k1.other (p:=⟨g+1,20,none⟩) zP (aa ab l.map);replace k2:=k2.other (p:=⟨g+1,20,none⟩) zS (aa ab l.map);replace k3:=k3.stored 20 (aa ab l.map);replace k3:Bk _ _ _ (lyC ⟨c,0,1,2,3,4,l.owner,l.resv,l.deque,l.ring,l.task,l.cell,l.map,0,0,0,0⟩):=k3;replace bz:=bK bz (p:=⟨g+1,20,none⟩) zP (aa ab l.map);clear q0 q1 q2 q3 q4 q5 q6 q7 q8 t0 t1 t2;generalize (v'.setCell ⟨g+1,20,none⟩ (aa ab l.map))=v at *;clear v';have q0:=k0.cell 0;have q1:=k0.cell 1;have q2:=k0.cell 2;have q3:=k0.cell 3;have q4:=k0.cell 4;have q5:=k0.cell 5;have q6:=k0.cell 6;have q7:=k0.cell 7;have q8:=k0.cell 8;have t0:=k3.cell 21;have t1:=k3.free 21;have t2:=k2.cell 0;simp at q0 q1 q2 q3 q4 q5 q6 q7 q8 t0 t2
 (with_reducible refine (fX c.stacks (1+c.slots) l.stack l.chan g _ k2 HL.out.chan zO zO HL.out.m2).mono ?_)
 rintro e v' ⟨rfl,nB,up⟩;replace k0:=up.ay _ _ _ zO k0;replace k1:=up.ay _ _ _ zO k1;replace k3:=up.ay _ _ _ zO k3;replace bz:=up.below _ zO bz;replace k2:=nB;clear up nB q0 q1 q2 q3 q4 q5 q6 q7 q8 t0 t1 t2 v;have q0:=k0.cell 0;have q1:=k0.cell 1;have q2:=k0.cell 2;have q3:=k0.cell 3;have q4:=k0.cell 4;have q5:=k0.cell 5;have q6:=k0.cell 6;have q7:=k0.cell 7;have q8:=k0.cell 8;have t0:=k3.cell 21;have t1:=k3.free 21;have t2:=k2.cell 0;simp at q0 q1 q2 q3 q4 q5 q6 q7 q8 t0 t2
 go_wp2_with fail
 replace k0:=k0.other (p:=⟨g+1,21,none⟩) zP (aa ab l.stack);replace k1:=k1.other (p:=⟨g+1,21,none⟩) zP (aa ab l.stack);replace k2:=k2.other (p:=⟨g+1,21,none⟩) zS (aa ab l.stack);replace k3:=k3.stored 21 (aa ab l.stack);replace k3:Bk _ _ _ (lyC ⟨c,0,1,2,3,4,l.owner,l.resv,l.deque,l.ring,l.task,l.cell,l.map,l.stack,0,0,0⟩):=k3;replace bz:=bK bz (p:=⟨g+1,21,none⟩) zP (aa ab l.stack);clear q0 q1 q2 q3 q4 q5 q6 q7 q8 t0 t1 t2;generalize (v'.setCell ⟨g+1,21,none⟩ (aa ab l.stack))=v at *;clear v';have q0:=k0.cell 0;have q1:=k0.cell 1;have q2:=k0.cell 2;have q3:=k0.cell 3;have q4:=k0.cell 4;have q5:=k0.cell 5;have q6:=k0.cell 6;have q7:=k0.cell 7;have q8:=k0.cell 8;have t0:=k3.cell 22;have t1:=k3.free 22;have t2:=k2.cell 0;simp at q0 q1 q2 q3 q4 q5 q6 q7 q8 t0 t2
 (with_reducible refine (fX c.chans 2 l.chan l.node g _ k2 HL.out.node zO zO zO).mono ?_)
 rintro e v' ⟨rfl,nB,up⟩;replace k0:=up.ay _ _ _ zO k0;replace k1:=up.ay _ _ _ zO k1;replace k3:=up.ay _ _ _ zO k3;replace bz:=up.below _ zO bz;replace k2:=nB;clear up nB q0 q1 q2 q3 q4 q5 q6 q7 q8 t0 t1 t2 v;have q0:=k0.cell 0;have q1:=k0.cell 1;have q2:=k0.cell 2;have q3:=k0.cell 3;have q4:=k0.cell 4;have q5:=k0.cell 5;have q6:=k0.cell 6;have q7:=k0.cell 7;have q8:=k0.cell 8;have t0:=k3.cell 22;have t1:=k3.free 22;have t2:=k2.cell 0;simp at q0 q1 q2 q3 q4 q5 q6 q7 q8 t0 t2
 go_wp2_with fail
 replace k0:=k0.other (p:=⟨g+1,22,none⟩) zP (aa ab l.chan);replace k1:=k1.other (p:=⟨g+1,22,none⟩) zP (aa ab l.chan);replace k2:=k2.other (p:=⟨g+1,22,none⟩) zS (aa ab l.chan);replace k3:=k3.stored 22 (aa ab l.chan);replace k3:Bk _ _ _ (lyC ⟨c,0,1,2,3,4,l.owner,l.resv,l.deque,l.ring,l.task,l.cell,l.map,l.stack,l.chan,0,0⟩):=k3;replace bz:=bK bz (p:=⟨g+1,22,none⟩) zP (aa ab l.chan);clear q0 q1 q2 q3 q4 q5 q6 q7 q8 t0 t1 t2;generalize (v'.setCell ⟨g+1,22,none⟩ (aa ab l.chan))=v at *;clear v';have q0:=k0.cell 0;have q1:=k0.cell 1;have q2:=k0.cell 2;have q3:=k0.cell 3;have q4:=k0.cell 4;have q5:=k0.cell 5;have q6:=k0.cell 6;have q7:=k0.cell 7;have q8:=k0.cell 8;have t0:=k3.cell 23;have t1:=k3.free 23;have t2:=k2.cell 0;simp at q0 q1 q2 q3 q4 q5 q6 q7 q8 t0 t2
 (with_reducible refine (fX c.nodes 8 l.node l.size g _ k2 HL.out.size zO zO zO).mono ?_)
 rintro e v' ⟨rfl,nB,up⟩;replace k0:=up.ay _ _ _ zO k0;replace k1:=up.ay _ _ _ zO k1;replace k3:=up.ay _ _ _ zO k3;replace bz:=up.below _ zO bz;replace k2:=nB;clear up nB q0 q1 q2 q3 q4 q5 q6 q7 q8 t0 t1 t2 v;have q0:=k0.cell 0;have q1:=k0.cell 1;have q2:=k0.cell 2;have q3:=k0.cell 3;have q4:=k0.cell 4;have q5:=k0.cell 5;have q6:=k0.cell 6;have q7:=k0.cell 7;have q8:=k0.cell 8;have t0:=k3.cell 23;have t1:=k3.free 23;have t2:=k2.cell 0;simp at q0 q1 q2 q3 q4 q5 q6 q7 q8 t0 t2;have t3:=k3.free 24;have t4:=k3.cell 24;simp at t4;have HK3:=ar ((k3.stored 23 (aa ab l.node)).stored 24 (aa ab l.size));replace HK3:Hid (Bk ((v'.setCell ⟨g+1,23,none⟩ (aa ab l.node)).setCell ⟨g+1,24,none⟩ (aa ab l.size)) (g+1) 34 (lyC ⟨c,0,1,2,3,4,l.owner,l.resv,l.deque,l.ring,l.task,l.cell,l.map,l.stack,l.chan,l.node,l.size⟩)):=HK3;have HK1:=ar ((k1.other (p:=⟨g+1,23,none⟩) zP (aa ab l.node)).other (p:=⟨g+1,24,none⟩) zP (aa ab l.size));have HBL:=ar (bK (bK bz (p:=⟨g+1,23,none⟩) zP (aa ab l.node)) (p:=⟨g+1,24,none⟩) zP (aa ab l.size));have hLL:⟨c,0,1,2,3,4,l.owner,l.resv,l.deque,l.ring,l.task,l.cell,l.map,l.stack,l.chan,l.node,l.size⟩=l:=by rw [HLE.out];rfl
 have HLL:=ar hLL;clear k3 k1 bz hLL
 go_wp2_with (first
  | (refine aL rfl 34 (.tmp 6) rfl (g+1) rfl 34 (lyC ⟨c,0,1,2,3,4,l.owner,l.resv,l.deque,l.ring,l.task,l.cell,l.map,l.stack,l.chan,l.node,l.size⟩) (0,0) _ HK3.out aJ rfl zK ?_)
  | (refine aK rfl 34 (.tmp 2) (.tmp 107) rfl rfl (w.heap.size+1) (lyC ⟨c,0,1,2,3,4,l.owner,l.resv,l.deque,l.ring,l.task,l.cell,l.map,l.stack,l.chan,l.node,l.size⟩) rfl rfl 34 (lyC Bc) HK1.out zK rfl (by simp [aD]) ?_))
 refine aX (v:=.tuple #[lyV ⟨c,0,1,2,3,4,l.owner,l.resv,l.deque,l.ring,l.task,l.cell,l.map,l.stack,l.chan,l.node,l.size⟩,aa ab 0]) (results_cell_tmp (p:=2) (t:=3) (ty:=34) rfl _ _ (w.heap.size+1) 34 (lyC ⟨c,0,1,2,3,4,l.owner,l.resv,l.deque,l.ring,l.task,l.cell,l.map,l.stack,l.chan,l.node,l.size⟩) (0,0) _ _ rfl rfl (Cm _ _ _ _ _ _ HK1.out) aJ rfl zK) rfl ⟨by rw [HLL.out],eT HBL.out zO _⟩
structure dU (l:Ly):Prop where
 x1:0<=l.alive/\l.alive<=1000000
 x2:0<=l.owner/\l.owner<=1000000
 x3:0<=l.resv/\l.resv<=1000000
 x4:0<=l.deque/\l.deque<=1000000
 x5:0<=l.task/\l.task<=1000000
 x6:0<=l.cell/\l.cell<=1000000
 x7:0<=l.map/\l.map<=1000000
 x8:0<=l.stack/\l.stack<=1000000
 x9:0<=l.chan/\l.chan<=1000000
 x10:0<=l.node/\l.node<=1000000
 y1:0<=l.c.aM/\l.c.aM<=8
 y2:0<=l.c.tasks/\l.c.tasks<=64
 y3:0<=l.c.cells/\l.c.cells<=16
 y4:0<=l.c.maps/\l.c.maps<=8
 y5:0<=l.c.buckets/\l.c.buckets<=64
 y6:0<=l.c.stacks/\l.c.stacks<=8
 y7:0<=l.c.slots/\l.c.slots<=8
 y8:0<=l.c.chans/\l.c.chans<=8
 y9:0<=l.c.nodes/\l.c.nodes<=1000
theorem vo (c:Cf) (h:c.can):dU (Ad c):=by
 have hl:=J1 c h;obtain ⟨b0,b1,b2,b3,b4,b5,b6,b7,b8,b9,D2,Jy⟩:=hl.b0;have r0:1<=c.aM/\c.aM<=8:=h.1.1 0 zO;have r1:1<=c.buckets/\c.buckets<=64:=h.1.1 1 zO;have r2:1<=c.slots/\c.slots<=8:=h.1.1 2 zO;have r3:1<=c.tasks/\c.tasks<=64:=h.1.1 3 zO;have r4:0<=c.cells/\c.cells<=16:=h.1.1 4 zO;have r5:0<=c.maps/\c.maps<=8:=h.1.1 5 zO;have r6:0<=c.stacks/\c.stacks<=8:=h.1.1 6 zO;have r7:0<=c.chans/\c.chans<=8:=h.1.1 7 zO;have n1:=h.2;have e:(Ad c).c=c:=rfl;have ea:(Ad c).alive=4:=rfl
 constructor
 all_goals (try rw [e])
 all_goals (try rw [ea])
 all_goals omega
def dk (f m e r i:Int):Int:=if 0<=r/\r < m/\0<=i/\i < e then f+r * e+i else -1
theorem jo (f m e r i:Int) (w:World) (A6:0<=f) (hf1:f<=1000000) (hm:m<=1000) (he:e<=1000):Calls aw 47 #[aa ab f,aa ab m,aa ab e,aa ab r,aa ab i] w (qs (dk f m e r i) w):=by
 unfold dk;split
 ·rename_i h;have hp:=By r e 1000 1000 zO zO zO zO;exact KE f m e r i (r * e) w rfl h.1 h.2.1 h.2.2.1 h.2.2.2 hp.1 zO A6 zO zO
 ·rename_i h;exact Iq f m e r i w h
def yp (l:Ly) (a b:Int):Int:=dk (l.resv) (l.c.aM) (3) (a) (b)
theorem CT (l:Ly) (a b:Int) (w:World) (f:dU l):Calls aw 173 #[lyV l,aa ab a,aa ab b] w (gh (yp l a b) w):=by
 obtain ⟨x1,x2,x3,x4,x5,x6,x7,x8,x9,x10,y1,y2,y3,y4,y5,y6,y7,y8,y9⟩:=f;unfold yp;go_enter Tryz.func173,Tryz.ntmps173
 go_wp2_with fail
 (with_reducible refine (jo (l.resv) (l.c.aM) (3) (a) (b) _ zO zO zO zO).mono ?_)
 rintro e w1 ⟨rfl,rfl⟩;generalize dk (l.resv) (l.c.aM) (3) (a) (b)=v at *
 go_wp2
 go_ret
 exact ⟨rfl,aB (Below.refl _ _) _⟩
def fP (l:Ly) (a b:Int):Int:=if 1 < b then -1 else dk (l.map) (l.c.maps) (2+l.c.buckets) (a) (b)
theorem rW (l:Ly) (a b:Int) (w:World) (f:dU l):Calls aw 81 #[lyV l,aa ab a,aa ab b] w (gh (fP l a b) w):=by
 obtain ⟨x1,x2,x3,x4,x5,x6,x7,x8,x9,x10,y1,y2,y3,y4,y5,y6,y7,y8,y9⟩:=f
 by_cases h:1 < b
 ·have e:fP l a b= -1:=by unfold fP;rw [if_pos h]
  rw [e];clear e;have g1:decide (1 < b)=true:=by simp;omega
  go_enter Tryz.func81,Tryz.ntmps81
  go_wp2
  go_ret
  exact ⟨rfl,aB (Below.refl _ _) _⟩
 ·have e:fP l a b=dk (l.map) (l.c.maps) (2+l.c.buckets) (a) (b):=by unfold fP;rw [if_neg h]
  rw [e];clear e;have g1:decide (1 < b)=false:=by simp;omega
  go_enter Tryz.func81,Tryz.ntmps81
  go_wp2_with fail
  (with_reducible refine (jo (l.map) (l.c.maps) (2+l.c.buckets) (a) (b) _ zO zO zO zO).mono ?_)
  rintro e w1 ⟨rfl,rfl⟩;generalize dk (l.map) (l.c.maps) (2+l.c.buckets) (a) (b)=v at *
  go_wp2
  go_ret
  exact ⟨rfl,aB (Below.refl _ _) _⟩
def dE (l:Ly) (a b:Int):Int:=if b < 0\/l.c.buckets<=b then -1 else dk (l.map) (l.c.maps) (2+l.c.buckets) (a) (2+b)
theorem nP (l:Ly) (a b:Int) (w:World) (f:dU l):Calls aw 24 #[lyV l,aa ab a,aa ab b] w (gh (dE l a b) w):=by
 obtain ⟨x1,x2,x3,x4,x5,x6,x7,x8,x9,x10,y1,y2,y3,y4,y5,y6,y7,y8,y9⟩:=f
 by_cases h1:b < 0
 ·have e:dE l a b= -1:=by unfold dE;rw [if_pos (.inl h1)]
  rw [e];clear e;have k1:decide (b < 0)=true:=by simp;omega
  go_enter Tryz.func24,Tryz.ntmps24
  go_wp2
  go_ret
  exact ⟨rfl,aB (Below.refl _ _) _⟩
 ·have k1:decide (b < 0)=false:=by simp;omega
  by_cases h2:l.c.buckets<=b
  ·have e:dE l a b= -1:=by unfold dE;rw [if_pos (.inr h2)]
   rw [e];clear e;have k2:decide (l.c.buckets<=b)=true:=by simp;omega
   go_enter Tryz.func24,Tryz.ntmps24
   go_wp2
   go_ret
   exact ⟨rfl,aB (Below.refl _ _) _⟩
  ·have e:dE l a b=dk (l.map) (l.c.maps) (2+l.c.buckets) (a) (2+b):=by unfold dE;rw [if_neg zO]
   rw [e];clear e;have k2:decide (l.c.buckets<=b)=false:=by simp;omega
   go_enter Tryz.func24,Tryz.ntmps24
   go_wp2_with fail
   (with_reducible refine (jo (l.map) (l.c.maps) (2+l.c.buckets) (a) (2+b) _ zO zO zO zO).mono ?_)
   rintro e w1 ⟨rfl,rfl⟩;generalize dk (l.map) (l.c.maps) (2+l.c.buckets) (a) (2+b)=v at *
   go_wp2
   go_ret
   exact ⟨rfl,aB (Below.refl _ _) _⟩
def eW (l:Ly) (a:Int):Int:=dk (l.stack) (l.c.stacks) (1+l.c.slots) (a) 0
theorem JO (l:Ly) (a:Int) (w:World) (f:dU l):Calls aw 53 #[lyV l,aa ab a] w (gh (eW l a) w):=by
 obtain ⟨x1,x2,x3,x4,x5,x6,x7,x8,x9,x10,y1,y2,y3,y4,y5,y6,y7,y8,y9⟩:=f;unfold eW;go_enter Tryz.func53,Tryz.ntmps53
 go_wp2_with fail
 (with_reducible refine (jo (l.stack) (l.c.stacks) (1+l.c.slots) (a) (0) _ zO zO zO zO).mono ?_)
 rintro e w1 ⟨rfl,rfl⟩;generalize dk (l.stack) (l.c.stacks) (1+l.c.slots) (a) (0)=v at *
 go_wp2
 go_ret
 exact ⟨rfl,aB (Below.refl _ _) _⟩
def dX (l:Ly) (a b:Int):Int:=if b < 0\/l.c.slots<=b then -1 else dk (l.stack) (l.c.stacks) (1+l.c.slots) (a) (1+b)
theorem MB (l:Ly) (a b:Int) (w:World) (f:dU l):Calls aw 127 #[lyV l,aa ab a,aa ab b] w (gh (dX l a b) w):=by
 obtain ⟨x1,x2,x3,x4,x5,x6,x7,x8,x9,x10,y1,y2,y3,y4,y5,y6,y7,y8,y9⟩:=f
 by_cases h1:b < 0
 ·have e:dX l a b= -1:=by unfold dX;rw [if_pos (.inl h1)]
  rw [e];clear e;have k1:decide (b < 0)=true:=by simp;omega
  go_enter Tryz.func127,Tryz.ntmps127
  go_wp2
  go_ret
  exact ⟨rfl,aB (Below.refl _ _) _⟩
 ·have k1:decide (b < 0)=false:=by simp;omega
  by_cases h2:l.c.slots<=b
  ·have e:dX l a b= -1:=by unfold dX;rw [if_pos (.inr h2)]
   rw [e];clear e;have k2:decide (l.c.slots<=b)=true:=by simp;omega
   go_enter Tryz.func127,Tryz.ntmps127
   go_wp2
   go_ret
   exact ⟨rfl,aB (Below.refl _ _) _⟩
  ·have e:dX l a b=dk (l.stack) (l.c.stacks) (1+l.c.slots) (a) (1+b):=by unfold dX;rw [if_neg zO]
   rw [e];clear e;have k2:decide (l.c.slots<=b)=false:=by simp;omega
   go_enter Tryz.func127,Tryz.ntmps127
   go_wp2_with fail
   (with_reducible refine (jo (l.stack) (l.c.stacks) (1+l.c.slots) (a) (1+b) _ zO zO zO zO).mono ?_)
   rintro e w1 ⟨rfl,rfl⟩;generalize dk (l.stack) (l.c.stacks) (1+l.c.slots) (a) (1+b)=v at *
   go_wp2
   go_ret
   exact ⟨rfl,aB (Below.refl _ _) _⟩
def dT (l:Ly) (a:Int):Int:=dk (l.chan) (l.c.chans) (2) (a) 0
theorem uq (l:Ly) (a:Int) (w:World) (f:dU l):Calls aw 55 #[lyV l,aa ab a] w (gh (dT l a) w):=by
 obtain ⟨x1,x2,x3,x4,x5,x6,x7,x8,x9,x10,y1,y2,y3,y4,y5,y6,y7,y8,y9⟩:=f;unfold dT;go_enter Tryz.func55,Tryz.ntmps55
 go_wp2_with fail
 (with_reducible refine (jo (l.chan) (l.c.chans) (2) (a) (0) _ zO zO zO zO).mono ?_)
 rintro e w1 ⟨rfl,rfl⟩;generalize dk (l.chan) (l.c.chans) (2) (a) (0)=v at *
 go_wp2
 go_ret
 exact ⟨rfl,aB (Below.refl _ _) _⟩
def fB (l:Ly) (a:Int):Int:=dk (l.chan) (l.c.chans) (2) (a) 1
theorem CL (l:Ly) (a:Int) (w:World) (f:dU l):Calls aw 83 #[lyV l,aa ab a] w (gh (fB l a) w):=by
 obtain ⟨x1,x2,x3,x4,x5,x6,x7,x8,x9,x10,y1,y2,y3,y4,y5,y6,y7,y8,y9⟩:=f;unfold fB;go_enter Tryz.func83,Tryz.ntmps83
 go_wp2_with fail
 (with_reducible refine (jo (l.chan) (l.c.chans) (2) (a) (1) _ zO zO zO zO).mono ?_)
 rintro e w1 ⟨rfl,rfl⟩;generalize dk (l.chan) (l.c.chans) (2) (a) (1)=v at *
 go_wp2
 go_ret
 exact ⟨rfl,aB (Below.refl _ _) _⟩
def nodeAt (l:Ly) (a b:Int):Int:=if a < 1 then -1 else dk (l.node) (l.c.nodes) (8) (a - 1) (b)
theorem dt (l:Ly) (a b:Int) (w:World) (f:dU l) (ha:a<=9223372036854775807):Calls aw 22 #[lyV l,aa ab a,aa ab b] w (gh (nodeAt l a b) w):=by
 obtain ⟨x1,x2,x3,x4,x5,x6,x7,x8,x9,x10,y1,y2,y3,y4,y5,y6,y7,y8,y9⟩:=f
 by_cases h:a < 1
 ·have e:nodeAt l a b= -1:=by unfold nodeAt;rw [if_pos h]
  rw [e];clear e;have g1:decide (a < 1)=true:=by simp;omega
  go_enter Tryz.func22,Tryz.ntmps22
  go_wp2
  go_ret
  exact ⟨rfl,aB (Below.refl _ _) _⟩
 ·have e:nodeAt l a b=dk (l.node) (l.c.nodes) (8) (a - 1) (b):=by unfold nodeAt;rw [if_neg h]
  rw [e];clear e;have g1:decide (a < 1)=false:=by simp;omega
  go_enter Tryz.func22,Tryz.ntmps22
  go_wp2_with fail
  (with_reducible refine (jo (l.node) (l.c.nodes) (8) (a - 1) (b) _ zO zO zO zO).mono ?_)
  rintro e w1 ⟨rfl,rfl⟩;generalize dk (l.node) (l.c.nodes) (8) (a - 1) (b)=v at *
  go_wp2
  go_ret
  exact ⟨rfl,aB (Below.refl _ _) _⟩
end Go.Proofs.YtikdaeddbkopeaaGreatR
namespace Go.Proofs.YtikdaeddbkopeaaGreatR
def adr (l:Ly):Loc->Int
 | .era=>l.era
 | .free=>l.free
 | .resv s i=>yp l s i
 | .msize=>fP l 0 0
 | .mcount=>fP l 0 1
 | .bucket b=>dE l 0 b
 | .top=>eW l 0
 | .slot=>dX l 0 0
 | .head=>dT l 0
 | .tail=>fB l 0
 | .nd n i=>nodeAt l n i
inductive An (β:Type) where
 | ask (a:LAc) | fin (b:β) | stuck
def jO {β:Type} (th me:Int) (F:Ret->Pz->Log->An β):Sub->Pz->Log->An β
 | x,_,[]=>.ask (x.acc me)
 | x,z,r :: l=>match x.stp th z r with
  | .go x' z'=>jO th me F x' z' l
  | .ret t z'=>F t z' l
  | .stuck=>.stuck
def eM {β:Type} (th me:Int) (F:Ret->Pz->Log->An β):SX->Log->An β
 | .go x z,l=>jO th me F x z l
 | .ret t z,l=>F t z l
 | .stuck,_=>.stuck
theorem rP {β:Type} (th me:Int) (F:Ret->Pz->Log->An β) (x:Sub) (z:Pz) (r:Int × Bool) (l:Log):jO th me F x z (r :: l)=eM th me F (x.stp th z r) l:=by
 cases h:x.stp th z r <;> simp [jO,eM,h]
def doR {β:Type} (a:LAc) (z:Pz) (F:Int × Bool->Pz->Log->An β):Log->An β
 | []=>.ask a
 | r :: l=>F r z.got l
theorem gj {β:Type} (th me:Int) (F:Ret->Pz->Log->An β) (x:Sub) (z:Pz) (l:Log):jO th me F x z l=doR (x.acc me) z (fun r _ l'=>eM th me F (x.stp th z r) l') l:=by
 cases l with
 | nil=>rfl
 | cons r l=>exact rP th me F x z r l
def fM (th me:Int) (op:LOp):LPh->Pz->Log->An (dA × Pz)
 | x,_,[]=>.ask (x.acc me op)
 | x,z,r :: l=>match x.stp th op z r with
  | .go x' z'=>fM th me op x' z' l
  | .out o z'=>.fin (o,z')
  | .stuck=>.stuck
def cS (th me:Int) (op:LOp):LX->Log->An (dA × Pz)
 | .go x z,l=>fM th me op x z l
 | .out o z,_=>.fin (o,z)
 | .stuck,_=>.stuck
theorem fp (th me:Int) (op:LOp) (x:LPh) (z:Pz) (r:Int × Bool) (l:Log):fM th me op x z (r :: l)=cS th me op (x.stp th op z r) l:=by
 cases h:x.stp th op z r <;> simp [fM,cS,h]
theorem mF (th me:Int) (op:LOp) (k:LK):∀ (l:Log) (x:Sub) (z:Pz),fM th me op (.sub x k) z l=jO th me (fun t z l=>cS th me op (jS op t z k) l) x z l
 | [],_,_=>rfl
 | r :: l,x,z=>by
  rw [fp,rP];show cS th me op ((x.stp th z r).oX k fun t s=>jS op t s k) l=_
  cases x.stp th z r with
  | go x' z'=>exact mF th me op k l x' z'
  | ret t z'=>rfl
  | stuck=>rfl
def iZ (th me a:Int):EPh->Pz->Log->An Out
 | x,_,[]=>.ask (x.acc me a)
 | x,z,r :: l=>match x.stp th a z r with
  | .go x' z'=>iZ th me a x' z' l
  | .out o=>.fin o
  | .stuck=>.stuck
def fE (th me a:Int):EX->Log->An Out
 | .go x z,l=>iZ th me a x z l
 | .out o,_=>.fin o
 | .stuck,_=>.stuck
theorem vc (th me a:Int) (x:EPh) (z:Pz) (r:Int × Bool) (l:Log):iZ th me a x z (r :: l)=fE th me a (x.stp th a z r) l:=by
 cases h:x.stp th a z r <;> simp [iZ,fE,h]
theorem o8 (th me a:Int) (k:EK):∀ (l:Log) (x:Sub) (z:Pz),iZ th me a (.sub x k) z l=jO th me (fun t z l=>fE th me a (sx t z k) l) x z l
 | [],_,_=>rfl
 | r :: l,x,z=>by
  rw [vc,rP];show fE th me a ((x.stp th z r).mX k fun t s=>sx t s k) l=_
  cases x.stp th z r with
  | go x' z'=>exact o8 th me a k l x' z'
  | ret t z'=>rfl
  | stuck=>rfl
def hZ (th me a:Int):CPh->Pz->Log->An Out
 | x,_,[]=>.ask (x.acc me a)
 | x,z,r :: l=>match x.stp th a z r with
  | .go x' z'=>hZ th me a x' z' l
  | .out o=>.fin o
  | .stuck=>.stuck
def eR (th me a:Int):CX->Log->An Out
 | .go x z,l=>hZ th me a x z l
 | .out o,_=>.fin o
 | .stuck,_=>.stuck
theorem vd (th me a:Int) (x:CPh) (z:Pz) (r:Int × Bool) (l:Log):hZ th me a x z (r :: l)=eR th me a (x.stp th a z r) l:=by
 cases h:x.stp th a z r <;> simp [hZ,eR,h]
theorem o9 (th me a:Int) (k:CK):∀ (l:Log) (x:Sub) (z:Pz),hZ th me a (.sub x k) z l=jO th me (fun t z l=>eR th me a (sy t z k) l) x z l
 | [],_,_=>rfl
 | r :: l,x,z=>by
  rw [vd,rP];show eR th me a ((x.stp th z r).qS k fun t s=>sy t s k) l=_
  cases x.stp th z r with
  | go x' z'=>exact o9 th me a k l x' z'
  | ret t z'=>rfl
  | stuck=>rfl
theorem r9 {α:Type} {l:List α} {i:Nat} {x:α} (h:l[i]? =some x):l.drop i=x :: l.drop (i+1):=by
 obtain ⟨hi,rfl⟩:=a8.1 h;exact List.drop_eq_getElem_cons hi
theorem DI {α:Type} {l:List α} {i:Nat} (h:l[i]? =none):l.drop i=[]:=List.drop_eq_nil_of_le (List.getElem?_eq_none_iff.1 h)
theorem Lx {z:Pz} {j:Nat} (hj:j < 3) (h:z.dO.getD j 0=0):dK z j=dK z (j+1):=by
 unfold dK;rw [show 3 - j=(3 - (j+1))+1 by omega]
 show (match (if z.dO.getD j 0≠0 then some j else sU z.dO (3 - (j+1)) (j+1)) with | some j=>SX.go (.cl j) z | none=>.ret .un z)=_
 rw [if_neg (by simp only [h];decide)]
 rfl
theorem Ou {z:Pz} {j:Nat} (hj:j < 3) (h:z.dO.getD j 0≠0):dK z j= .go (.cl j) z:=by
 unfold dK;rw [show 3 - j=(3 - (j+1))+1 by omega]
 show (match (if z.dO.getD j 0≠0 then some j else sU z.dO (3 - (j+1)) (j+1)) with | some j=>SX.go (.cl j) z | none=>.ret .un z)=_
 rw [if_pos h]
abbrev Sm:=Loc->Int
def bZ (m:Sm) (c:Loc) (v:Int):Sm:=fun x=>if x=c then v else m x
theorem db (m:Sm) (c:Loc) (v:Int):bZ m c v c=v:=by simp [bZ]
theorem lu (m:Sm) {c x:Loc} (v:Int) (h:x≠c):bZ m c v x=m x:=by simp [bZ,h]
def LAc.res (a:LAc) (m:Sm):Int × Bool:=if a.k=3/\m a.c≠a.o then (m a.c,false) else (m a.c,true)
def LAc.mem (a:LAc) (m:Sm):Sm:=
 if a.k=2 then bZ m a.c a.v
 else if a.k=3 then (if m a.c=a.o then bZ m a.c a.v else m)
 else if a.k=4 then bZ m a.c (m a.c+a.v)
 else m
theorem fF (a:LAc) (m:Sm):(a.res m).1=m a.c:=by unfold LAc.res;split <;> rfl
theorem bO {a:LAc} (h:a.k=1) (m:Sm):a.mem m=m:=by simp [LAc.mem,h]
theorem cW {a:LAc} (h:a.k=2) (m:Sm):a.mem m=bZ m a.c a.v:=by simp [LAc.mem,h]
theorem eZ {a:LAc} (h:a.k=3) {m:Sm} (hr:(a.res m).2=true):m a.c=a.o/\a.mem m=bZ m a.c a.v:=by
 have:m a.c=a.o:=by
  by_cases h2:m a.c=a.o
  ·exact h2
  ·simp [LAc.res,h,h2] at hr
 exact ⟨this,by simp [LAc.mem,h,this]⟩
theorem dg {a:LAc} (h:a.k=3) {m:Sm} (hr:(a.res m).2=false):a.mem m=m:=by
 have:m a.c≠a.o:=by
  intro h2;simp [LAc.res,h2] at hr
 simp [LAc.mem,h,this]
theorem rV {a:LAc} (h:a.k=4) (m:Sm):a.mem m=bZ m a.c (m a.c+a.v):=by simp [LAc.mem,h]
theorem iz (i:Int) (b:Bool) (c:Int) (h0:0<=i) (h1:i < 65536):idxOf (dS i b c)=i:=by
 unfold idxOf dS;cases b <;> simp <;> omega
theorem C6 (i:Int) (b:Bool) (c:Int):fG (dS i b c)=b:=by
 unfold fG dS
 cases b
 ·have:(i % 65536+(if false=true then (1:Int) else 0) % 2 * 65536+c % 268435456 * 131072) / 65536 % 2=0:=by simp;omega
  rw [this];rfl
 ·have:(i % 65536+(if true=true then (1:Int) else 0) % 2 * 65536+c % 268435456 * 131072) / 65536 % 2=1:=by simp;omega
  rw [this];rfl
theorem zo (i:Int) (b:Bool) (c:Int) (h0:0<=c) (h1:c < 268435456):mM (dS i b c)=c:=by
 unfold mM dS;cases b <;> simp <;> omega
theorem NN (n:Int):0<=idxOf n/\idxOf n < 65536:=by unfold idxOf;omega
theorem iU {n:Int} (h0:0<=n) (h1:n<=40):idxOf (a9 n)=n:=iz n false 0 h0 zO
theorem lF {n:Int} (h0:0<=n) (h1:n<=40):idxOf (gZ n)=n:=iz n true 0 h0 zO
theorem dQ (n:Int):fG (a9 n)=false:=C6 n false 0
theorem lB (n:Int):fG (gZ n)=true:=C6 n true 0
theorem AJ {a b:Int} (ha:0<=a) (xz:a<=40) (hb:0<=b) (qO:b<=40) (h:a9 a=a9 b):a=b:=by
 rw [<- iU ha xz,h,iU hb qO]
theorem NM {w n:Int} (h0:0<=n) (h1:n<=40):idxOf (ed w n)=n:=by
 unfold ed;rw [show n % 65536=n by omega];exact iz n false _ h0 zO
inductive Pl where
 | fr | ow (s:Nat) | li | dli (s:Nat) | sk | dsk (s:Nat) | sg
deriving DecidableEq
structure Gh where
 st:Int->Pl
 fl:List Int
 fc:Nat
 ls:List Int
 sk:List Int
 sg:List Int
 dd:Nat->List Int
 dl:Nat
 ds:Nat
 n:Nat
 tk:Nat
def Pl.isL:Pl->Bool
 | .li | .dli _=>true
 | _=>false
def Pl.isS:Pl->Bool
 | .sk | .dsk _=>true
 | _=>false
def eK {α:Type} (f:Int->α) (n:Int) (v:α):Int->α:=fun x=>if x=n then v else f x
def ud {α:Type} (f:Nat->α) (n:Nat) (v:α):Nat->α:=fun x=>if x=n then v else f x
theorem bH {α:Type} (f:Int->α) (n:Int) (v:α):eK f n v n=v:=by simp [eK]
theorem bJ {α:Type} (f:Int->α) {n x:Int} (v:α) (h:x≠n):eK f n v x=f x:=by simp [eK,h]
theorem eV {α:Type} (f:Nat->α) (n:Nat) (v:α):ud f n v n=v:=by simp [ud]
theorem ib {α:Type} (f:Nat->α) {n x:Nat} (v:α) (h:x≠n):ud f n v x=f x:=by simp [ud,h]
def Chn (f:Int->Int):List Int->Prop
 | []=>True
 | [a]=>f a=0
 | a :: b :: r=>f a=b/\Chn f (b :: r)
theorem Chn.congr {f f':Int->Int}:∀ {l:List Int},(∀ n∈l,f' n=f n)->Chn f l->Chn f' l
 | [],_,_=>trivial
 | [a],h,hc=>(h a zS).trans hc
 | a :: b :: r,h,hc=>⟨(h a zS).trans hc.1,Chn.congr (l:=b :: r) (fun n hn=>h n (jk _ hn)) hc.2⟩
theorem Chn.tail {f:Int->Int} {a:Int} {l:List Int} (h:Chn f (a :: l)):Chn f l:=by
 cases l with
 | nil=>trivial
 | cons b r=>exact h.2
theorem Chn.head {f:Int->Int} {a:Int} {l:List Int} (h:Chn f (a :: l)):f a=l.headD 0:=by
 cases l with
 | nil=>exact h
 | cons b r=>exact h.1
theorem Chn.cons {f:Int->Int} {a:Int} {l:List Int} (h:Chn f l) (ha:f a=l.headD 0):Chn f (a :: l):=by
 cases l with
 | nil=>exact ha
 | cons b r=>exact ⟨ha,h⟩
def cX (m:Sm) (n:Int):Int:=m (.nd n 1)
def nzP (m:Sm) (n:Int) (i:Int):Nat:=if m (.nd n i)≠0 then 1 else 0
def rcP (m:Sm) (n:Int) (i:Int):Nat:=if m (.nd n i)=1 then 1 else 0
def oK (m:Sm) (n:Int):Nat:=nzP m n 1+nzP m n 2+nzP m n 3+nzP m n 4+nzP m n 5+(rcP m n 1+rcP m n 2+rcP m n 3+rcP m n 4+rcP m n 5)
def gH (m:Sm) (l:List Int):Nat:=(l.map (oK m)).sum
def p7 (m:Sm) (l:List Int):Nat:=l.countP fun n=>cX m n % 2==1
def pe (m:Sm) (l:List Int):Nat:=l.countP fun n=>fG (m (.nd n 0))
structure Gl (m:Sm) (g:Gh):Prop where
 rng:∀ n,g.st n≠ .fr->1<=n/\n<=40
 fw:m .free=dS (g.fl.headD 0) false g.fc
 fch:Chn (fun n=>m (.nd n 7)) g.fl
 fmem:∀ n,n∈g.fl ↔ (1<=n/\n<=40/\g.st n= .fr)
 fnd:g.fl.Nodup
 ftk:38<=g.fl.length+g.tk
 fcb:g.fc < 268435456
 lhd:∃ r,g.ls=1 :: r
 sE:Chn (fun n=>idxOf (m (.nd n 0))) g.ls
 lmem:∀ n,n∈g.ls ↔ g.st n= .li
 lsrt:g.ls.Pairwise fun a b=>cX m a < cX m b
 lwrd:∀ n,(g.st n).isL=true->∃ x,0<=x/\x<=40/\(m (.nd n 0)=a9 x\/m (.nd n 0)=gZ x)/\(x=0\/(g.st x).isL=true/\cX m n < cX m x)
 lded:∀ n s,g.st n= .dli s->fG (m (.nd n 0))=true
 lmrk:∀ n,(g.st n).isL=true->fG (m (.nd n 0))=true->cX m n % 2=1
 lkey:∀ n,(g.st n).isL=true->0<=cX m n/\cX m n < 131072/\(cX m n % 2=0->cX m n=0\/cX m n=65536)
 l1:cX m 1=0
 b0:m (.bucket 0)=a9 1
 b1:m (.bucket 1)=0\/∃ d,(g.st d).isL=true/\cX m d=65536/\m (.bucket 1)=a9 d
 msz:m .msize=1\/m .msize=2
 tpw:∃ c,m .top=dS (g.sk.headD 0) false c
 sch:Chn (fun n=>m (.nd n 0)) g.sk
 smem:∀ n,n∈g.sk ↔ g.st n= .sk
 snd:g.sk.Nodup
 snx:∀ n,(g.st n).isS=true->m (.nd n 0)=0\/(g.st (m (.nd n 0))).isS=true
 chd:∃ c,m .head=dS 2 false c
 c2:∃ r,g.sg=2 :: r
 td:∃ x c,x∈g.sg/\m .tail=dS x false c
 cch:Chn (fun n=>m (.nd n 0)) g.sg
 cmem:∀ n,n∈g.sg ↔ g.st n= .sg
 cnd:g.sg.Nodup
 cfst:∀ n∈g.sg,n≠2->m (.nd n 1)≠0
 cful:∀ n∈g.sg,m (.nd n 0)≠0->∀ i,1<=i->i<=5->m (.nd n i)≠0
 cval:∀ n∈g.sg,∀ i,1<=i->i<=5->0<=m (.nd n i)/\m (.nd n i)<=4294967297
 lM:∀ s n,n∈g.dd s ↔ (g.st n= .dli s\/g.st n= .dsk s)
 dnd:∀ s,(g.dd s).Nodup
 dlen:∀ s,(g.dd s).length<=g.dl+g.ds
 tM:p7 m g.ls+g.dl+(pe m g.ls+g.dl)+(g.sk.length+g.ds)+g.ds+gH m g.sg<=g.n
structure Env (s:Nat) (m:Sm) (g:Gh) (m':Sm) (g':Gh):Prop where
 isL:∀ n,(g.st n).isL=true->(g'.st n).isL=true/\m' (.nd n 1)=m (.nd n 1)/\m' (.nd n 2)=m (.nd n 2)
 mrk:∀ n,(g.st n).isL=true->fG (m (.nd n 0))=true->m' (.nd n 0)=m (.nd n 0)
 isS:∀ n,(g.st n).isS=true->(g'.st n).isS=true/\m' (.nd n 0)=m (.nd n 0)/\m' (.nd n 1)=m (.nd n 1)
 isC:∀ n,g.st n= .sg->g'.st n= .sg/\(m (.nd n 0)≠0->m' (.nd n 0)=m (.nd n 0))/\∀ i,1<=i->i<=5->(m (.nd n i)≠0->m' (.nd n i)=m (.nd n i)\/m' (.nd n i)=1)
 own:∀ n t,g.st n= .ow t->t≠s->g'.st n= .ow t/\∀ i,m' (.nd n i)=m (.nd n i)
 got:∀ n t,g'.st n= .ow t->t≠s->g.st n= .ow t
 fcl:g.fc<=g'.fc
 fcu:g'.fc<=g.fc+1
 fce:g'.fc=g.fc->m' .free=m .free/\g'.fl=g.fl/\∀ n∈g.fl,m' (.nd n 7)=m (.nd n 7)
 ddo:∀ t,t≠s->g'.dd t=g.dd t
def SX.atN (n:Nat):SX->Prop
 | .go _ s=>s.made=n
 | .ret _ s=>s.made=n
 | .stuck=>True
def LX.atN (n:Nat):LX->Prop
 | .go _ s=>s.made=n
 | .out _ s=>s.made=n
 | .stuck=>True
theorem uy (z:Pz) (i:Nat):(dK z i).atN z.made:=by unfold dK;split <;> exact rfl
theorem Sub.at (th:Int) (z:Pz) (x:Sub) (r:Int × Bool):(x.stp th z r).atN (z.made+1):=by
 cases x with
 | cl i=>exact uy _ _
 | _=>simp only [Sub.stp];(try split) <;> first | exact rfl | trivial
theorem xZ {X:SX} {n:Nat} (h:X.atN n) (k:LK) (f:Ret->Pz->LX) (hf:∀ t s,(f t s).atN s.made):(X.oX k f).atN n:=by
 cases X with
 | go x z=>exact h
 | ret t z=>exact (show z.made=n from h) ▸ hf t z
 | stuck=>trivial
theorem B6 (o:dA) (z:Pz):(iE o z).atN z.made:=xZ (uy z 0) _ _ fun _ _=>rfl
theorem Js (n:Int) (o:dA) (z:Pz):(ie n o z).atN z.made:=xZ (uy z 0) _ _ fun _ _=>rfl
theorem DP (op:LOp) (k:FK) (b:Bool) (prev cur next:Int) (pt:Nat) (z:Pz):(kI op k b prev cur next pt z).atN z.made:=by
 cases k <;> simp only [kI] <;> (repeat' split) <;> first | exact rfl | exact B6 _ _
theorem C9 (op:LOp) (k:FK) (f:Fp) (z:Pz):(fY op k f z).atN z.made:=by
 unfold fY;split
 ·exact DP _ _ _ _ _ _ _ _
 ·exact rfl
theorem resL_at (op:LOp) (k:LK) (t:Ret) (z:Pz):(jS op t z k).atN z.made:=by
 cases k <;> simp only [jS] <;> (repeat' split) <;> first | exact rfl | exact B6 _ _ | exact C9 _ _ _ _ | trivial
theorem LPh.at (th:Int) (op:LOp) (z:Pz) (x:LPh) (r:Int × Bool):(x.stp th op z r).atN (z.made+1):=by
 cases x with
 | sub x k=>exact xZ (Sub.at th z x r) k _ fun t s=>resL_at op k t s
 | _=>
  simp only [LPh.stp]
  (repeat' split) <;> first | exact rfl | exact B6 _ _ | exact Js _ _ _ | exact C9 _ _ _ z.got | exact DP _ _ _ _ _ _ _ z.got
section
variable {th me:Int} {op:LOp}
theorem Bo:∀ (l:Log) {x:LPh} {z z':Pz} {o:dA},fM th me op x z l= .fin (o,z')->z.made < z'.made/\z'.made<=z.made+l.length/\(∀ n,z'.made<=z.made+n->fM th me op x z (l.take n)= .fin (o,z'))/\(∀ n,z.made+n < z'.made->∃ a,fM th me op x z (l.take n)= .ask a)
 | [],x,z,z',o,h=>by cases h
 | r :: l,x,z,z',o,h=>by
  rw [fp] at h;have ha:=LPh.at th op z x r
  cases hx:x.stp th op z r with
  | go x1 z1=>
   rw [hx] at h ha;have ha:z1.made=z.made+1:=ha;obtain ⟨h1,h2,h3,h4⟩:=Bo l (x:=x1) (z:=z1) h;refine ⟨zO,by simp only [List.length_cons];omega,fun n hn=>?_,fun n hn=>?_⟩
   ·obtain ⟨n,rfl⟩:∃ m,n=m+1:=⟨n - 1,zO⟩;rw [List.take_succ_cons,fp,hx];exact h3 n zO
   ·cases n with
    | zero=>exact ⟨_,rfl⟩
    | succ n=>
     rw [List.take_succ_cons,fp,hx];exact h4 n zO
  | out o1 z1=>
   rw [hx] at h ha;have ha:z1.made=z.made+1:=ha;injection h with h
   injection h with h5 h6
   subst h5 h6;refine ⟨zO,by simp only [List.length_cons];omega,fun n hn=>?_,fun n hn=>?_⟩
   ·obtain ⟨n,rfl⟩:∃ m,n=m+1:=⟨n - 1,zO⟩;rw [List.take_succ_cons,fp,hx];rfl
   ·obtain rfl:n=0:=zO;exact ⟨_,rfl⟩
  | stuck=>rw [hx] at h;cases h
theorem JS:∀ (l:Log) {x:LPh} {z:Pz},fM th me op x z l≠ .stuck->∀ n,fM th me op x z (l.take n)≠ .stuck
 | [],x,z,h,n=>by rw [List.take_nil];exact h
 | r :: l,x,z,h,0=>by intro e;cases e
 | r :: l,x,z,h,n+1=>by
  rw [List.take_succ_cons,fp];rw [fp] at h
  cases hx:x.stp th op z r with
  | go x1 z1=>rw [hx] at h;exact JS l h n
  | out o1 z1=>intro e;cases e
  | stuck=>rw [hx] at h;exact absurd rfl h
theorem JT:∀ (l l':Log) {x:LPh} {z z':Pz} {o:dA},fM th me op x z l= .fin (o,z')->fM th me op x z (l++l')= .fin (o,z')
 | [],l',x,z,z',o,h=>by cases h
 | r :: l,l',x,z,z',o,h=>by
  rw [List.cons_append,fp];rw [fp] at h
  cases hx:x.stp th op z r with
  | go x1 z1=>rw [hx] at h;exact JT l l' h
  | out o1 z1=>rw [hx] at h;exact h
  | stuck=>rw [hx] at h;cases h
end
def Rg (n:Int):Prop:=0<=n/\n < 65536
theorem Br (x:Int):Rg (idxOf x):=NN x
def Sub.sI (m:Nat):Sub->Prop
 | .g2 _ _ _=>1<=m
 | .t4 n _=>Rg n
 | .t5 n _ _=>Rg n
 | _=>True
def SX.sI:SX->Prop
 | .go x z=>x.sI z.made
 | .ret (.gd _ p) z=>p+2=z.made
 | .ret (.tk n _ _) _=>Rg n
 | _=>True
theorem Kk (z:Pz) (i:Nat):(dK z i).sI:=by unfold dK;split <;> trivial
theorem Sub.JR (th:Int) {z:Pz} {x:Sub} (h:x.sI z.made) (r:Int × Bool):(x.stp th z r).sI:=by
 cases x with
 | cl i=>exact Kk _ _
 | g1 i c=>show 1<=z.made+1;omega
 | g2 i c v=>
  simp only [Sub.stp];split
  ·show z.made - 1+2=z.made+1;have:1<=z.made:=h;omega
  ·trivial
 | t1=>
  simp only [Sub.stp];split
  ·exact ⟨zD,zD⟩
  ·trivial
 | t3 fr lk=>
  simp only [Sub.stp];split
  ·exact Br fr
  ·trivial
 | t4 n p=>exact h
 | t5 n b p=>exact h
 | _=>simp only [Sub.stp];(try split) <;> trivial
def FK.pO (m:Nat):FK->Prop
 | .fin p=>p < m
 | _=>True
def LK.pO (m:Nat):LK->Prop
 | .fh k=>k.pO m
 | .fn k f=>k.pO m/\f.pt < m
 | .fr k f=>k.pO m/\f.pt < m
 | .out o=>o.aH < m
 | .clr o=>o.aH < m
 | .pt _ _=>True
 | .dc _ o=>o.aH < m
def LPh.pO (m:Nat):LPh->Prop
 | .sub x k=>x.sI m/\k.pO m
 | .fs k f _ told=>k.pO m/\f.pt < m/\told < m
 | .fo k f _ told=>k.pO m/\f.pt < m/\told < m
 | .fc k _ _=>k.pO m
 | .gv _ p=>p < m
 | .du _ _ _ p=>p < m
 | _=>True
def LX.pO:LX->Prop
 | .go x z=>x.pO z.made
 | .out o z=>o.aH < z.made
 | .stuck=>True
theorem FK.je {m n:Nat} (h:m<=n) {k:FK} (hk:k.pO m):k.pO n:=by
 cases k with
 | fin p=>exact bg hk h
 | _=>trivial
theorem LK.je {m n:Nat} (h:m<=n) {k:LK} (hk:k.pO m):k.pO n:=by
 cases k with
 | fh k=>exact FK.je h hk
 | fn k f=>exact ⟨FK.je h hk.1,bg hk.2 h⟩
 | fr k f=>exact ⟨FK.je h hk.1,bg hk.2 h⟩
 | out o=>exact bg hk h
 | clr o=>exact bg hk h
 | pt _ _=>trivial
 | dc _ o=>exact bg hk h
theorem BY {z:Pz} {i:Nat} {x:Sub} {z':Pz} (h:dK z i= .go x z'):x.sI z'.made/\z'.made=z.made:=by
 have h1:=Kk z i;have h2:=uy z i;rw [h] at h1 h2;exact ⟨h1,h2⟩
theorem Kj {z:Pz} {i:Nat} {t:Ret} {z':Pz} (h:dK z i= .ret t z'):z'.made=z.made:=by
 have h2:=uy z i;rw [h] at h2;exact h2
theorem qe {o:dA} {z:Pz} (h:o.aH < z.made):(iE o z).pO:=by
 unfold iE
 cases hx:dK z 0 with
 | go x z'=>obtain ⟨h1,h2⟩:=BY hx;exact ⟨h1,by show o.aH < z'.made;rw [h2];exact h⟩
 | ret t z'=>show o.aH < z'.made;rw [Kj hx];exact h
 | stuck=>trivial
theorem Jo {n:Int} {o:dA} {z:Pz} (h:o.aH < z.made):(ie n o z).pO:=by
 unfold ie
 cases hx:dK z 0 with
 | go x z'=>obtain ⟨h1,h2⟩:=BY hx;exact ⟨h1,by show o.aH < z'.made;rw [h2];exact h⟩
 | ret t z'=>exact ⟨trivial,by show o.aH < z'.made;rw [Kj hx];exact h⟩
 | stuck=>trivial
theorem zj {op:LOp} {k:FK} {b:Bool} {prev cur next:Int} {pt:Nat} {z:Pz} (hk:k.pO z.made) (hp:pt < z.made):(kI op k b prev cur next pt z).pO:=by
 cases k with
 | get=>
  simp only [kI];split
  ·exact hp
  ·exact qe hp
 | put n=>
  simp only [kI];split
  ·split
   ·exact ⟨trivial,hp⟩
   ·exact qe hp
  ·split
   ·exact ⟨trivial,trivial⟩
   ·trivial
 | del=>
  simp only [kI];split
  ·trivial
  ·exact qe hp
 | fin p=>exact qe hk
theorem yF {op:LOp} {k:FK} {f:Fp} {z:Pz} (hk:k.pO z.made) (hp:f.pt < z.made):(fY op k f z).pO:=by
 unfold fY;split
 ·exact zj hk hp
 ·exact ⟨trivial,hk,hp⟩
theorem resL_pO {op:LOp} {k:LK} {t:Ret} {z:Pz} (hk:k.pO z.made) (hs:(SX.ret t z).sI):(jS op t z k).pO:=by
 cases k with
 | fh k=>cases t with
  | gd v p=>exact yF hk (show p < z.made by have:p+2=z.made:=hs;omega)
  | tk _ _ _=>trivial
  | un=>trivial
 | fn k f=>cases t with
  | gd v p=>exact ⟨hk.1,hk.2,by have:p+2=z.made:=hs;omega⟩
  | tk _ _ _=>trivial
  | un=>trivial
 | fr k f=>exact yF hk.1 hk.2
 | out o=>exact hk
 | clr o=>exact qe hk
 | pt prev cur=>cases t with
  | tk n p ok=>cases ok <;> trivial
  | gd _ _=>trivial
  | un=>trivial
 | dc n o=>exact ⟨trivial,hk⟩
theorem LPh.pO_step (th:Int) (op:LOp) {z:Pz} {x:LPh} (h:x.pO z.made) (r:Int × Bool):(x.stp th op z r).pO:=by
 have hm:z.made<=z.got.made:=uO _;have hl:z.made < z.got.made:=Nat.lt_succ_self _
 cases x with
 | sub x k=>
  have hs:=Sub.JR th h.1 r;have ha:=Sub.at th z x r;simp only [LPh.stp]
  cases hx:x.stp th z r with
  | go x' z'=>
   rw [hx] at hs ha;have ha:z'.made=z.made+1:=ha;exact ⟨hs,LK.je zO h.2⟩
  | ret t z'=>
   rw [hx] at hs ha;have ha:z'.made=z.made+1:=ha;exact resL_pO (LK.je zO h.2) hs
  | stuck=>trivial
 | fs k f next told=>
  simp only [LPh.stp];split
  ·exact ⟨trivial,FK.je hm h.1⟩
  ·exact ⟨FK.je hm h.1,bg h.2.1 hm,bg h.2.2 hm⟩
 | fo k f next told=>
  simp only [LPh.stp];split
  ·exact FK.je hm h.1
  ·split
   ·exact yF (FK.je hm h.1) (bg h.2.2 hm)
   ·split
    ·exact zj (FK.je hm h.1) (bg h.2.2 hm)
    ·exact zj (FK.je hm h.1) (by show z.made - 1 < z.made+1;omega)
 | fc k f nx=>
  simp only [LPh.stp];split
  ·exact ⟨trivial,FK.je hm h,hl⟩
  ·exact ⟨trivial,FK.je hm h⟩
 | gv n p=>exact qe (bg h hm)
 | p1 n prev cur=>trivial
 | p2 n prev cur=>trivial
 | p0 n prev cur=>trivial
 | pc n prev cur=>
  simp only [LPh.stp];split
  ·exact qe hl
  ·exact ⟨trivial,trivial⟩
 | dm prev cur next=>
  simp only [LPh.stp];split
  ·exact hl
  ·exact ⟨trivial,trivial⟩
 | du prev cur next p=>
  simp only [LPh.stp];split
  ·exact Jo (bg h hm)
  ·exact ⟨trivial,bg h hm⟩
theorem MD {th me:Int} {op:LOp}:∀ (l:Log) {x:LPh} {z z':Pz} {o:dA},x.pO z.made->fM th me op x z l= .fin (o,z')->o.aH < z'.made
 | [],x,z,z',o,_,h=>by cases h
 | r :: l,x,z,z',o,hp,h=>by
  rw [fp] at h;have ha:=LPh.pO_step th op hp r
  cases hx:x.stp th op z r with
  | go x1 z1=>rw [hx] at h ha;exact MD l ha h
  | out o1 z1=>
   rw [hx] at h ha;injection h with h
   injection h with h5 h6
   subst h5 h6;exact ha
  | stuck=>rw [hx] at h;cases h
section
variable {L:Log} {S:LX} {th me:Int} {op:LOp}
def zL (L:Log) (S:LX) (th me:Int) (op:LOp) (o:dA):Prop:=
 (o.is=true->∃ a,cS th me op S (L.take o.aH)= .ask a/\a.v=a9 o.node)/\(o.is=false->∃ r,L[o.aH+2]? =some r/\r.1=a9 o.node)/\Rg o.node
def FK.isP:FK->Prop
 | .put n=>Rg n
 | _=>False
def LK.pI (L:Log) (S:LX) (th me:Int) (op:LOp):LK->Prop
 | .fh k=>k.isP
 | .fn k f=>k.isP/\Rg f.cur
 | .fr k f=>k.isP/\Rg f.cur
 | .out o=>zL L S th me op o
 | .clr o=>zL L S th me op o
 | .pt _ cur=>Rg cur
 | .dc _ _=>False
def LPh.pI (L:Log) (S:LX) (th me:Int) (op:LOp) (m:Nat):LPh->Prop
 | .sub x k=>x.sI m/\k.pI L S th me op
 | .fs k f _ told=>k.isP/\Rg f.cur/\told+2=m
 | .fo k f _ told=>k.isP/\Rg f.cur/\∃ r,L[told+2]? =some r/\r.1=a9 f.cur
 | .fc k f nx=>k.isP/\Rg nx
 | .p1 n _ _=>Rg n
 | .p2 n _ _=>Rg n
 | .p0 n _ _=>Rg n
 | .pc n _ _=>Rg n
 | _=>False
def pIX (L:Log) (S:LX) (th me:Int) (op:LOp):LX->Prop
 | .go x z=>x.pI L S th me op z.made
 | .out o _=>zL L S th me op o
 | .stuck=>True
theorem B1 {o:dA} {z:Pz} (h:zL L S th me op o):pIX L S th me op (iE o z):=by
 unfold iE
 cases hx:dK z 0 with
 | go x z'=>exact ⟨(BY hx).1,h⟩
 | ret t z'=>exact h
 | stuck=>trivial
theorem zm {n:Int} {b:Bool} {prev cur next:Int} {pt:Nat} {z:Pz} (hn:Rg n) (hc:Rg cur) (h:b=true->∃ r,L[pt+2]? =some r/\r.1=a9 cur):pIX L S th me op (kI op (.put n) b prev cur next pt z):=by
 simp only [kI]
 cases b with
 | true=>
  have hf:zL L S th me op ⟨0,false,pt,cur⟩:=by
   refine ⟨fun h=>?_,fun _=>h rfl,hc⟩
   cases h
  rw [if_pos rfl];split
  ·exact ⟨trivial,hf⟩
  ·exact B1 hf
 | false=>
  rw [if_neg zD];split
  ·exact ⟨trivial,hc⟩
  ·exact hn
theorem rg0:Rg 0:=⟨zD,zD⟩
theorem yG {n:Int} {f:Fp} {z:Pz} (hn:Rg n) (hc:Rg f.cur):pIX L S th me op (fY op (.put n) f z):=by
 unfold fY;split
 ·exact zm hn rg0 (fun h=>by cases h)
 ·exact ⟨trivial,hn,hc⟩
theorem resL_pI {k:LK} {t:Ret} {z:Pz} (hk:k.pI L S th me op) (hs:(SX.ret t z).sI):pIX L S th me op (jS op t z k):=by
 cases k with
 | fh k=>cases k with
  | put n=>cases t with
   | gd v p=>exact yG hk (Br v)
   | tk _ _ _=>trivial
   | un=>trivial
  | _=>exact hk.elim
 | fn k f=>cases t with
  | gd v p=>exact ⟨hk.1,hk.2,hs⟩
  | tk _ _ _=>trivial
  | un=>trivial
 | fr k f=>cases k with
  | put n=>exact yG hk.1 hk.2
  | _=>exact hk.1.elim
 | out o=>exact hk
 | clr o=>exact B1 hk
 | pt prev cur=>cases t with
  | tk n p ok=>
   cases ok with
   | true=>exact hs
   | false=>trivial
  | gd _ _=>trivial
  | un=>trivial
 | dc n o=>exact hk.elim
theorem LPh.pI_step {z:Pz} {x:LPh} (h:x.pI L S th me op z.made) (hR:∀ l',cS th me op S (L.take z.made++l')=fM th me op x z l') {r:Int × Bool} (hr:L[z.made]? =some r):pIX L S th me op (x.stp th op z r):=by
 cases x with
 | sub x k=>
  have hs:=Sub.JR th h.1 r;simp only [LPh.stp]
  cases hx:x.stp th z r with
  | go x' z'=>rw [hx] at hs;exact ⟨hs,h.2⟩
  | ret t z'=>rw [hx] at hs;exact resL_pI h.2 hs
  | stuck=>trivial
 | fs k f next told=>
  cases k with
  | put n=>
   simp only [LPh.stp];split
   ·exact ⟨trivial,h.1⟩
   ·rename_i hc;exact ⟨h.1,h.2.1,r,by rw [h.2.2];exact hr,Decidable.of_not_not hc⟩
  | _=>exact h.1.elim
 | fo k f next told=>
  cases k with
  | put n=>
   simp only [LPh.stp];split
   ·exact ⟨h.1,Br next⟩
   ·split
    ·exact yG h.1 (Br next)
    ·split
     ·exact zm h.1 h.2.1 (fun _=>h.2.2)
     ·exact zm h.1 h.2.1 (fun h=>by cases h)
  | _=>exact h.1.elim
 | fc k f nx=>
  cases k with
  | put n=>
   simp only [LPh.stp];split
   ·exact ⟨trivial,h.1,h.2⟩
   ·exact ⟨trivial,h.1⟩
  | _=>exact h.1.elim
 | gv n p=>exact h.elim
 | p1 n prev cur=>exact h
 | p2 n prev cur=>exact h
 | p0 n prev cur=>exact h
 | pc n prev cur=>
  simp only [LPh.stp];split
  ·refine B1 ⟨fun _=>⟨(LPh.pc n prev cur).acc me op,?_,rfl⟩,(fun h=>by cases h),h⟩
   have:=hR [];rw [List.append_nil] at this;exact this
  ·exact ⟨trivial,h⟩
 | dm prev cur next=>exact h.elim
 | du prev cur next p=>exact h.elim
theorem ME:∀ (l:Log) {x:LPh} {z z':Pz} {o:dA},L.drop z.made=l->(∀ l',cS th me op S (L.take z.made++l')=fM th me op x z l')->x.pI L S th me op z.made->fM th me op x z l= .fin (o,z')->zL L S th me op o
 | [],x,z,z',o,_,_,_,h=>by cases h
 | r :: l,x,z,z',o,hl,hR,hp,h=>by
  have hr:L[z.made]? =some r:=by
   have:=congrArg (fun l=>l[0]?) hl
   simpa using this
  rw [fp] at h;have ha:=LPh.pI_step hp hR hr;have hm:=LPh.at th op z x r;have hR1:∀ l',cS th me op S (L.take (z.made+1)++l')=cS th me op (x.stp th op z r) l':=fun l'=>by
   rw [j7,hr];show cS th me op S (L.take z.made++[r]++l')=_;rw [List.append_assoc,hR,List.singleton_append,fp]
  cases hx:x.stp th op z r with
  | go x1 z1=>
   rw [hx] at h ha hm hR1;have hm:z1.made=z.made+1:=hm;refine ME l (x:=x1) (z:=z1) ?_ (fun l'=>by rw [hm];exact hR1 l') ha h
   rw [hm,<- List.drop_drop,hl];rfl
  | out o1 z1=>
   rw [hx] at h ha;injection h with h
   injection h with h5 h6
   subst h5;exact ha
  | stuck=>rw [hx] at h;cases h
theorem MV {L:Log} {th me:Int} {lo:LOp} {g:cG} {o:dA} {z':Pz} (hk:lo.kind=2) (h:cS th me lo (dp lo g) L= .fin (o,z')):zL L (dp lo g) th me lo o:=by
 have hs:dp lo g= .go (.sub (.g1 0 (.nd lo.h 0)) (.fh (.put 0))) ⟨[0,0,0],g,0⟩:=by unfold dp;rw [hk];rfl
 have h':fM th me lo (.sub (.g1 0 (.nd lo.h 0)) (.fh (.put 0))) ⟨[0,0,0],g,0⟩ L= .fin (o,z'):=by rw [hs] at h;exact h
 exact ME L (x:=.sub (.g1 0 (.nd lo.h 0)) (.fh (.put 0))) (z:=⟨[0,0,0],g,0⟩) rfl (fun l'=>by rw [hs];rfl) ⟨trivial,rg0⟩ h'
theorem qU {lo:LOp} {g:cG} (hk:lo.kind=1\/lo.kind=2\/lo.kind=3):∃ k,dp lo g= .go (.sub (.g1 0 (.nd lo.h 0)) (.fh k)) ⟨[0,0,0],g,0⟩/\∀ m,k.pO m:=by
 rcases hk with h | h | h
 ·exact ⟨.get,by unfold dp;rw [h];rfl,fun _=>trivial⟩
 ·exact ⟨.put 0,by unfold dp;rw [h];rfl,fun _=>trivial⟩
 ·exact ⟨.del,by unfold dp;rw [h];rfl,fun _=>trivial⟩
theorem lo_fin {L:Log} {th me:Int} {lo:LOp} {g:cG} {o:dA} {z':Pz} (hk:lo.kind=1\/lo.kind=2\/lo.kind=3) (h:cS th me lo (dp lo g) L= .fin (o,z')):
  o.aH < z'.made/\z'.made<=L.length/\(∀ n,z'.made<=n->cS th me lo (dp lo g) (L.take n)= .fin (o,z'))/\(∀ n,n < z'.made->∃ a,cS th me lo (dp lo g) (L.take n)= .ask a):=by
 obtain ⟨k,hs,hp⟩:=qU (g:=g) hk;rw [hs] at h ⊢;obtain ⟨h1,h2,h3,h4⟩:=Bo L h;exact ⟨MD L (x:=.sub (.g1 0 (.nd lo.h 0)) (.fh k)) (z:=⟨[0,0,0],g,0⟩) ⟨trivial,hp _⟩ h,by have:z'.made<=0+L.length:=h2;omega,fun n hn=>h3 n (by show z'.made<=0+n;omega),fun n hn=>h4 n (by show 0+n < z'.made;omega)⟩
theorem lo_pre {L:Log} {th me:Int} {lo:LOp} {g:cG} (hk:lo.kind=1\/lo.kind=2\/lo.kind=3) (h:cS th me lo (dp lo g) L≠ .stuck) (n:Nat):cS th me lo (dp lo g) (L.take n)≠ .stuck:=by
 obtain ⟨k,hs,hp⟩:=qU (g:=g) hk;rw [hs] at h ⊢;exact JS L h n
end
def pU (th bk me:Int) (op:MOp):MPh->Nat->cG->Log->An Out
 | x,_,_,[]=>.ask (x.acc me)
 | x,n,g,r :: l=>match x.stp th bk op n g r with
  | .go x' n' g'=>pU th bk me op x' n' g' l
  | .out o=>.fin o
  | .stuck=>.stuck
def eX (th bk me:Int) (op:MOp):MX->Log->An Out
 | .go x n g,l=>pU th bk me op x n g l
 | .out o,_=>.fin o
 | .stuck,_=>.stuck
theorem u0 (th bk me:Int) (op:MOp) (x:MPh) (n:Nat) (g:cG) (r:Int × Bool) (l:Log):pU th bk me op x n g (r :: l)=eX th bk me op (x.stp th bk op n g r) l:=by
 cases h:x.stp th bk op n g r <;> simp [pU,eX,h]
def doM (a:LAc) (F:Int × Bool->Log->An Out):Log->An Out
 | []=>.ask a
 | r :: l=>F r l
theorem ox (th bk me:Int) (op:MOp) (x:MPh) (n:Nat) (g:cG) (l:Log):pU th bk me op x n g l=doM (x.acc me) (fun r l'=>eX th bk me op (x.stp th bk op n g r) l') l:=by
 cases l with
 | nil=>rfl
 | cons r l=>exact u0 th bk me op x n g r l
def OL (dm:Bool) (op:MOp) (sz:Int) (m:Nat) (o:dA) (s:Pz):MX:=
 if dm then .go (.m4 sz o.node) (m+s.made) s.gone else jf op sz { o with aH:=m+o.aH } (m+s.made) s.gone
def DM (th bk me:Int) (op:MOp) (dm:Bool) (sz:Int) (m:Nat) (q:An (dA × Pz)) (l:Log) (d:Nat):An Out:=match q with
 | .ask a=>.ask a
 | .fin (o,s)=>eX th bk me op (OL dm op sz m o s) (l.drop (s.made - d))
 | .stuck=>.stuck
theorem JU (th bk me:Int) (op:MOp) (dm:Bool) (sz:Int) (m:Nat) (lo:LOp):∀ (l:Log) (x:LPh) (s:Pz) (n:Nat) (g:cG),pU th bk me op (.ml dm sz m lo x s) n g l=DM th bk me op dm sz m (fM th me lo x s l) l s.made
 | [],x,s,n,g=>rfl
 | r :: l,x,s,n,g=>by
  rw [u0,fp];have ha:=LPh.at th lo s x r;show eX th bk me op ((x.stp th lo s r).inM dm sz m lo fun o s'=>OL dm op sz m o s') l=_
  cases hx:x.stp th lo s r with
  | go x' s'=>
   rw [hx] at ha;have ha:s'.made=s.made+1:=ha;show pU th bk me op (.ml dm sz m lo x' s') (m+s'.made) s'.gone l=DM th bk me op dm sz m (fM th me lo x' s' l) (r :: l) s.made;rw [JU th bk me op dm sz m lo l x' s']
   cases hy:fM th me lo x' s' l with
   | ask a=>rfl
   | stuck=>rfl
   | fin p=>
    obtain ⟨o,s2⟩:=p;have h1:=(Bo l hy).1;show eX _ _ _ _ _ (l.drop (s2.made - s'.made))=eX _ _ _ _ _ ((r :: l).drop (s2.made - s.made));rw [show s2.made - s.made=(s2.made - s'.made)+1 by omega]
    rfl
  | out o s'=>
   rw [hx] at ha;have ha:s'.made=s.made+1:=ha;show eX _ _ _ _ _ l=eX _ _ _ _ _ ((r :: l).drop (s'.made - s.made));rw [show s'.made - s.made=1 by omega]
   rfl
  | stuck=>rfl
theorem ym (th bk me:Int) (op:MOp) (dm:Bool) (sz:Int) (m:Nat) (lo:LOp) (g:cG) (hk:lo.kind=1\/lo.kind=2\/lo.kind=3) (l:Log) (f:dA->Pz->MX):eX th bk me op ((dp lo g).inM dm sz m lo f) l=DM th bk me op dm sz m (cS th me lo (dp lo g) l) l 0:=by
 obtain ⟨k,hs,-⟩:=qU (g:=g) hk;rw [hs];exact JU th bk me op dm sz m lo l _ _ _ _
end Go.Proofs.YtikdaeddbkopeaaGreatR
namespace Go.Proofs.YtikdaeddbkopeaaGreatR
open Go.RowKit
section
variable {P:Cn} {ops:Array Oper} {Q:Exit->Act->World->Prop} {md:Region.Mode} {S:World->Prop} {E:Nat->Bool}
def eQ (P:Cn) (md:Region.Mode) (ops:Array Oper) (Q:Exit->Act->World->Prop) (S:World->Prop) (E:Nat->Bool):Nat->Array Bool->Act->World->Prop
 | 0,bx,a,w=>qy md ops bx=[]/\Q .normal a w
 | fuel+1,bx,a,w=>
  (qy md ops bx=[]->Q .normal a w)/\
  ∀ i∈qy md ops bx,wpOp P ops Q i (fun a' w'=>(E i=false->S w->S w')/\eQ P md ops Q S E fuel (bx.setIfInBounds i true) a' w') a w
theorem xW:∀ (fuel:Nat) (bx:Array Bool) (a:Act) (w:World),eQ P md ops Q S E fuel bx a w->wpAny P md ops Q fuel bx a w
 | 0,_,_,_,h=>h
 | fuel+1,_,_,_,h=>⟨h.1,fun i hi=>wpOp_mono (fun a' w' h'=>xW fuel _ a' w' h'.2) (h.2 i hi)⟩
def Is (md:Region.Mode) (ops:Array Oper) (E:Nat->Bool) (i:Nat):Bool:=
 (xF ops.size).all fun j=>!E j||j==i||((ops[j]?).map fun o=>o.after.any fun e=>Region.binds md e&&e.on==i).getD true
theorem CB {i:Nat} (h:Is md ops E i=true):∀ j oj,ops[j]? =some oj->E j=true->j≠i->∃ e∈oj.after,Region.binds md e=true/\e.on=i:=by
 intro j oj hj hE dF;have dN:j < ops.size:=(bE.1 hj).1;have h1:=dM.1 h j (List.mem_range.2 dN);rw [hj,hE] at h1;have hne':(j==i)=false:=by simp [dF]
 simp only [hne',Bool.not_true,Bool.false_or,Option.map_some,Option.getD_some] at h1;obtain ⟨k,hk,nY⟩:=Array.any_eq_true.1 h1;simp only [dq,beq_iff_eq] at nY;exact ⟨oj.after[k],Array.getElem_mem hk,nY.1,nY.2⟩
theorem da {i:Nat} {oi:Oper} {v:Value} {fuel:Nat} {bx:Array Bool} {a:Act} {w:World} (hi:ops[i]? =some oi)
  (hs:Region.noSelect ops=true) (hf:Region.free md ops bx i=true) (hr:(qy md ops bx).contains i=true) (hE:Is md ops E i=true)
  (hQ:∀ c a w,Q (.panic c) (a.put oi.dst v) w->Q (.panic c) a w) (hy:YieldsIf P ops S oi v a) (hS:S w)
  (h:eQ P md ops Q S E fuel (bx.setIfInBounds i true) (a.put oi.dst v) w):eQ P md ops Q S E (fuel+1) bx a w:=by
 have NR:=Region.noSelect_spec hs;have hwait:=CB hE;have key:∀ (fuel:Nat) (bx:Array Bool) (a:Act) (w:World),
   (∀ j oj,ops[j]? =some oj->j≠i->bx.getD j true=false->(∀ e∈oj.after,Region.binds md e=true->e.on≠i)->oi.apart ops oj=true)->
   i∈qy md ops bx->YieldsIf P ops S oi v a->S w->
   eQ P md ops Q S E fuel (bx.setIfInBounds i true) (a.put oi.dst v) w->eQ P md ops Q S E (fuel+1) bx a w:=by
  intro fuel
  induction fuel with
  | zero=>
   intro bx a w _ hr hy hS H;refine ⟨fun h=>(by rw [h] at hr;cases hr),fun j hj=>?_⟩
   by_cases Cq:j=i
   ·subst Cq;exact hy.wpOp hi hS ⟨fun _ _=>hS,H⟩
   ·exact absurd (ready_mono hj Cq) (by rw [H.1];simp)
  | succ fuel ih=>
   intro bx a w rm hr hy hS H;refine ⟨fun h=>(by rw [h] at hr;cases hr),fun j hj=>?_⟩
   by_cases Cq:j=i
   ·subst Cq;exact hy.wpOp hi hS ⟨fun _ _=>hS,H⟩
   ·obtain ⟨N2,oj,zQ,bS⟩:=mem_ready.1 hj;have Ds:∀ e∈oj.after,Region.binds md e=true->e.on≠i:=fun e he hb heq=>by
     have g1:=bS e he hb;have g0:=(mem_ready.1 hr).1;rw [heq] at g1;rcases Nat.lt_or_ge i bx.size with h' | h'
     ·simp [h'] at g0 g1;rw [g0] at g1;cases g1
     ·simp [Array.getElem?_eq_none h'] at g1
    have hEj:E j=false:=by
     cases hc:E j with
     | false=>rfl
     | true=>
      obtain ⟨e,he,hb,hon⟩:=hwait j oj zQ hc Cq;exact absurd hon (Ds e he hb)
    have h2:=wpOp_putIf zQ (rm j oj zQ Cq N2 Ds) (fun cs b=>NR i oi cs b hi) (fun cs b=>NR j oj cs b zQ) hQ hy (H.2 j (ready_mono hj Cq))
    refine wpOp_mono (fun a' w' h3=>⟨h3.2.1,ih (bx.setIfInBounds j true) a' w' (fun k ok hk hki I7 mT=>rm k ok hk hki ?_ mT) (ready_mono hr (Ne.symm Cq)) h3.1 (h3.2.1 hEj hS) ?_⟩) h2
    ·by_cases hjk:j=k
     ·subst hjk;exact N2
     ·rw [Go.getD_set_ne true hjk] at I7;exact I7
    ·rw [Array.setIfInBounds_comm _ _ Cq];exact h3.2.2
 exact key fuel bx a w (Region.free_spec hi hf) (by simpa using hr) hy hS h
theorem jB {i:Nat} {oi:Oper} {v:Value} {fuel:Nat} {bx:Array Bool} {a:Act} {w:World} (hi:ops[i]? =some oi)
  (hs:Region.noSelect ops=true) (hf:Region.free md ops bx i=true) (hr:(qy md ops bx).contains i=true)
  (hQ:∀ c a w,Q (.panic c) (a.put oi.dst v) w->Q (.panic c) a w) (hy:YieldsIf P ops (fun _=>True) oi v a)
  (h:eQ P md ops Q S E fuel (bx.setIfInBounds i true) (a.put oi.dst v) w):eQ P md ops Q S E (fuel+1) bx a w:=by
 have NR:=Region.noSelect_spec hs;have key:∀ (fuel:Nat) (bx:Array Bool) (a:Act) (w:World),
   (∀ j oj,ops[j]? =some oj->j≠i->bx.getD j true=false->(∀ e∈oj.after,Region.binds md e=true->e.on≠i)->oi.apart ops oj=true)->
   i∈qy md ops bx->YieldsIf P ops (fun _=>True) oi v a->
   eQ P md ops Q S E fuel (bx.setIfInBounds i true) (a.put oi.dst v) w->eQ P md ops Q S E (fuel+1) bx a w:=by
  intro fuel
  induction fuel with
  | zero=>
   intro bx a w _ hr hy H;refine ⟨fun h=>(by rw [h] at hr;cases hr),fun j hj=>?_⟩
   by_cases Cq:j=i
   ·subst Cq;exact hy.wpOp hi trivial ⟨fun _ h=>h,H⟩
   ·exact absurd (ready_mono hj Cq) (by rw [H.1];simp)
  | succ fuel ih=>
   intro bx a w rm hr hy H;refine ⟨fun h=>(by rw [h] at hr;cases hr),fun j hj=>?_⟩
   by_cases Cq:j=i
   ·subst Cq;exact hy.wpOp hi trivial ⟨fun _ h=>h,H⟩
   ·obtain ⟨N2,oj,zQ,bS⟩:=mem_ready.1 hj;have Ds:∀ e∈oj.after,Region.binds md e=true->e.on≠i:=fun e he hb heq=>by
     have g1:=bS e he hb;have g0:=(mem_ready.1 hr).1;rw [heq] at g1;rcases Nat.lt_or_ge i bx.size with h' | h'
     ·simp [h'] at g0 g1;rw [g0] at g1;cases g1
     ·simp [Array.getElem?_eq_none h'] at g1
    have h2:=wpOp_putIf zQ (rm j oj zQ Cq N2 Ds) (fun cs b=>NR i oi cs b hi) (fun cs b=>NR j oj cs b zQ) hQ hy (H.2 j (ready_mono hj Cq))
    refine wpOp_mono (fun a' w' h3=>⟨h3.2.1,ih (bx.setIfInBounds j true) a' w' (fun k ok hk hki I7 mT=>rm k ok hk hki ?_ mT) (ready_mono hr (Ne.symm Cq)) h3.1 ?_⟩) h2
    ·by_cases hjk:j=k
     ·subst hjk;exact N2
     ·rw [Go.getD_set_ne true hjk] at I7;exact I7
    ·rw [Array.setIfInBounds_comm _ _ Cq];exact h3.2.2
 exact key fuel bx a w (Region.free_spec hi hf) (by simpa using hr) hy h
theorem aN {bx:Array Bool} {a:Act} {w:World} (hr:qy md ops bx=[]) (h:Q .normal a w):∀ fuel,eQ P md ops Q S E fuel bx a w
 | 0=>⟨hr,h⟩
 | _+1=>⟨fun _=>h,by rw [hr];simp⟩
theorem aE {i:Nat} {o:Oper} {fuel:Nat} {bx:Array Bool} {a:Act} {w:World} (hr:qy md ops bx=[i]) (ho:ops[i]? =some o)
  (h:∀ K':Act->World->Prop,Shut (∀ a w,(E i=false->S w)->eQ P md ops Q S E fuel (bx.setIfInBounds i true) a w->K' a w)->if Eg o (yielded ops a.tmps)=true then Oper.wp P o a w K' Q else K' (a.put o.dst undef) w):
  eQ P md ops Q S E (fuel+1) bx a w:=by
 refine ⟨fun h0=>(by rw [hr] at h0;cases h0),fun j hj=>?_⟩
 rw [hr] at hj;obtain rfl:=eN.1 hj;exact wpOp_step ho (fun K' hK=>h K' (fun a w hS hW=>hK a w ⟨fun h _=>hS h,hW⟩))
theorem aP {id:Nat} {a:Act} {w:World} (S:World->Prop) (E:Nat->Bool) (hm:P.follows .mixedOrders=true)
  (h:eQ P .any ops Q S E ops.size (Array.replicate ops.size false) a w.drew):(Code.region id ops true).wp P Q a w:=
 wp_region_any hm (xW _ _ _ _ h)
theorem pE {w w':World} {p:Addr} {v:Value} (hb:Below w.heap.size w w') (h:w.cell? p=some v):w'.cell? p=some v:=(hb.cell (World.block_lt_of_cell? w p h)).trans h
def Src (w:World) (B size:Nat) (U:Option Addr) (n c:Nat) (news:List Value):Prop:=
 news.length=n * size/\((U=none/\n=0/\c=0)\/∃ g o,U=some ⟨g,o,none⟩/\g < B/\∀ j u,news[j]? =some u->w.cell? ⟨g,o+j,none⟩=some u)
theorem Src.below {w w':World} {B size:Nat} {U:Option Addr} {n c:Nat} {news:List Value} (h:Src w B size U n c news) (hb:Below B w w'):Src w' B size U n c news:=by
 refine ⟨h.1,?_⟩;rcases h.2 with h2 | ⟨g,o,e,hg,hc⟩
 ·exact .inl h2
 ·exact .inr ⟨g,o,e,hg,fun j u hu=>(hb.cell (p:=⟨g,o+j,none⟩) hg).trans (hc j u hu)⟩
theorem Src.own {w:World} {B b0 size:Nat} {e:bR} {U:Option Addr} {n c:Nat} {xs:List Value} (h:w.ownsRow b0 e size (.slice U n c) n xs) (hB:w.heap.size<=B):Src w B size U n c xs:=by
 refine ⟨h.1,?_⟩;rcases h.2 with ⟨h1,h2⟩ | ⟨g,cap,cur,h1,_,h3,_⟩
 ·injection h1 with e1 e2 e3
  exact .inl ⟨e1,h2,e3⟩
 ·injection h1 with e1 e2 e3
  subst e1 e3;refine .inr ⟨g,0,rfl,bg (bE.1 h3).1 hB,fun j u hu=>?_⟩
  have hj:=(a8.1 hu).1;rw [h.1] at hj;rw [eE];exact (jj h j hj).trans hu
theorem bY {B:Nat} {a w w':World} {base sz n:Nat} {e:bR} {v:Value} {xs:List Value} (h:Below B a w) (hr:w.ownsRow base e sz v n xs) (hg:w.grownBy w' v.ownBlock) (hs:B<=w.heap.size) (hb:B<=base):Below B a w':=
 h.grown hg hs (fun k hk=>aQ hb (World.ownsRow.lt hr _ hk).1)
structure rI (P:Cn) (t e:bR) (i:TypeInfo) (z:Value) (size bytes:Nat):Prop where
 und:P.underlying t=some (.slice e)
 info:P.info? e=some i
 zero:i.zero=some z
 hsize:i.size=size
 hbytes:i.bytes=bytes
 hzs:z.cells.size=size
 pos:0 < size
theorem rI.of {P:Cn} {t e:bR} {z:Value} {size bytes:Nat} (hu:P.underlying t=some (.slice e)) (h:(P.info? e).map (fun i=>(i.zero,i.size,i.bytes))=some (some z,size,bytes)) (hzs:z.cells.size=size) (pos:0 < size):∃ i,rI P t e i z size bytes:=by
 obtain ⟨i,hi,hz⟩:=Option.map_eq_some_iff.1 h;injection hz with h1 h2
 injection h2 with h2 h3
 exact ⟨i,hu,hi,h1,h2,h3,hzs,pos⟩
variable {t e:bR} {inf:TypeInfo} {z:Value} {size bytes:Nat}
theorem rb (T:rI P t e inf z size bytes) {o:Oper} {a:Act} {w:World} {K:Act->World->Prop} (ho:o.op= .buildSlice t 0 #[])
  (h:K (a.put o.dst (af (some ⟨w.heap.size,0,none⟩) 0 0)) (w.alloc (ag #[] e))):o.wp P a w K Q:=by
 have hr:(Instr.buildSlice t 0 #[]).run P w= .ok (af (some ⟨w.heap.size,0,none⟩) 0 0) (w.alloc (ag #[] e)):=by
  simp [Instr.buildSlice,run_underlying T.und,sizeOf,typeInfo,T.info,Instr.fill,newRow]
  congr 2
  apply Array.ext <;> simp
 unfold Oper.wp Av;simp only [ho,di,List.map_toArray,List.map_nil,hr,bQ];exact h
theorem AM (w:World) (base:Nat) (hb:base<=w.heap.size):(w.alloc (ag #[] e)).ownsRow base e size (af (some ⟨w.heap.size,0,none⟩) 0 0) 0 []:=
 World.ownsRow_lit w #[] 0 hb (by simp [nu]) zS
theorem ra {o:Oper} {a:Act} {w:World} {K:Act->World->Prop} (x:Operand) (v:Value) (ec:Array Value) (hb:∀ w:World,(Instr.buildSlice t 1 #[(0,v)]).run P w= .ok (af (some ⟨w.heap.size,0,none⟩) 1 1) (w.alloc (ag ec e)))
  (ho:o.op= .buildSlice t 1 #[(0,x)]) (hx:a.eval x=v)
  (h:K (a.put o.dst (af (some ⟨w.heap.size,0,none⟩) 1 1)) (w.alloc (ag ec e))):o.wp P a w K Q:=by
 unfold Oper.wp Av;simp only [ho,di,List.map_toArray,List.map_nil,List.map_cons,hx,hb w,bQ];exact h
theorem eY (T:rI P t e inf z size bytes) {o:Oper} {a:Act} {w:World} {K:Act->World->Prop} (s x:Operand)
  (ho:o.op= .call { callee:=.builtin .append,args:=#[s,x],argTypes:=#[t,t] })
  (base:Nat) (v:Value) (n0:Nat) (xs:List Value) (hs:a.eval s=v) (bn:w.ownsRow base e size v n0 xs) {B:Nat} (U:Option Addr) (n c:Nat) (news:List Value) (hx:a.eval x= .slice U n c)
  (qH:Src w B size U n c news) (h1:∀ u∈news,u.oneCell'=true) (hn:(n0+n) * bytes<=140737488355328) (uL:n0+n<=100000) (DA:base<=w.heap.size)
  (h:∀ v' w',w'.ownsRow base e size v' (n0+n) (xs++news)->w.grownBy w' v.ownBlock->K (a.put o.dst v') w'):o.wp P a w K Q:=by
 have hm:n0+n<=nu:=by simp only [nu];omega
 rcases qH.2 with ⟨rfl,rfl,rfl⟩ | ⟨g,of,rfl,_,hc⟩
 ·have sM:news=[]:=List.length_eq_zero_iff.1 (by rw [qH.1];simp)
  subst sM;have hr:=run_append_owned_none (P:=P) w base t o.type e inf size T.und T.info v n0 xs bn;unfold Oper.wp Av;simp only [ho,resolve,invoke,builtin,di,dx,bQ,List.map_toArray,List.map_cons,List.map_nil,hs,hx,hr];exact h v w (by simpa using bn) ⟨rfl,rfl,rfl,az _,fun _ _ _=>rfl⟩
 ·obtain ⟨v',w',hr,h2,h3,_,_⟩:=run_append_own_at (P:=P) w base t o.type e inf z size bytes T.und T.info T.zero T.hsize T.hbytes T.hzs T.pos v n0 xs bn ⟨g,of,none⟩ n c news qH.1 (fun j u hu=>by rw [fV];exact hc j u hu) h1 hm hn DA
  unfold Oper.wp Av;simp only [ho,resolve,invoke,builtin,di,dx,bQ,List.map_toArray,List.map_cons,List.map_nil,hs,hx,hr];exact h v' w' h2 h3
theorem nf {i:Nat} {o:Oper} {K:Act->World->Prop} {a:Act} {w:World} (ho:ops[i]? =some o) (hg:o.guard=none) (h:o.wp P a w K Q):wpOp P ops Q i K a w:=by
 unfold wpOp;simp only [ho];rw [if_pos (by unfold Eg;rw [hg])]
 exact .inl h
theorem pV {w:World} {g:Nat} {ec:Array Value} {e:bR} {B size:Nat} (h:Bk w g e ec) (hs:ec.size=size) (hB:g < B):Src w B size (some ⟨g,0,none⟩) 1 1 ec.toList:=by
 refine ⟨by simp [hs],.inr ⟨g,0,rfl,hB,fun j u hu=>?_⟩⟩
 rw [eE,h.cell j]
 simpa using hu
theorem vT (T:rI P t e inf z size bytes) {fuel:Nat} {bx:Array Bool} {a:Act} {w:World} (iA iB iC iD tA tB tC tD:Nat) (xs xe:Operand) {oA oB oC oD:Oper}
  (hA:ops[iA]? =some oA) (hB:ops[iB]? =some oB) (hC:ops[iC]? =some oC) (hD:ops[iD]? =some oD)
  (sA:(oA.dst=some tA/\oA.op= .buildSlice t 0 #[]/\oA.guard=none)) (sB:(oB.dst=some tB/\oB.op= .call { callee:=.builtin .append,args:=#[.tmp tA,xs],argTypes:=#[t,t] } /\oB.guard=none))
  (sC:(oC.dst=some tC/\oC.op= .buildSlice t 1 #[(0,xe)]/\oC.guard=none)) (sD:(oD.dst=some tD/\oD.op= .call { callee:=.builtin .append,args:=#[.tmp tB,.tmp tC],argTypes:=#[t,t] } /\oD.guard=none))
  (r0:qy md ops bx=[iA,iC]) (r1:qy md ops (bx.setIfInBounds iA true)=[iB,iC]) (r2:qy md ops (bx.setIfInBounds iC true)=[iA])
  (r3:qy md ops ((bx.setIfInBounds iA true).setIfInBounds iB true)=[iC]) (r4:qy md ops ((bx.setIfInBounds iA true).setIfInBounds iC true)=[iB])
  (r5:qy md ops (((bx.setIfInBounds iA true).setIfInBounds iB true).setIfInBounds iC true)=[iD])
  (hap:tA≠tB/\tA≠tC/\tB≠tC/\xs≠ .tmp tA/\xs≠ .tmp tC/\xe≠ .tmp tA/\xe≠ .tmp tB/\iA≠iC/\iB≠iC) (nX:tA < a.tmps.size/\tB < a.tmps.size/\tC < a.tmps.size)
  (B:Nat) (s9:B<=w.heap.size) (hS:S w) (hSk:∀ w1 w2,Below B w1 w2->S w1->S w2)
  (U:Option Addr) (n c:Nat) (news:List Value) (hx:a.eval xs= .slice U n c) (qH:Src w B size U n c news) (h1:∀ u∈news,u.oneCell'=true)
  (ve:Value) (ec:Array Value) (he:a.eval xe=ve) (hb:∀ w:World,(Instr.buildSlice t 1 #[(0,ve)]).run P w= .ok (af (some ⟨w.heap.size,0,none⟩) 1 1) (w.alloc (ag ec e))) (hes:ec.size=size) (h2:∀ u∈ec.toList,u.oneCell'=true)
  (hn:(n+1) * bytes<=140737488355328) (uL:n+1<=100000)
  (h:∀ vA vB vC vD w',w'.ownsRow B e size vD (n+1) (news++ec.toList)->Below B w w'->S w'->eQ P md ops Q S E fuel ((((bx.setIfInBounds iA true).setIfInBounds iB true).setIfInBounds iC true).setIfInBounds iD true) ((((a.put (some tA) vA).put (some tB) vB).put (some tC) vC).put (some tD) vD) w'):
  eQ P md ops Q S E (fuel+4) bx a w:=by
 obtain ⟨n1,n2,n3,n4,n5,n6,n7,n8,n9⟩:=hap;obtain ⟨z1,z2,z3⟩:=nX;have ev:∀ (a:Act) (tt:Nat) (v:Value) (x:Operand),x≠ .tmp tt->(a.put (some tt) v).eval x=a.eval x:=fun a tt v x dF=>Act.eval_put (fun d hd=>by injection hd with hd;subst hd;exact dF)
 have same:∀ (a:Act) (tt:Nat) (v:Value),tt < a.tmps.size->(a.put (some tt) v).eval (.tmp tt)=v:=fun a tt v dN=>by
  simp [Act.eval,Act.put,dN]
 have szp:∀ (a:Act) (tt:Nat) (v:Value),(a.put (some tt) v).tmps.size=a.tmps.size:=fun a tt v=>by simp [Act.put]
 have comm:∀ (a:Act) (x y:Nat) (v u:Value),x≠y->(a.put (some x) v).put (some y) u=(a.put (some y) u).put (some x) v:=fun a x y v u dF=>Act.put_comm a v u (fun d hd qE=>by injection hd with hd;injection qE with qE;omega)
 have LY:∀ w',Below B w w'->B<=w'.heap.size:=fun w' hh=>aQ s9 hh.size
 have goD:∀ (vA vB:Value) (gC:Nat) (w':World),w'.ownsRow B e size vB n news->Bk w' gC e ec->Below B w w'->
   eQ P md ops Q S E (fuel+1) (((bx.setIfInBounds iA true).setIfInBounds iB true).setIfInBounds iC true) (((a.put (some tA) vA).put (some tB) vB).put (some tC) (af (some ⟨gC,0,none⟩) 1 1)) w':=by
  intro vA vB gC w' hBo kC hbel;refine ⟨fun h0=>(by rw [r5] at h0;cases h0),fun j hj=>?_⟩
  rw [r5] at hj;obtain rfl:=eN.1 hj;refine nf hD sD.2.2 (eY T (.tmp tB) (.tmp tC) sD.2.1 B vB n news ?_ hBo (B:=w'.heap.size) (some ⟨gC,0,none⟩) 1 1 ec.toList ?_ (pV kC hes kC.lt) h2 hn uL (LY _ hbel) ?_)
  ·rw [ev _ _ _ _ (by simpa using n3)];exact same _ _ _ (by rw [szp];exact z2)
  ·exact same _ _ _ (by rw [szp,szp];exact z3)
  ·intro vD w2 bn hg;have cY:=bY hbel hBo hg (LY _ hbel) (az _);have hS2:=hSk _ _ cY hS;rw [sD.1];exact ⟨fun _ _=>hS2,h vA vB _ vD w2 bn cY hS2⟩
 refine ⟨fun h0=>(by rw [r0] at h0;cases h0),fun j hj=>?_⟩
 rw [r0] at hj;rcases bD.1 hj with rfl | hj
 ·-- A first
  refine nf hA sA.2.2 (rb T sA.2.1 ?_);rw [sA.1];have hAo:=AM (e:=e) (size:=size) w B s9;have bA:Below B w (w.alloc (ag #[] e)):=(Below.refl _ _).alloc s9 _;have szA:w.heap.size < (w.alloc (ag #[] e)).heap.size:=zS;generalize w.alloc (ag #[] e)=wA at *;generalize w.heap.size=gA at *;refine ⟨fun _ _=>hSk _ _ bA hS,fun h0=>(by rw [r1] at h0;cases h0),fun j hj=>?_⟩
  rw [r1] at hj;rcases bD.1 hj with rfl | hj
  ·-- A, B, C
   refine nf hB sB.2.2 (eY T (.tmp tA) xs sB.2.1 B _ 0 [] (same _ _ _ z1) hAo (B:=B) U n c news (by rw [ev _ _ _ _ n4];exact hx) (qH.below bA) h1 (by rw [eE];exact aQ (Nat.mul_le_mul_right _ (uO n)) hn) zO (LY _ bA) ?_)
   intro vB wB hBo hg;rw [eE,List.nil_append] at hBo;have bB:=bY bA hAo hg (LY _ bA) (az _);rw [sB.1];refine ⟨fun _ _=>hSk _ _ bB hS,fun h0=>(by rw [r3] at h0;cases h0),fun j hj=>?_⟩
   rw [r3] at hj;obtain rfl:=eN.1 hj;refine nf hC sC.2.2 (ra xe ve ec hb sC.2.1 (by rw [ev _ _ _ _ n7,ev _ _ _ _ n6];exact he) ?_)
   rw [sC.1];have bC:=bB.alloc (LY _ bB) (ag ec e);exact ⟨fun _ _=>hSk _ _ bC hS,goD _ vB _ _ (hBo.alloc _) (Bk.made wB e ec) bC⟩
  ·-- A, C, B
   obtain rfl:=eN.1 hj;refine nf hC sC.2.2 (ra xe ve ec hb sC.2.1 (by rw [ev _ _ _ _ n6];exact he) ?_)
   rw [sC.1];have bC:=bA.alloc (LY _ bA) (ag ec e);have kC:=Bk.made wA e ec;have hAo2:=hAo.alloc (ag ec e);refine ⟨fun _ _=>hSk _ _ bC hS,fun h0=>(by rw [r4] at h0;cases h0),fun j hj=>?_⟩
   rw [r4] at hj;obtain rfl:=eN.1 hj;refine nf hB sB.2.2 (eY T (.tmp tA) xs sB.2.1 B _ 0 [] (by rw [ev _ _ _ _ (by simpa using n2)];exact same _ _ _ z1) hAo2 (B:=B) U n c news (by rw [ev _ _ _ _ n5,ev _ _ _ _ n4];exact hx) (qH.below bC) h1 (by rw [eE];exact aQ (Nat.mul_le_mul_right _ (uO n)) hn) zO (LY _ bC) ?_)
   intro vB wB hBo hg;rw [eE,List.nil_append] at hBo;have bB:=bY bC hAo2 hg (LY _ bC) (az _);have xv:Bk wB wA.heap.size e ec:=(hg.block _ kC.lt (fun e'=>by simp only [Value.ownBlock,Option.some.injEq] at e';omega)).trans kC
   rw [sB.1,comm _ _ _ _ _ (Ne.symm n3),Array.setIfInBounds_comm _ _ n9.symm];exact ⟨fun _ _=>hSk _ _ bB hS,goD _ vB _ _ hBo xv bB⟩
 ·-- C first
  obtain rfl:=eN.1 hj;refine nf hC sC.2.2 (ra xe ve ec hb sC.2.1 he ?_);rw [sC.1];have bC:Below B w (w.alloc (ag ec e)):=(Below.refl _ _).alloc s9 _;have kC:=Bk.made w e ec;generalize w.alloc (ag ec e)=wC at *;generalize w.heap.size=gC at *;refine ⟨fun _ _=>hSk _ _ bC hS,fun h0=>(by rw [r2] at h0;cases h0),fun j hj=>?_⟩
  rw [r2] at hj;obtain rfl:=eN.1 hj;refine nf hA sA.2.2 (rb T sA.2.1 ?_);have hAo:=AM (e:=e) (size:=size) wC B (LY _ bC);have bA:=bC.alloc (LY _ bC) (ag #[] e);have xv:=kC.alloc (ag #[] e);have zC:=kC.lt;generalize wC.alloc (ag #[] e)=wA at *;generalize wC.heap.size=gA at *;rw [sA.1,comm _ _ _ _ _ (Ne.symm n2),Array.setIfInBounds_comm _ _ n8.symm];refine ⟨fun _ _=>hSk _ _ bA hS,fun h0=>(by rw [r4] at h0;cases h0),fun j hj=>?_⟩
  rw [r4] at hj;obtain rfl:=eN.1 hj;refine nf hB sB.2.2 (eY T (.tmp tA) xs sB.2.1 B _ 0 [] (by rw [ev _ _ _ _ (by simpa using n2)];exact same _ _ _ z1) hAo (B:=B) U n c news (by rw [ev _ _ _ _ n5,ev _ _ _ _ n4];exact hx) (qH.below bA) h1 (by rw [eE];exact aQ (Nat.mul_le_mul_right _ (uO n)) hn) zO (LY _ bA) ?_)
  intro vB wB hBo hg;rw [eE,List.nil_append] at hBo;have bB:=bY bA hAo hg (LY _ bA) (az _);have kC3:Bk wB gC e ec:=(hg.block _ xv.lt (fun e'=>by simp only [Value.ownBlock,Option.some.injEq] at e';omega)).trans xv
  rw [sB.1,comm _ _ _ _ _ (Ne.symm n3),Array.setIfInBounds_comm _ _ n9.symm];exact ⟨fun _ _=>hSk _ _ bB hS,goD _ vB _ _ hBo kC3 bB⟩
end
section
variable {P:Cn} {ops:Array Oper} {Q:Exit->Act->World->Prop} {md:Region.Mode} {S:World->Prop} {E:Nat->Bool}
def xH (md:Region.Mode) (ops:Array Oper) (E:Nat->Bool):List (Nat × Nat × Value)->Array Bool->Bool
 | [],_=>true
 | (i,d,_) :: r,l=>Region.free md ops l i&&(qy md ops l).contains i&&Is md ops E i&&(((ops[i]?).bind (·.dst))==some d)&&xH md ops E r (l.setIfInBounds i true)
def Ix:List (Nat × Nat × Value)->Array Bool->Array Bool
 | [],l=>l
 | (i,_,_) :: r,l=>Ix r (l.setIfInBounds i true)
def aR:List (Nat × Nat × Value)->Act->Act
 | [],a=>a
 | (_,d,v) :: r,a=>aR r (a.put (some d) v)
def Iw (P:Cn) (ops:Array Oper) (w:World):List (Nat × Nat × Value)->Act->Prop
 | [],_=>True
 | (i,d,v) :: r,a=>(∃ o,ops[i]? =some o/\((Eg o (yielded ops a.tmps)=true/\(Av a.eval o).run P w= .ok (.value v) w)\/(Eg o (yielded ops a.tmps)=false/\v=undef)))/\Iw P ops w r (a.put (some d) v)
theorem aA (hs:Region.noSelect ops=true) (hQ:∀ d v c a w,Q (.panic c) (Act.put a (some d) v) w->Q (.panic c) a w):∀ (n:Nat) (L:List (Nat × Nat × Value)) {fuel:Nat} {bx:Array Bool} {a:Act} {w:World},
  L.length=n->xH md ops E L bx=true->(∀ w',S w'->Iw P ops w' L a)->S w->eQ P md ops Q S E fuel (Ix L bx) (aR L a) w->eQ P md ops Q S E (fuel+n) bx a w
 | 0,[],_,_,_,_,_,_,_,_,h=>h
 | n+1,(i,d,v) :: r,fuel,bx,a,w,hn,bG,hy,hS,h=>by
  unfold xH at bG;simp only [dq,beq_iff_eq] at bG;obtain ⟨⟨⟨⟨h1,h2⟩,h3⟩,h4⟩,h5⟩:=bG
  cases ho:ops[i]? with
  | none=>rw [ho] at h4;cases h4
  | some oi=>
   rw [ho] at h4;have h4:oi.dst=some d:=h4;have hw0:∀ w',S w'->(Eg oi (yielded ops a.tmps)=true/\(Av a.eval oi).run P w'= .ok (.value v) w')\/(Eg oi (yielded ops a.tmps)=false/\v=undef):=fun w' hw'=>by
    obtain ⟨⟨o,e,hh⟩,-⟩:=hy w' hw';rw [ho] at e;injection e with e;subst e;exact hh
   have hyi:YieldsIf P ops S oi v a:=by
    cases hw:Eg oi (yielded ops a.tmps) with
    | true=>exact .inl ⟨hw,fun w' hw'=>by
      rcases hw0 w' hw' with hh | hh
      ·exact hh.2
      ·rw [hw] at hh;cases hh.1⟩
    | false=>
     refine .inr ⟨hw,?_⟩;rcases hw0 w hS with hh | hh
     ·rw [hw] at hh;cases hh.1
     ·exact hh.2
   refine da (fuel:=fuel+n) (v:=v) ho hs h1 h2 h3 (fun c a w=>by rw [h4];exact hQ d v c a w) hyi hS ?_
   rw [h4];exact aA hs hQ n r (by simpa using hn) h5 (fun w' hw'=>(hy w' hw').2) hS h
theorem wTk (n:Nat) (L:List (Nat × Nat × Value)) {fuel:Nat} {bx:Array Bool} {a:Act} {w:World} (hy:∀ w',S w'->Iw P ops w' L a) (hS:S w) (h:eQ P md ops Q S E fuel (Ix L bx) (aR L a) w)
  (hs:Region.noSelect ops=true:=by kernel_rfl) (hQ:∀ d v c a w,Q (.panic c) (Act.put a (some d) v) w->Q (.panic c) a w:=by exact fun _ _ _ _ _ h=>h) (hn:L.length=n:=by rfl) (bG:xH md ops E L bx=true:=by kernel_rfl):eQ P md ops Q S E (fuel+n) bx a w:=
 aA hs hQ n L hn bG hy hS h
end
theorem zG {p:Prop} (h:p:=by ((try simp only [aq,ao,an,Act.put,aj,ak,al]);go_simp;done)):p:=h
abbrev ptr (g:Nat):Value:=ae (some ⟨g,0,none⟩)
theorem aU {a w:World} (h:Below a.heap.size a w):Below a.heap.size a w.drew:=⟨h.os,h.tape,h.output,h.size,h.block⟩
def hH (w:World) (B:Nat) (A:Option Addr) (l:List (Int × Bool)):Prop:=
 0 < l.length->∃ b o,A=some ⟨b,o,none⟩/\b < B/\∀ k r,l[k]? =some r->w.cell? ⟨b,o+k * 2,none⟩=some (aa ab r.1)/\w.cell? ⟨b,o+k * 2+1,none⟩=some (.bool r.2)
theorem hH.below {w w':World} {B:Nat} {A:Option Addr} {l:List (Int × Bool)} (h:hH w B A l) (hb:Below B w w'):hH w' B A l:=by
 intro hl;obtain ⟨b,o,e,ey,hc⟩:=h hl;refine ⟨b,o,e,ey,fun k a ha=>?_⟩
 obtain ⟨h1,h2⟩:=hc k a ha;exact ⟨(hb.cell (p:=⟨b,_,none⟩) ey).trans h1,(hb.cell (p:=⟨b,_,none⟩) ey).trans h2⟩
theorem hH.more {w:World} {B B':Nat} {A:Option Addr} {l:List (Int × Bool)} (h:hH w B A l) (hB:B<=B'):hH w B' A l:=by
 intro hl;obtain ⟨b,o,e,ey,hc⟩:=h hl;exact ⟨b,o,e,bg ey hB,hc⟩
structure Stp (gm:Nat) (w w':World):Prop where
 os:w'.os=w.os
 tape:w'.tape=w.tape
 output:w'.output=w.output
 size:w.heap.size<=w'.heap.size
 block:∀ b,b < w.heap.size->b≠gm->w'.heap[b]? =w.heap[b]?
section
variable {gm:Nat} {w w' w2:World}
theorem Stp.refl (gm:Nat) (w:World):Stp gm w w:=⟨rfl,rfl,rfl,az _,fun _ _ _=>rfl⟩
theorem Stp.trans (h:Stp gm w w') (k:Stp gm w' w2):Stp gm w w2:=
 ⟨k.os.trans h.os,k.tape.trans h.tape,k.output.trans h.output,aQ h.size k.size,fun b hb hn=>(k.block b (bg hb h.size) hn).trans (h.block b hb hn)⟩
theorem Stp.aS (gm:Nat) (h:Below w.heap.size w w'):Stp gm w w':=⟨h.os,h.tape,h.output,h.size,fun b hb _=>h.block b hb⟩
theorem Stp.set (w:World) (gm i:Nat) (u:Value):Stp gm w (w.setCell ⟨gm,i,none⟩ u):=
 ⟨rfl,rfl,rfl,zS,fun b _ hn=>pM w _ u b hn⟩
theorem Stp.alloc (h:Stp gm w w') (o:Obj):Stp gm w (w'.alloc o):=h.trans (.aS gm (aB (Below.refl _ _) o))
theorem Stp.ay (h:Stp gm w w') {g:Nat} {t:bR} {cs:Array Value} (k:Bk w g t cs) (hn:g≠gm):Bk w' g t cs:=(h.block g k.lt hn).trans k
theorem Stp.part (h:Stp gm w w') {B:Nat} (hB:B<=gm) (hs:B<=w.heap.size):Below B w w':=
 ⟨h.os,h.tape,h.output,h.size,fun b hb=>h.block b zO zO⟩
theorem Stp.drewN (h:Stp gm w w') (n:Nat):Stp gm w (w'.drewN n):=⟨h.os,h.tape,h.output,h.size,h.block⟩
theorem Stp.drew (h:Stp gm w w'):Stp gm w w'.drew:=⟨h.os,h.tape,h.output,h.size,h.block⟩
theorem CM {gp:Nat} {w w':World} (h:Stp gp w w') {b o:Nat} {v:Value} (hb:b < w.heap.size) (hn:b≠gp) (hc:w.cell? ⟨b,o,none⟩=some v):w'.cell? ⟨b,o,none⟩=some v:=by
 rw [<- hc];unfold World.cell?;rw [h.block b hb hn]
end
structure Pk where
 l:Ly
 me:Nat
 A:Option Addr
 cap:Nat
 B:Nat
 gp:Nat
 gv:Nat
 gl:Nat
def GnV (w:World) (gp:Nat) (v:Value) (l:cG):Prop:=
 ∃ G n c,v= .slice G n c/\n=l.length/\(G=none->n=0/\c=0)/\(0 < l.length->∃ b o cs,G=some ⟨b,o,none⟩/\Bk w b 52 cs/\b≠gp/\∀ k r,l[k]? =some r->w.cell? ⟨b,o+k * 2,none⟩=some (aa ab r.1)/\w.cell? ⟨b,o+k * 2+1,none⟩=some (aa ab r.2))
theorem GnV.stp {w w':World} {gp:Nat} {v:Value} {l:cG} (h:GnV w gp v l) (s:Stp gp w w'):GnV w' gp v l:=by
 obtain ⟨G,n,c,e1,e2,e3,hh⟩:=h;refine ⟨G,n,c,e1,e2,e3,fun hl=>?_⟩
 obtain ⟨b,o,cs,e,hb,hn,hc⟩:=hh hl;exact ⟨b,o,cs,e,s.ay hb hn,hn,fun k r hr=>⟨CM s hb.lt hn (hc k r hr).1,CM s hb.lt hn (hc k r hr).2⟩⟩
theorem GnV.ay {w w':World} {gp:Nat} {v:Value} {l:cG} (h:GnV w gp v l) (s:Below w.heap.size w w'):GnV w' gp v l:=h.stp (.aS gp s)
theorem dy {P:Cn} (w:World) (g o:Nat) (ty:bR) (cs:Array Value) (d:TypeDesc) (hc:∀ (j:Nat) (v:Value),cs[j]? =some v->w.cell? ⟨g,o+j,none⟩=some v)
  (hu:P.underlying ty=some d) (hd:(match d with | .struct _ | .array _ _=>true | _=>false)=true) (hi:(P.info? ty).map (·.size)=some cs.size):
  (dr ty ⟨g,o,none⟩).run P w= .ok (.agg cs) w:=by
 have hl:(loadCells ⟨g,o,none⟩ cs.toList.length).run P w= .ok cs.toList.toArray w:=
  run_loadCells_list (P:=P) w ⟨g,o,none⟩ cs.toList (fun j v hv=>by
   rw [fV];exact hc j v (by simpa using hv))
 cases hq:P.info? ty with
 | none=>simp [hq] at hi
 | some i=>
  have hs:i.size=cs.size:=by simpa [hq] using hi
  have hagg:(isAgg ty).run P w= .ok true w:=by
   unfold isAgg;rw [di,run_underlying hu w]
   cases d <;> simp_all
  simp only [Array.length_toList,Array.toArray_toList] at hl;simp [dr,di,hagg,sizeOf,typeInfo,hq,hs,hl]
theorem qA {P:Cn} {ops:Array Oper} {rest:List Oper} {o:Oper} {a:Act} {w:World} {Q:Exit->Act->World->Prop} (hgd:o.guard=none) (ty:bR) (x:Operand) (ho:o.op= .load ty x)
  (g of:Nat) (hx:a.eval x=ae (some ⟨g,of,none⟩)) (cs:Array Value) (d:TypeDesc) (hc:∀ (j:Nat) (v:Value),cs[j]? =some v->w.cell? ⟨g,of+j,none⟩=some v)
  (hu:P.underlying ty=some d) (hd:(match d with | .struct _ | .array _ _=>true | _=>false)=true) (hi:(P.info? ty).map (·.size)=some cs.size)
  (h:wpList P ops Q rest (a.put o.dst (.agg cs)) w):wpList P ops Q (o :: rest) a w:=
 wpList_plain hgd fun _ hK=>by
  unfold Oper.wp Av;simp only [ho,hx,Instr.loadAt,xG,di,dx,bQ,dy w g of ty cs d hc hu hd hi];exact hK _ _ h
theorem mq (a:Int) (b:Bool) (w:World):(uP 75 (.agg #[aa ab a,.bool b]) 0).run aw w= .ok (aa ab a) w:=zK
theorem yr (a:Int) (b:Bool) (w:World):(uP 75 (.agg #[aa ab a,.bool b]) 1).run aw w= .ok (.bool b) w:=zK
end Go.Proofs.YtikdaeddbkopeaaGreatR
