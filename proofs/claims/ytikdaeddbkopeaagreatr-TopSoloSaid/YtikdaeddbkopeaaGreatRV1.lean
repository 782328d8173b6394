/- A part of the proof. -/
import Derived.WalkKit
import Derived.Below
import Derived.Laws.Rows
import Derived.Lib.Hide
import Derived.ProofKit
import Derived.OpenShut
import Derived.Lib.SmallJoins
import Derived.Deep.Slices
import Derived.Deep.Fields
import Derived.Test.YtikdaeddbkopeaaGreatRRows
import Derived.WalkSpells
import Derived.WalkLawsBesides
import Derived.Deep.RegionHeld3
import Derived.Deep.DrawnRows
import Derived.Deep.AppendLies
import Derived.Maps.AppendAt
import Derived.Deep.DeepMust
import Derived.BigRegion
import Derived.RegionTactic
import Derived.BigQuiet
import Derived.Deep.QuietTactic
import Derived.Laws.MakeOwn
import Derived.IntWalk
import Derived.Great.BuildSlice
set_option linter.unusedVariables false
set_option linter.unusedSimpArgs false
set_option maxRecDepth 100000
set_option maxHeartbeats 16000000
open And renaming intro → au
open Array renaming getElem?_eq_some_iff → bE
open Go renaming execOp → Av, setRow_heap → Cm, Program → Cn, wpList_store_rowTo → aK, wpList_load_row → aL, wp_at_zero → aV, wp_at_succ → aW, bodyPost_ret → aX, TypeId → bR, wpList_append_own_at → cM, rounds_succ → dI, Ending → lb, maxLen → nu, results → qx, info_parts → xE
open Go.Ending renaming returned → ai
open Go.IntKind renaming i64 → ab
open Go.Lib renaming hid → ar
open Go.Obj renaming cells → ag
open Go.Proofs.Tryz renaming prog → aw, underlying35 → su
open Go.Result renaming andThen_ok → bQ
open Go.RowKit.Below renaming heap_setCell → pM
open Go.Sem renaming run_bind → di
open Go.Value renaming oneCell' → aD, int → sj, bool → ah, int → aa, pointer → ae, slice → af
open Go.WideShapes renaming add_plain → fV
open Go.World renaming ownsRow_nil → cZ
open Go.World.ownsRow renaming cellAt → jj
open List renaming getElem?_eq_some_iff → a8, getElem?_eq_getElem → aO, length_append → cJ, take_add_one → j7, length_take → jM, take_length → pL
open Nat renaming le_trans → aQ, zero_le → aY, le_refl → az, lt_of_lt_of_le → bg, zero_add → eE
namespace Go.Proofs.YtikdaeddbkopeaaGreatR
theorem zK {p : Prop} (h : p := by kernel_rfl) : p := h
theorem zO {p : Prop} (h : p := by omega) : p := h
theorem zD {p : Prop} (h : p := by decide) : p := h
theorem zS {p : Prop} (h : p := by simp) : p := h
theorem zP {p : Prop} (h : p := by simp; omega) : p := h
open Go.RowKit
theorem aB {a w:World} (h:Below a.heap.size a w) (o:Obj):Below a.heap.size a (w.alloc o):=h.alloc h.size o
theorem aF {a w w':World} (h:Below a.heap.size a w) (h':Below w.heap.size w w'):Below a.heap.size a w':=h.trans (h'.mono h.size)
theorem bK {a w:World} (h:Below a.heap.size a w) {p:Addr} (hp:a.heap.size<=p.block) (u:Value):Below a.heap.size a (w.setCell p u):=h.setCell hp u
theorem cO {W w1:World} (hb:Below W.heap.size W w1) {b o:Nat} (h:b < W.heap.size):w1.cell? ⟨b,o,none⟩=W.cell? ⟨b,o,none⟩:=hb.cell (p:=⟨b,o,none⟩) h
theorem mC {k:IntKind} {a b:Int} (h:a=b):Ending.returned (.int k a)= .returned (.int k b):=by rw [h]
theorem CS {a b:Bool} (h:a=b):Ending.returned (.bool a)= .returned (.bool b):=by rw [h]
def kW (b:Bool) (w:World) (e:lb) (w':World):Prop:=e= .returned (.bool b)/\Below w.heap.size w w'
def Bk (w:World) (g:Nat) (t:bR) (cs:Array Value):Prop:=w.heap[g]? =some (.cells cs t (0,0))
section
variable {w w':World} {g:Nat} {t:bR} {cs:Array Value}
theorem Bk.lt (h:Bk w g t cs):g < w.heap.size:=by
 by_cases hg:g < w.heap.size
 ·exact hg
 ·have h0:w.heap[g]? =none:=Array.getElem?_eq_none (Nat.le_of_not_lt hg);rw [Bk,h0] at h
  cases h
theorem Bk.cell (h:Bk w g t cs) (i:Nat):w.cell? ⟨g,i,none⟩=cs[i]?:=cell_of_row w g i cs t (0,0) h
theorem Bk.free (h:Bk w g t cs) (i:Nat):w.frozen? ⟨g,i,none⟩=false:=by
 have h':w.heap[g]? =some (.cells cs t (0,0)):=h;simp [World.frozen?,h']
theorem Bk.made (w:World) (t:bR) (cs:Array Value):Bk (w.alloc (.cells cs t)) w.heap.size t cs:=by
 show (w.heap.push _)[w.heap.size]? =_;simp
theorem Bk.new (w:World) {g:Nat} (hg:w.heap.size=g) (t:bR) (cs:Array Value):Bk (w.alloc (.cells cs t)) g t cs:=hg ▸ Bk.made w t cs
theorem Bk.drew (h:Bk w g t cs):Bk w.drew g t cs:=h
theorem Bk.alloc (h:Bk w g t cs) (o:Obj):Bk (w.alloc o) g t cs:=(Below.heap_alloc w o g h.lt).trans h
theorem Bk.stored (h:Bk w g t cs) (i:Nat) (u:Value):Bk (w.setCell ⟨g,i,none⟩ u) g t (cs.setIfInBounds i u):=by
 have h':w.heap[g]? =some (.cells cs t (0,0)):=h;show (w.heap.modify g _)[g]? =_;simp [Array.getElem?_modify,h']
theorem Bk.other (h:Bk w g t cs) {p:Addr} (hp:g≠p.block) (u:Value):Bk (w.setCell p u) g t cs:=(pM w p u g hp).trans h
theorem Bk.below {B:Nat} (h:Bk w g t cs) (hb:Below B w w') (hg:g < B):Bk w' g t cs:=(hb.block g hg).trans h
theorem Bk.ay (h:Bk w g t cs) (hb:Below w.heap.size w w'):Bk w' g t cs:=h.below hb h.lt
end
def Sl (w:World) (B:Nat) (A:Option Addr) (n:Nat) (xs:List Value):Prop:=
 xs.length=n/\(0 < n->∃ b o:Nat,A=some ⟨b,o,none⟩/\b < B/\∀ (j:Nat) (u:Value),xs[j]? =some u->w.cell? ⟨b,o+j,none⟩=some u)
section
variable {w w':World} {B B' n:Nat} {A:Option Addr} {xs:List Value}
theorem Sl.nil (w:World) (B:Nat) (A:Option Addr):Sl w B A 0 []:=⟨rfl,fun h=>absurd h zO⟩
theorem Sl.at_ {k:Nat} (h:Sl w B A n xs) (hk:k < n):∃ b o u,A=some ⟨b,o,none⟩/\b < B/\xs[k]? =some u/\w.cell? ⟨b,o+k,none⟩=some u:=by
 obtain ⟨b,o,e,hb,hc⟩:=h.2 zO;have hl:k < xs.length:=by rw [h.1];exact hk
 exact ⟨b,o,xs[k],e,hb,aO hl,hc k _ (aO hl)⟩
theorem Sl.ay (h:Sl w B A n xs) (hk:∀ p:Addr,p.block < B->w'.cell? p=w.cell? p):Sl w' B A n xs:=
 ⟨h.1,fun hn=>by
  obtain ⟨b,o,e,hb,hc⟩:=h.2 hn;exact ⟨b,o,e,hb,fun j u hu=>(hk ⟨b,o+j,none⟩ hb).trans (hc j u hu)⟩⟩
theorem Sl.more (h:Sl w B A n xs) (hB:B<=B'):Sl w B' A n xs:=
 ⟨h.1,fun hn=>by
  obtain ⟨b,o,e,hb,hc⟩:=h.2 hn;exact ⟨b,o,e,bg hb hB,hc⟩⟩
theorem Sl.below (h:Sl w B A n xs) (hb:Below B w w'):Sl w' B A n xs:=h.ay fun _ hp=>hb.cell hp
theorem Sl.drew (h:Sl w B A n xs):Sl w.drew B A n xs:=h
theorem Sl.alloc (h:Sl w B A n xs) (hB:B<=w.heap.size) (o:Obj):Sl (w.alloc o) B A n xs:=h.ay fun p hp=>World.cell?_alloc_lt w o p zO
theorem Sl.stored (h:Sl w B A n xs) {p:Addr} (hB:B<=p.block) (u:Value):Sl (w.setCell p u) B A n xs:=
 h.ay fun q hq=>World.cell?_setCell_other w p q u (fun e=>by subst e;omega)
end
end Go.Proofs.YtikdaeddbkopeaaGreatR
namespace Go.Proofs.YtikdaeddbkopeaaGreatR
open Go.ChangeShapes Go.WideShapes Go.ChangeAt Go.RowKit Go.Joins
theorem cell_lt {w:World} {a:Addr} {v:Value} (h:w.cell? a=some v):a.block < w.heap.size:=by
 by_cases hg:a.block < w.heap.size
 ·exact hg
 ·have h0:w.heap[a.block]? =none:=Array.getElem?_eq_none (Nat.le_of_not_lt hg);simp [World.cell?,h0] at h
def ints (zs:List Int):List Value:=zs.map (sj .i64)
theorem wm (zs:List Int):(ints zs).length=zs.length:=by simp [ints]
section
variable {H:Type} {enc:bR × Value->H} {P:Cn} {W:World} {base:Nat} {v:Value} {d:DataW H} {p:List MemPlace} {t e:bR}
theorem o_u8 (ht:P.underlying t=some (.int .u8)) (hv:Value.okWide P W .any base t v) (h:DataW.Trod enc P W 0 (fun _=>true) true t v d p):∃ n:Int,v= .int .u8 n/\0<=n/\n < 256:=by
 obtain ⟨a,rfl,rfl,rfl,wa⟩:=open_int ht hv h;have:=bounds_u8 wa;exact ⟨a,rfl,zO,zO⟩
end
end Go.Proofs.YtikdaeddbkopeaaGreatR
namespace Go.Proofs.YtikdaeddbkopeaaGreatR
open Go.ChangeShapes Go.WideShapes Go.ChangeAt Go.RowKit Go.Joins Go.Deep
section
variable {H:Type} {enc:bR × Value->H} {P:Cn} {W:World} {b0:Nat} {spare:Nat->Bool} {held:Bool}
theorem fld {t:bR} {fs:Array Field} {fuel:Nat} {cs:List Value} {x:DataW H × List MemPlace} (hs:P.underlying t=some (.struct fs)) (hone:oneCellFields P fs=true) (hC:P.cellsOf t=fs.size)
  (h:DataW.trod enc P W b0 spare held fuel t cs=some x) (i:Nat) (f:Field) (hf:fs[i]? =some f):∃ v n y,cs[i]? =some v/\DataW.trod enc P W b0 spare held n f.type [v]=some y:=by
 obtain ⟨xs,n,_,_,hl,hxl,hg⟩:=DataW.trod_struct hs h;obtain ⟨ho,hk⟩:=hone_of hone i f hf;have hi:i < fs.size:=(bE.1 hf).1;have hic:i < cs.length:=by rw [hl,hC];exact hi
 have h1:=hg i f hf;have e:(cs.drop i).take 1=[cs[i]]:=by rw [List.drop_eq_getElem_cons hic];rfl
 rw [ho,hk,e] at h1;have hxi:i < xs.length:=zO;rw [aO hxi] at h1;exact ⟨cs[i],n,xs[i],aO hic,h1⟩
theorem xP {t:bR} {fs:Array Field} {fuel:Nat} {cs:List Value} {x:DataW H × List MemPlace} {k:IntKind} (hs:P.underlying t=some (.struct fs)) (hone:oneCellFields P fs=true) (hC:P.cellsOf t=fs.size)
  (h:DataW.trod enc P W b0 spare held fuel t cs=some x) (i:Nat) (f:Field) (hf:fs[i]? =some f) (hk:P.underlying f.type=some (.int k)):∃ n,cs[i]? =some (.int k n)/\(Lit.int k n).wf=true:=by
 obtain ⟨v,n,y,hv,hy⟩:=fld hs hone hC h i f hf;obtain ⟨m,hm,_,hw⟩:=DataW.trod_int hk hy;simp at hm;subst hm;exact ⟨m,hv,hw⟩
theorem qV {t e:bR} {fuel:Nat} {v:Value} {x:DataW H × List MemPlace} (ht:P.underlying t=some (.slice e)) (h:DataW.trod enc P W b0 spare held fuel t [v]=some x):∃ A n c,v= .slice A n c:=by
 rcases open_slice ht h with ⟨h0,_⟩ | ⟨a,len,cap,_,_,_,_,h0,_⟩
 ·simp at h0;exact ⟨_,_,_,h0⟩
 ·simp at h0;exact ⟨_,_,_,h0⟩
theorem uX {t e:bR} {fuel sz:Nat} {A:Option Addr} {n cap:Nat} {x:DataW H × List MemPlace} (ht:P.underlying t=some (.slice e)) (nX:P.cellsOf e=sz) (hp:0 < sz)
  (hf:DataW.trod enc P W b0 spare held fuel t [.slice A n cap]=some x):
  n<=nu/\(0 < n->∃ b o:Nat,A=some ⟨b,o,none⟩/\b < W.heap.size/\∀ k,k < n->∃ (cs:List Value) (m:Nat) (y:DataW H × List MemPlace),cs.length=sz/\(∀ i,i < sz->W.cell? ⟨b,o+k * sz+i,none⟩=cs[i]?)/\DataW.trod enc P W b0 spare held m e cs=some y):=by
 rcases open_slice ht hf with ⟨h0,_⟩ | ⟨a,len,c,m,fl,D,Pl,h0,_,hl,hm,zR,_,hel⟩
 ·simp at h0;obtain ⟨rfl,rfl,rfl⟩:=h0;exact ⟨by simp [nu],fun h=>absurd h zO⟩
 ·simp at h0;obtain ⟨rfl,rfl,rfl⟩:=h0;refine ⟨aQ hl hm,fun hn=>?_⟩
  have hm':n<=m:=by rw [zR];split <;> omega
  rw [nX] at hel;have hspot:a.spot=none:=by
   obtain ⟨cs,hc,_⟩:=hel 0 zO;obtain ⟨_,jm,xO⟩:=World.cells?_some hc;have h1:=xO 0 hp;rw [aO zO] at h1
   simpa [Addr.add] using World.cell?_spot h1
  obtain ⟨b,o,sp⟩:=a;simp only at hspot;subst hspot;refine ⟨b,o,rfl,?_,fun k hk=>?_⟩
  ·obtain ⟨cs,hc,_⟩:=hel 0 zO;obtain ⟨_,jm,xO⟩:=World.cells?_some hc;have h1:=xO 0 hp;rw [aO zO] at h1;have:=cell_lt h1
   simpa [Addr.add] using this
  ·obtain ⟨cs,hc,hr⟩:=hel k zO;obtain ⟨_,jm,xO⟩:=World.cells?_some hc;refine ⟨cs,_,_,jm,fun i hi=>?_,hr⟩
   have:=xO i hi
   rwa [add_plain,add_plain] at this
end
end Go.Proofs.YtikdaeddbkopeaaGreatR
namespace Go.Proofs.YtikdaeddbkopeaaGreatR
open Go.ChangeShapes Go.WideShapes Go.ChangeAt Go.RowKit Go.Joins
section
variable {H:Type} {enc:bR × Value->H} {P:Cn} {W:World} {base:Nat} {v:Value} {d:DataW H} {p:List MemPlace} {t e:bR}
theorem B8 {n:Nat} {k:IntKind} {fuel:Nat} {cs:List Value} {x:DataW H × List MemPlace} (ht:P.underlying t=some (.array n e)) (he:P.underlying e=some (.int k)) (hc:P.cellsOf e=1) (hl:cs.length=n)
  (h:DataW.trod enc P W 0 (fun _=>true) true fuel t cs=some x) (i:Nat) (hi:i < n):∃ z,cs[i]? =some (.int k z)/\(Lit.int k z).wf=true:=by
 obtain ⟨xs,m,_,_,_,hx,hg⟩:=DataW.trod_array ht h;have h1:=hg i hi;rw [hc,Nat.mul_one,List.drop_eq_getElem_cons zO,List.take_succ_cons,List.take_zero,aO zO] at h1;obtain ⟨z,hz,_,hw⟩:=DataW.trod_int he h1;simp at hz;exact ⟨z,by rw [aO zO,hz],hw⟩
end
end Go.Proofs.YtikdaeddbkopeaaGreatR
namespace Go.Proofs.YtikdaeddbkopeaaGreatR
open Go.RowKit
structure Acc where
 kind:Int
 cell:Int
 re:Int
 new:Int
def Acc.right (a:Acc):Bool:=
 decide (0<=a.cell)&&((a.kind==1&&a.new==0&&a.re==0)||((a.kind==2||a.kind==4||a.kind==5)&&a.re==0)||a.kind==3)
def Acc.err (a:Acc) (n:Nat):Int:=if a.right=true then (if a.cell < n then 0 else 12) else 1
def Acc.next (a:Acc) (had:Int):Int:=
 if a.kind=1 then had else if a.kind=3 then (if had=a.re then a.new else had) else if a.kind=4 then wrap64 (had+a.new) else a.new
def Acc.ok (a:Acc) (had:Int):Bool:=!(a.kind==3&&had != a.re)
def Acc.had (a:Acc) (zs:List Int):Int:=zs.getD a.cell.toNat 0
def Acc.make (a:Acc) (zs:List Int):List Int:=zs.set a.cell.toNat (a.next (a.had zs))
theorem Acc.yo {a:Acc} (h:a.right=true):0<=a.cell:=by
 simp [Acc.right] at h;exact h.1
theorem Acc.Om {a:Acc} {n:Nat} (h:a.err n=0):a.right=true/\0<=a.cell/\a.cell < n:=by
 unfold Acc.err at h;split at h
 ·rename_i hr;split at h
  ·exact ⟨hr,Acc.yo hr,by assumption⟩
  ·omega
 ·omega
theorem Acc.mG (a:Acc) (zs:List Int):(a.make zs).length=zs.length:=by simp [Acc.make]
abbrev OM (a:Acc):Value:=.agg #[aa ab a.kind,aa ab a.cell,aa ab a.re,aa ab a.new]
abbrev qZ (val:Int) (ok:Bool):Value:=.agg #[aa ab val,.bool ok]
abbrev rh (A:Option Addr) (n c:Nat):Value:=.agg #[.slice A n c]
end Go.Proofs.YtikdaeddbkopeaaGreatR
namespace Go.Proofs.YtikdaeddbkopeaaGreatR
open Go.RowKit
attribute [local go_sem ↓] aV aW
theorem vf (a:Acc) (w:World):Calls aw 74 #[OM a] w (kW a.right w):=by
 obtain ⟨k,cl,re,new⟩:=a;have hb:=aB (Below.refl w.heap.size w)
 by_cases hc:cl < 0
 ·go_enter Tryz.func74,Tryz.ntmps74
  go_wp2
  go_ret
  exact ⟨CS (by simp [Acc.right];omega),hb _⟩
 ·go_enter Tryz.func74,Tryz.ntmps74
  go_wp2
  all_goals
   go_ret
   refine ⟨CS ?_,hb _⟩
   simp_all [Acc.right]
theorem vE (n:Nat) (a:Acc) (w:World):Calls aw 48 #[aa ab n,OM a] w fun e w'=>e=ai (aa ab (a.err n))/\Below w.heap.size w w':=by
 have ha:=aB (Below.refl w.heap.size w) (ag #[aa ab a.kind,aa ab a.cell,aa ab a.re,aa ab a.new] 67)
 cases hr:a.right
 ·go_enter Tryz.func48,Tryz.ntmps48
  go_wp2_with (go_at_call 74;refine (vf a _).mono ?_;rintro e w1 ⟨rfl,hb⟩)
  go_ret
  exact ⟨mC (by simp [Acc.err,hr]),aF ha hb⟩
 ·by_cases hc:a.cell < n
  ·go_enter Tryz.func48,Tryz.ntmps48
   go_wp2_with (go_at_call 74;refine (vf a _).mono ?_;rintro e w1 ⟨rfl,hb⟩;have q1:=cO (b:=w.heap.size) (o:=1) hb zS;simp at q1)
   go_ret
   exact ⟨mC (by simp [Acc.err,hr,hc]),aF ha hb⟩
  ·go_enter Tryz.func48,Tryz.ntmps48
   go_wp2_with (go_at_call 74;refine (vf a _).mono ?_;rintro e w1 ⟨rfl,hb⟩;have q1:=cO (b:=w.heap.size) (o:=1) hb zS;simp at q1)
   go_ret
   exact ⟨mC (by simp [Acc.err,hr,hc]),aF ha hb⟩
theorem jw:(Tryz.prog.info? 3).map (fun i=>(i.zero,i.size,i.bytes))=some (some (aa ab 0),1,8):=zK
theorem Dh (zs:List Int):∀ u∈ints zs,u.oneCell'=true:=by
 intro u hu;simp only [ints,List.mem_map] at hu;obtain ⟨z,_,rfl⟩:=hu;rfl
def bd (w:World) (base:Nat) (v:Value) (zs:List Int):Prop:=w.ownsRow base 3 1 v zs.length (ints zs)
def Cloned (zs:List Int) (w:World) (e:lb) (w':World):Prop:=∃ v,e= .returned v/\bd w' w.heap.size v zs/\Below w.heap.size w w'
theorem A9 (A:Option Addr) (c:Nat) (zs:List Int) (w:World) (h:Sl w w.heap.size A zs.length (ints zs)) (hm:zs.length<=1000000):
  Calls aw 49 #[.slice A zs.length c] w (Cloned zs w):=by
 have hq:=fun (W:World)=>Lib.run_eql_slice_nil (P:=aw) W 35 3 A zs.length c 0 0 su
 obtain ⟨i0,pP,jG,mw,mI⟩:=xE jw
 cases A with
 | none=>
  have h0:zs=[]:=by
   rcases zs with _ | ⟨z,zs⟩
   ·rfl
   ·obtain ⟨_,_,he,_⟩:=h.2 zS
    cases he
  subst h0;have hq0:=fun (W:World)=>Lib.run_eql_slice_nil (P:=aw) W 35 3 none 0 c 0 0 su
  go_enter Tryz.func49,Tryz.ntmps49
  go_wp2
  go_ret
  exact ⟨_,rfl,cZ _ _ _ _,Below.refl _ _⟩
 | some ad=>
  have NY:(w.alloc (ag #[] 3)).ownsRow w.heap.size 3 1 (af (some ⟨w.heap.size,0,none⟩) 0 0) 0 []:=
   ⟨rfl,.inr ⟨w.heap.size,0,#[],rfl,az _,Bk.made w 3 #[],az _,by simp [nu],rfl,rfl⟩⟩
  have N1:∀ j u,(ints zs)[j]? =some u->(w.alloc (ag #[] 3)).cell? (ad.add j)=some u:=by
   intro j u hu;have hj:j < zs.length:=by
    have:=(a8.1 hu).1
    rwa [wm] at this
   obtain ⟨b,o,he,hb,hc⟩:=(h.alloc (az _) (ag #[] 3)).2 zO;injection he with he
   subst he;rw [fV];exact hc j u hu
  go_enter Tryz.func49,Tryz.ntmps49
  go_wp2_with (at_builtin;refine cM _ rfl (.tmp 5) (.tmp 6) _ rfl w.heap.size 3 i0 _ 1 8 su pP jG mw mI rfl zO (af (some ⟨w.heap.size,0,none⟩) 0 0) 0 [] rfl NY ad zs.length c (ints zs) rfl (by simp [ints]) N1 (Dh zs) (by simp only [nu];omega) zO zS ?_;intro v' w' bn de _ xO)
  go_ret
  refine ⟨v',rfl,?_,(aB (Below.refl _ _) _).grown de zS ?_⟩
  ·simpa [bd] using bn
  ·intro k hk;simp [Value.ownBlock] at hk;omega
theorem bd.alloc {w:World} {base:Nat} {v:Value} {zs:List Int} (h:bd w base v zs) (o:Obj):bd (w.alloc o) base v zs:=World.ownsRow.alloc h o
theorem ints_set (zs:List Int) (i:Nat) (x:Int):(ints zs).set i (aa ab x)=ints (zs.set i x):=by simp [ints,List.map_set]
theorem bd.at_ {w:World} {base g cap:Nat} {zs:List Int} (h:bd w base (af (some ⟨g,0,none⟩) zs.length cap) zs) {i:Nat} (hi:i < zs.length):
  w.cell? ⟨g,i,none⟩=some (aa ab (zs.getD i 0)):=by
 rw [jj h i zO];simp [ints,hi]
theorem bd.stored {w:World} {base g cap:Nat} {zs:List Int} (h:bd w base (af (some ⟨g,0,none⟩) zs.length cap) zs) (i:Nat) (x:Int):
  bd (w.setCell ⟨g,i,none⟩ (aa ab x)) base (af (some ⟨g,0,none⟩) zs.length cap) (zs.set i x):=by
 have:=(World.ownsRow.stored h i (aa ab x)).1;rw [ints_set] at this;unfold bd
 rwa [List.length_set]
def ON (a:Acc) (base g cap:Nat) (zs:List Int) (w:World) (e:lb) (w':World):Prop:=
 e=ai (qZ (a.had zs) (a.ok (a.had zs)))/\bd w' base (af (some ⟨g,0,none⟩) zs.length cap) (a.make zs)/\w.grownBy w' (some g)
theorem iP {w w':World} {row:Option Nat} (h:w.grownBy w' row) (o:Obj):w.grownBy (w'.alloc o) row:=
 ⟨h.os,h.tape,h.output,aQ h.size zS,fun i hi dF=>(Below.heap_alloc w' o i (bg hi h.size)).trans (h.block i hi dF)⟩
theorem rZ {w w':World} {g:Nat} (h:w.grownBy w' (some g)) (i:Nat) (u:Value):w.grownBy (w'.setCell ⟨g,i,none⟩ u) (some g):=
 ⟨h.os,h.tape,h.output,by simpa [World.setCell] using h.size,fun k hk dF=>(pM w' _ u k (by rintro rfl;exact dF rfl)).trans (h.block k hk dF)⟩
theorem ny {a:Acc} {base g cap:Nat} {zs:List Int} {w w':World} {had x:Int} {ok:Bool} (h1:a.had zs=had) (h2:a.ok had=ok) (h3:a.next had=x) (hg:w.grownBy w' (some g))
  (h:bd w' base (af (some ⟨g,0,none⟩) zs.length cap) (zs.set a.cell.toNat x)):ON a base g cap zs w (ai (qZ had ok)) w':=by
 subst h1;refine ⟨by rw [h2],?_,hg⟩
 unfold Acc.make;rw [h3];exact h
theorem CF (a:Acc) (base g cap:Nat) (zs:List Int) (w:World) (h:bd w base (af (some ⟨g,0,none⟩) zs.length cap) zs) (hr:a.right=true) (hc:a.cell < zs.length) (hg:g < w.heap.size):
  Calls aw 50 #[af (some ⟨g,0,none⟩) zs.length cap,OM a] w (ON a base g cap zs w):=by
 obtain ⟨k,cl,re,new⟩:=a;have h0:0<=cl:=Acc.yo hr;obtain ⟨i,rfl⟩:=Int.eq_ofNat_of_zero_le h0;have hi:i < zs.length:=by simpa using hc
 have Dx:=h.at_ hi;have rp:=World.ownsRow.frozenAt h i;have hk:k=1\/k=2\/k=3\/k=4\/k=5:=by simp [Acc.right] at hr;omega
 generalize tK:zs.getD i 0=had at *;have HH:=ar tK;have HO:=ar h;clear tK hr h;have HA:∀ {k:Int},({ kind:=k,cell:=(i:Int),re:=re,new:=new }:Acc).had zs=had:=by
  intro k;show zs.getD ((i:Int).toNat) 0=had;rw [Int.toNat_natCast];exact HH.out
 have HE:=ar (show zs.set i had=zs by rw [<- HH.out];simp [aO hi])
 rcases hk with rfl | rfl | rfl | rfl | rfl
 ·go_enter Tryz.func50,Tryz.ntmps50
  go_wp2
  refine aX (v:=qZ had true) (by simp [qx,Tryz.results50,go_sem]) rfl ?_
  have he:=HE.out;refine ny HA (by simp [Acc.ok]) (x:=had) (by simp [Acc.next]) (iP (iP (World.grownBy.refl _ _) _) _) ?_
  simp only [Int.toNat_natCast];rw [he];exact (HO.out.alloc _).alloc _
 ·go_enter Tryz.func50,Tryz.ntmps50
  go_wp2
  refine aX (v:=qZ had true) (by simp [qx,Tryz.results50,go_sem]) rfl ?_
  refine ny HA (by simp [Acc.ok]) (x:=new) (by simp [Acc.next]) (iP (iP (rZ (World.grownBy.refl _ _) _ _) _) _) ?_
  simp only [Int.toNat_natCast];exact (((HO.out).stored i _).alloc _).alloc _
 ·by_cases ho:had=re
  ·subst ho;have A1:(had != had)=false:=zS;go_enter Tryz.func50,Tryz.ntmps50
   go_wp2
   refine aX (v:=qZ had true) (by simp [qx,Tryz.results50,go_sem]) rfl ?_
   refine ny HA (by simp [Acc.ok]) (x:=new) (by simp [Acc.next]) (iP (iP (rZ (World.grownBy.refl _ _) _ _) _) _) ?_
   simp only [Int.toNat_natCast];exact (((HO.out).stored i _).alloc _).alloc _
  ·have A1:(had != re)=true:=by simpa using ho
   have he:=HE.out;go_enter Tryz.func50,Tryz.ntmps50
   go_wp2
   refine aX (v:=qZ had false) (by simp [qx,Tryz.results50,go_sem]) rfl ?_
   refine ny HA (by simp [Acc.ok,ho]) (x:=had) (by simp [Acc.next,ho]) (iP (iP (World.grownBy.refl _ _) _) _) ?_
   simp only [Int.toNat_natCast];rw [he];exact (HO.out.alloc _).alloc _
 ·go_enter Tryz.func50,Tryz.ntmps50
  go_wp2
  refine aX (v:=qZ had true) (by simp [qx,Tryz.results50,go_sem]) rfl ?_
  refine ny HA (by simp [Acc.ok]) (x:=wrap64 (had+new)) (by simp [Acc.next]) (iP (iP (rZ (World.grownBy.refl _ _) _ _) _) _) ?_
  simp only [Int.toNat_natCast];exact (((HO.out).stored i _).alloc _).alloc _
 ·go_enter Tryz.func50,Tryz.ntmps50
  go_wp2
  refine aX (v:=qZ had true) (by simp [qx,Tryz.results50,go_sem]) rfl ?_
  refine ny HA (by simp [Acc.ok]) (x:=new) (by simp [Acc.next]) (iP (iP (rZ (World.grownBy.refl _ _) _ _) _) _) ?_
  simp only [Int.toNat_natCast];exact (((HO.out).stored i _).alloc _).alloc _
theorem Bk.grown {w w':World} {g:Nat} {t:bR} {cs:Array Value} {row:Option Nat} (h:Bk w g t cs) (hb:w.grownBy w' row) (hg:some g≠row):Bk w' g t cs:=(hb.block g h.lt hg).trans h
def DidOk (a:Acc) (zs:List Int) (w:World) (e:lb) (w':World):Prop:=
 ∃ g cap,e=ai (.tuple #[rh (some ⟨g,0,none⟩) zs.length cap,qZ (a.had zs) (a.ok (a.had zs)),aa ab 0])/\bd w' w.heap.size (af (some ⟨g,0,none⟩) zs.length cap) (a.make zs)/\Below w.heap.size w w'
theorem M4 {w:World} {B B':Nat} {v:Value} {zs:List Int} (h:bd w B v zs) (hB:B'<=B):bd w B' v zs:=by
 rcases h.2 with h0 | ⟨g,cap,cur,h1,h2,h3⟩
 ·exact ⟨h.1,.inl h0⟩
 ·exact ⟨h.1,.inr ⟨g,cap,cur,h1,aQ hB h2,h3⟩⟩
theorem bd.far {w:World} {base g n cap:Nat} {zs:List Int} (h:bd w base (af (some ⟨g,0,none⟩) n cap) zs) {p:Addr} (hp:p.block≠g) (u:Value):bd (w.setCell p u) base (af (some ⟨g,0,none⟩) n cap) zs:=
 World.ownsRow.kept (row:=some p.block) h ⟨rfl,rfl,rfl,zS,fun k _ hk=>pM w p u k (fun e=>hk (by rw [e]))⟩ (.inr (by simp [Value.ownBlock];omega))
theorem M5 {w:World} {base:Nat} {v:Value} {zs:List Int} (h:bd w base v zs):bd w.drew base v zs:=h
theorem do_ok (A:Option Addr) (c:Nat) (zs:List Int) (a:Acc) (w:World) (h:Sl w w.heap.size A zs.length (ints zs)) (hm:zs.length<=1000000) (he:a.err zs.length=0):
  Calls aw 23 #[rh A zs.length c,OM a] w (DidOk a zs w):=by
 obtain ⟨hr,xc,rr⟩:=Acc.Om he;have sJ:0 < zs.length:=zO;go_enter Tryz.func23,Tryz.ntmps23
 go_wp2_with fail
 refine (vE zs.length a _).mono ?_;rintro e w1 ⟨rfl,qO⟩;have bz:=aF (aB (aB (aB (aB (Below.refl w.heap.size w) _) _) _) _) qO;have k0:=((((Bk.made w 37 #[.slice A zs.length c]).alloc _).alloc _).alloc _).ay qO;have k1:=(((Bk.new (w.alloc (ag #[.slice A zs.length c] 37)) (g:=w.heap.size+1) zS 67 #[aa ab a.kind,aa ab a.cell,aa ab a.re,aa ab a.new]).alloc _).alloc _).ay qO;have k2:=((Bk.new ((w.alloc (ag #[.slice A zs.length c] 37)).alloc (ag #[aa ab a.kind,aa ab a.cell,aa ab a.re,aa ab a.new] 67)) (g:=w.heap.size+1+1) zS 37 #[af none 0 0]).alloc _).ay qO;have k3:=((Bk.new (((w.alloc (ag #[.slice A zs.length c] 37)).alloc (ag #[aa ab a.kind,aa ab a.cell,aa ab a.re,aa ab a.new] 67)).alloc (ag #[af none 0 0] 37)) (g:=w.heap.size+1+1+1) zS 75 #[aa ab 0,ah false])).ay qO;clear qO;have cQ:=k3.lt;have c0:=k0.cell 0;simp at c0;have HE:=ar he;rw [he];clear he
 go_wp2_with fail
 refine (A9 A c zs _ ((h.below bz).more bz.size) hm).mono ?_;rintro e w2 ⟨v,rfl,bn,cY⟩;obtain ⟨g,cap,rfl,hg1,L9⟩:=World.ownsRow.form bn sJ;have qa:=aF bz cY;replace k1:=k1.ay cY;replace k2:=k2.ay cY;replace k3:=k3.ay cY;have d0:=k1.cell 0;have d1:=k1.cell 1;have d2:=k1.cell 2;have d3:=k1.cell 3;simp at d0 d1 d2 d3;clear k0 c0;have hgs:w.heap.size+1+1+1 < g:=zO
 go_wp2_with fail
 refine (CF a _ g cap zs _ bn hr rr L9).mono ?_;rintro e w3 ⟨rfl,fH,de⟩;have Jk:Below w.heap.size w w3:=qa.grown de qa.size (fun k hk=>by injection hk;omega)
 replace k2:=k2.grown de (fun e=>by injection e;omega)
 replace k3:=k3.grown de (fun e=>by injection e;omega)
 have lV:=k3.lt;have dB:=k2.lt;have hg3:g < w3.heap.size:=bg L9 de.size;have c2:=k2.cell 0;have f2:=k2.free 0;have c3:=k3.cell 0;have c4:=k3.cell 1;have f3:=k3.free 0;have f4:=k3.free 1;simp at c2 c3 c4;have hbl1:=bz.size;clear d0 d1 d2 d3 k1 k2 k3 de bn cY qa h bz;generalize tK:a.had zs=had at *;have HH:=ar tK;clear tK
 go_wp2_with fail
 go_region
 go_wp2
 have hh:=HH.out;subst hh;refine aX (v:=.tuple #[rh (some ⟨g,0,none⟩) zs.length cap,qZ (a.had zs) (a.ok (a.had zs)),aa ab 0]) (by simp [qx,Tryz.results23,go_sem,c2,c3,c4,dB,lV]) rfl ⟨g,cap,rfl,?_,?_⟩
 ·refine M4 ?_ (aQ hbl1 (az _));exact M5 ((((fH.far (p:=⟨_,_,none⟩) zP _).far (p:=⟨_,_,none⟩) zP _).far (p:=⟨_,_,none⟩) zP _).alloc _)
 ·exact (aB (bK (bK (bK Jk zP _) zP _) zP _) _).drew
theorem KH {w:World} {base g n cap:Nat} {zs:List Int} (h:bd w base (af (some ⟨g,0,none⟩) n cap) zs) (hn:zs.length=n):Sl w w.heap.size (some ⟨g,0,none⟩) n (ints zs):=by
 subst hn;refine ⟨by simp [ints],fun hp=>⟨g,0,rfl,?_,fun j u hu=>?_⟩⟩
 ·obtain ⟨g',Jv,he,_,hg⟩:=World.ownsRow.form h hp;injection he with he
  injection he with he
  injection he with he
  omega
 ·have hj:j < zs.length:=by
   have:=(a8.1 hu).1
   rwa [wm] at this
  rw [eE,jj h j zO];exact hu
theorem cj {w:World} {base n:Nat} {e:bR} {sz:Nat} {v:Value} {xs:List Value} (h:w.ownsRow base e sz v n xs):∃ G cap,v= .slice G n cap:=by
 rcases h.2 with ⟨rfl,rfl⟩ | ⟨g,cap,cur,rfl,_⟩
 ·exact ⟨none,0,rfl⟩
 ·exact ⟨_,cap,rfl⟩
theorem C1 {w:World} {base n:Nat} {e:bR} {sz:Nat} {v:Value} {xs:List Value} (h:w.ownsRow base e sz v n xs) {p:Addr} (hp:p.block < base) (u:Value):(w.setCell p u).ownsRow base e sz v n xs:=
 ownsRow_setCell_below h hp u
theorem AL {w:World} {B B' n:Nat} {e:bR} {sz:Nat} {v:Value} {xs:List Value} (h:w.ownsRow B e sz v n xs) (hB:B'<=B):w.ownsRow B' e sz v n xs:=by
 rcases h.2 with h0 | ⟨g,cap,cur,h1,h2,h3⟩
 ·exact ⟨h.1,.inl h0⟩
 ·exact ⟨h.1,.inr ⟨g,cap,cur,h1,aQ hB h2,h3⟩⟩
theorem jD {w w':World} {base n:Nat} {e:bR} {sz:Nat} {v:Value} {xs:List Value} (h:w.ownsRow base e sz v n xs) (hb:Below w.heap.size w w'):w'.ownsRow base e sz v n xs:=
 World.ownsRow.kept (row:=none) h ⟨hb.os,hb.tape,hb.output,hb.size,fun k hk _=>hb.block k hk⟩ (by cases h':v.ownBlock <;> simp)
theorem M2 {w:World} {base n cap:Nat} {G:Option Addr} {zs:List Int} (h:bd w base (.slice G n cap) zs) (hn:zs.length=n):Sl w w.heap.size G n (ints zs):=by
 subst hn;rcases h.2 with ⟨h1,h2⟩ | ⟨g,Jv,cur,h1,_⟩
 ·have:zs=[]:=List.eq_nil_of_length_eq_zero h2;subst this;exact Sl.nil _ _ _
 ·injection h1 with h1 _ h3
  subst h1 h3;exact KH h rfl
def nT (w:World) (B:Nat) (X:Option Addr) (n c:Nat) (zs:List Int):Prop:=zs.length=n/\(Sl w B X n (ints zs)\/bd w B (.slice X n c) zs)
section
variable {w w':World} {B n c:Nat} {X:Option Addr} {zs:List Int}
theorem nT.sl (h:nT w B X n c zs) (hB:B<=w.heap.size):Sl w w.heap.size X n (ints zs):=by
 rcases h.2 with h' | h'
 ·exact h'.more hB
 ·exact M2 h' h.1
theorem nT.ay (h:nT w B X n c zs) (hB:B<=w.heap.size) (hb:Below w.heap.size w w'):nT w' B X n c zs:=by
 refine ⟨h.1,?_⟩;rcases h.2 with h' | h'
 ·exact .inl (h'.below (hb.mono hB))
 ·exact .inr (jD h' hb)
theorem nT.Na {B':Nat} (h:bd w B' (.slice X n c) zs) (hn:zs.length=n) (hB:B<=B'):nT w B X n c zs:=⟨hn,.inr (AL h hB)⟩
end
theorem bd.keepSet {w:World} {base:Nat} {v:Value} {zs:List Int} (h:bd w base v zs) {p:Addr} (hp:p.block < base) (u:Value):bd (w.setCell p u) base v zs:=ownsRow_setCell_below h hp u
theorem Sl.keepb {w w':World} {A:Option Addr} {n:Nat} {xs:List Value} (h:Sl w w.heap.size A n xs) (hb:Below w.heap.size w w'):Sl w' w'.heap.size A n xs:=(h.below hb).more hb.size
theorem K0 (N:Nat):madeCells #[sj .i64 0] N=(ints (List.replicate N 0)).toArray:=by
 apply Array.ext
 ·simp [madeCells,ints]
 ·intro i h1 h2;simp [madeCells,Nat.mod_one,ints]
theorem pT {t e:bR} {z:Value} {sz bytes:Nat} (ht:Tryz.prog.underlying t=some (.slice e)) (hinf:(Tryz.prog.info? e).map (fun i=>(i.zero,i.size,i.bytes))=some (some z,sz,bytes)) (w:World) (N:Nat) (h:N<=1000000) (hb:bytes<=10000):
  (Instr.makeSlice t (aa ab N) (aa ab N)).run aw w= .ok (af (some ⟨w.heap.size,0,none⟩) N N) (w.alloc (ag (madeCells z.cells (N * sz)) e)):=by
 obtain ⟨i,hi,jG,mw,mI⟩:=xE hinf;have hm:bytes * N<=10000 * 1000000:=Nat.mul_le_mul hb h;have hm':(i.bytes:Int) * N<=281474976710656:=by
  rw [mI];have:((bytes * N:Nat):Int)<=10000000000:=zO;rw [Int.natCast_mul] at this;omega
 have hr:=run_make (P:=aw) w t e i _ ht hi jG .i64 .i64 N N zO zO hm' zO;rw [mw,Int.toNat_natCast] at hr;exact hr
theorem qz {ops:Array Oper} {rest:List Oper} {o:Oper} {a:Act} {w:World} {Q:Exit->Act->World->Prop} (hg:o.guard=none) {t e:bR} (x y:Operand) (ho:o.op= .makeSlice t x y) (N:Nat) (cs:Array Value) (hx:a.eval x=aa ab N) (hy:a.eval y=aa ab N)
  (hr:(Instr.makeSlice t (aa ab N) (aa ab N)).run aw w= .ok (af (some ⟨w.heap.size,0,none⟩) N N) (w.alloc (ag cs e)))
  (h:wpList aw ops Q rest (a.put o.dst (af (some ⟨w.heap.size,0,none⟩) N N)) (w.alloc (ag cs e))):wpList aw ops Q (o :: rest) a w:=
 wpList_plain hg fun _ hK=>by
  unfold Oper.wp Av;simp only [ho,hx,hy,di,hr,bQ];exact hK _ _ h
theorem zY (w:World) (N:Nat) (h:N<=1000000):
  (Instr.makeSlice 35 (aa ab N) (aa ab N)).run aw w= .ok (af (some ⟨w.heap.size,0,none⟩) N N) (w.alloc (ag (ints (List.replicate N 0)).toArray 3)):=by
 rw [pT su jw w N h zO,Nat.mul_one];show Result.ok _ (w.alloc (ag (madeCells #[sj .i64 0] N) 3))=_;rw [K0]
theorem own_row {w:World} {g:Nat} {e:bR} {sz n:Nat} {cs:Array Value} {base:Nat} (k:Bk w g e cs) (hs:cs.size=n * sz) (hb:base<=g) (hm:n<=nu):w.ownsRow base e sz (af (some ⟨g,0,none⟩) n n) n cs.toList:=
 ⟨by simp [hs],.inr ⟨g,n,cs,rfl,hb,k,az _,hm,hs,by rw [List.take_of_length_le (by simp [hs])]⟩⟩
def NewMem (n:Nat) (w:World) (e:lb) (w':World):Prop:=
 ∃ g,e=ai (rh (some ⟨g,0,none⟩) n n)/\bd w' w.heap.size (af (some ⟨g,0,none⟩) n n) (List.replicate n 0)/\Below w.heap.size w w'
theorem new_any (n:Nat) (w:World) (hn:n<=1000000):Calls aw 43 #[aa ab n] w (NewMem n w):=by
 go_enter Tryz.func43,Tryz.ntmps43
 go_wp2_with (refine qz rfl _ _ rfl n _ rfl rfl (zY _ n hn) ?_)
 refine aX (v:=rh (some ⟨w.heap.size+1,0,none⟩) n n) (by simp [qx,Tryz.results43,go_sem]) rfl ⟨_,rfl,?_,aB (aB (Below.refl _ _) _) _⟩
 have:=own_row (base:=w.heap.size) (n:=n) (sz:=1) (Bk.new (w.alloc (ag #[af (some ⟨w.heap.size+1,0,none⟩) n n] 37)) (g:=w.heap.size+1) zS 3 (ints (List.replicate n 0)).toArray) (by simp [ints]) zO (by simp only [nu];omega)
 simpa [bd] using this
def cq (l:List Acc):List Value:=l.flatMap fun a=>[aa ab a.kind,aa ab a.cell,aa ab a.re,aa ab a.new]
def iu (l:List (Int × Bool)):List Value:=l.flatMap fun r=>[aa ab r.1,.bool r.2]
def jA:List Int->List Acc->Int
 | _,[]=>0
 | zs,a :: l=>if a.err zs.length=0 then jA (a.make zs) l else a.err zs.length
def fj:List Int->List Acc->List Int
 | zs,[]=>zs
 | zs,a :: l=>fj (a.make zs) l
def jK:List Int->List Acc->List (Int × Bool)
 | _,[]=>[]
 | zs,a :: l=>(a.had zs,a.ok (a.had zs)) :: jK (a.make zs) l
theorem xB (l:List Acc):∀ zs,(fj zs l).length=zs.length:=by
 induction l with
 | nil=>intro zs;rfl
 | cons a l ih=>intro zs;rw [fj,ih,Acc.mG]
theorem zA (l:List Acc):∀ zs,(jK zs l).length=l.length:=by
 induction l with
 | nil=>intro zs;rfl
 | cons a l ih=>intro zs;simp [jK,ih]
theorem OK (l:List Acc) (a:Acc):∀ zs,fj zs (l++[a])=a.make (fj zs l)/\jK zs (l++[a])=jK zs l++[(a.had (fj zs l),a.ok (a.had (fj zs l)))]/\
  (jA zs l=0->jA zs (l++[a])=a.err zs.length):=by
 induction l with
 | nil=>
  intro zs;refine ⟨rfl,rfl,fun _=>?_⟩
  simp only [List.nil_append,jA];split <;> simp_all
 | cons b l ih=>
  intro zs;obtain ⟨h1,h2,h3⟩:=ih (b.make zs);refine ⟨by simp only [List.cons_append,fj];exact h1,by simp only [List.cons_append,jK,fj];rw [h2],fun h=>?_⟩
  simp only [List.cons_append,jA] at h ⊢;split at h
  ·rename_i hb;rw [if_pos hb,h3 h,Acc.mG]
  ·contradiction
theorem JA (l l':List Acc) (a:Acc):∀ zs,jA zs l=0->a.err zs.length≠0->jA zs (l++a :: l')=a.err zs.length:=by
 induction l with
 | nil=>intro zs _ h;simp [jA,h]
 | cons b l ih=>
  intro zs h hb;simp only [List.cons_append,jA] at h ⊢;split at h
  ·rename_i he;rw [if_pos he,ih (b.make zs) h (by rwa [Acc.mG]),Acc.mG]
  ·contradiction
theorem CU:(Tryz.prog.info? 75).map (fun i=>(i.zero,i.size,i.bytes))=some (some (.agg #[aa ab 0,ah false]),2,16):=zK
def lX (w:World) (B:Nat) (A:Option Addr) (l:List Acc):Prop:=
 0 < l.length->∃ b o,A=some ⟨b,o,none⟩/\b < B/\∀ k a,l[k]? =some a->w.cell? ⟨b,o+k * 4,none⟩=some (aa ab a.kind)/\w.cell? ⟨b,o+k * 4+1,none⟩=some (aa ab a.cell)/\
  w.cell? ⟨b,o+k * 4+2,none⟩=some (aa ab a.re)/\w.cell? ⟨b,o+k * 4+3,none⟩=some (aa ab a.new)
theorem lX.below {w w':World} {B:Nat} {A:Option Addr} {l:List Acc} (h:lX w B A l) (hb:Below B w w'):lX w' B A l:=by
 intro hl;obtain ⟨b,o,e,ey,hc⟩:=h hl;refine ⟨b,o,e,ey,fun k a ha=>?_⟩
 obtain ⟨h1,h2,h3,h4⟩:=hc k a ha;exact ⟨(hb.cell (p:=⟨b,_,none⟩) ey).trans h1,(hb.cell (p:=⟨b,_,none⟩) ey).trans h2,(hb.cell (p:=⟨b,_,none⟩) ey).trans h3,(hb.cell (p:=⟨b,_,none⟩) ey).trans h4⟩
theorem lX.more {w:World} {B B':Nat} {A:Option Addr} {l:List Acc} (h:lX w B A l) (hB:B<=B'):lX w B' A l:=by
 intro hl;obtain ⟨b,o,e,ey,hc⟩:=h hl;exact ⟨b,o,e,bg ey hB,hc⟩
theorem lX.keepb {w w':World} {A:Option Addr} {l:List Acc} (h:lX w w.heap.size A l) (hb:Below w.heap.size w w'):lX w' w'.heap.size A l:=(h.below hb).more hb.size
def lS (w:World) (base:Nat) (v:Value) (rs:List (Int × Bool)):Prop:=w.ownsRow base 75 2 v rs.length (iu rs)
def AllRel (w:World) (A:Option Addr) (c:Nat) (zs:List Int) (l:List Acc) (v7:Value) (v8 i:Value) (wr:World):Prop:=
 ∃ k:Nat,k<=l.length/\i=aa ab k/\Below w.heap.size w wr/\Bk wr w.heap.size 37 #[.slice A zs.length c]/\Bk wr (w.heap.size+1) 37 #[af none 0 0]/\
  bd wr (w.heap.size+1+1) v7 (fj zs (l.take k))/\lS wr (w.heap.size+1+1) v8 (jK zs (l.take k))/\jA zs (l.take k)=0
def kK (zs:List Int) (l:List Acc):List Int:=if jA zs l=0 then fj zs l else zs
def ke (zs:List Int) (l:List Acc):List (Int × Bool):=if jA zs l=0 then jK zs l else []
def Cl (B:Nat) (zs:List Int) (l:List Acc) (w:World) (e:lb) (w':World):Prop:=
 ∃ A c R d,e=ai (.tuple #[rh A zs.length c,.slice R (ke zs l).length d,aa ab (jA zs l)])/\nT w' B A zs.length c (kK zs l)/\lS w' w.heap.size (.slice R (ke zs l).length d) (ke zs l)/\Below w.heap.size w w'
theorem Jz {B:Nat} {zs:List Int} {l:List Acc} {w w':World} {A:Option Addr} {c:Nat} {er:Int} (h0:jA zs l=er) (he:er≠0) (hB:B<=w.heap.size) (h:nT w B A zs.length c zs) (hb:Below w.heap.size w w'):
  Cl B zs l w (ai (.tuple #[rh A zs.length c,af none 0 0,aa ab er])) w':=by
 subst h0;have h1:ke zs l=[]:=by simp [ke,he]
 have h2:kK zs l=zs:=by simp [kK,he]
 exact ⟨A,c,none,0,by rw [h1];rfl,by rw [h2];exact h.ay hB hb,by rw [h1];exact cZ _ _ _ _,hb⟩
theorem LN {B:Nat} {zs:List Int} {l:List Acc} {w w':World} {A:Option Addr} {c:Nat} {v:Value} (h0:jA zs l=0) (h:nT w' B A zs.length c (fj zs l)) (hr:lS w' w.heap.size v (jK zs l)) (hb:Below w.heap.size w w'):
  Cl B zs l w (ai (.tuple #[rh A zs.length c,v,aa ab 0])) w':=by
 have h1:ke zs l=jK zs l:=by simp [ke,h0]
 have h2:kK zs l=fj zs l:=by simp [kK,h0]
 obtain ⟨R,d,rfl⟩:=cj hr;exact ⟨A,c,R,d,by rw [h1,h0],by rw [h2];exact h,by rw [h1];exact hr,hb⟩
theorem BX {α:Type} {l:List α} {k:Nat} {a:α} (h:l[k]? =some a):l.drop k=a :: l.drop (k+1):=by
 obtain ⟨hk,rfl⟩:=a8.1 h;exact List.drop_eq_getElem_cons hk
theorem AN {w:World} {b b' n n' m':Nat} {e e':bR} {sz sz' g cap:Nat} {v:Value} {xs xs':List Value} (h:w.ownsRow b e sz v n xs) (h':w.ownsRow b' e' sz' (af (some ⟨g,0,none⟩) m' cap) n' xs') (dF:e≠e'):
  v.ownBlock=none\/v.ownBlock≠some g:=by
 rcases h.2 with ⟨rfl,_⟩ | ⟨g1,cap1,cur1,rfl,_,h1,_⟩
 ·exact .inl rfl
 ·right
  intro hg;simp [Value.ownBlock] at hg;subst hg;rcases h'.2 with ⟨h2,_⟩ | ⟨g2,Ao,cur2,h2,_,h3,_⟩
  ·simp at h2
  ·injection h2 with h2
   injection h2 with h2
   injection h2 with h2
   subst h2;rw [h1] at h3;injection h3 with h3
   injection h3 with _ h3
   exact dF h3
theorem turn_n (a:Acc) (base g cap n:Nat) (zs:List Int) (w:World) (h:bd w base (af (some ⟨g,0,none⟩) n cap) zs) (hr:a.right=true) (hc:a.cell < n) (hn:zs.length=n) (hg:g < w.heap.size):
  Calls aw 50 #[af (some ⟨g,0,none⟩) n cap,OM a] w fun e w'=>e=ai (qZ (a.had zs) (a.ok (a.had zs)))/\bd w' base (af (some ⟨g,0,none⟩) n cap) (a.make zs)/\w.grownBy w' (some g):=by
 subst hn;exact CF a base g cap zs w h hr hc hg
theorem MR (w:World) (had:Int) (ok:Bool):∀ (j:Nat) (u:Value),[sj .i64 had,.bool ok][j]? =some u->(w.alloc (ag #[aa ab had,.bool ok] 75)).cell? ((⟨w.heap.size,0,none⟩:Addr).add j)=some u:=by
 intro j u hu;rw [fV,eE,(Bk.made w 75 #[aa ab had,.bool ok]).cell j]
 simpa using hu
theorem res_one (had:Int) (ok:Bool):∀ u∈[sj .i64 had,.bool ok],u.oneCell'=true:=by
 intro u hu;simp at hu;rcases hu with rfl | rfl <;> rfl
theorem all_any (A B:Option Addr) (M c d:Nat) (zs:List Int) (l:List Acc) (w:World) (hB:M<=w.heap.size) (hM:nT w M A zs.length c zs) (hl:lX w w.heap.size B l) (hm:zs.length<=1000000) (J7:l.length<=1000000):
  Calls aw 42 #[rh A zs.length c,.slice B l.length d] w (Cl M zs l w):=by
 have h:=hM.sl hB;have HMM:=ar hM;clear hM;obtain ⟨i0,pP,jG,mw,mI⟩:=xE CU;go_enter Tryz.func42,Tryz.ntmps42
 go_wp2_with fail
 have mx:=aB (aB (Below.refl w.heap.size w) (ag #[.slice A zs.length c] 37)) (ag #[af none 0 0] 37);refine (A9 A c zs _ (h.keepb mx) hm).mono ?_;rintro e w1 ⟨v7,rfl,bn,qO⟩;have k0:=((Bk.made w 37 #[.slice A zs.length c]).alloc (ag #[af none 0 0] 37)).ay qO;have k1:=((Bk.new (w.alloc (ag #[.slice A zs.length c] 37)) (g:=w.heap.size+1) zS 37 #[af none 0 0])).ay qO;have bz:=aF mx qO;simp only [World.size_alloc] at bn;obtain ⟨G,Ju,rfl⟩:=cj bn;clear mx qO
 go_wp2_with fail
 go_loopw [8,17] (fun v8 i wr=>AllRel w A c zs l (.slice G zs.length Ju) v8 i wr) (fun _ i _=>l.length - (intOf i).toNat)
 case atStart=>exact ⟨0,aY _,rfl,bz,k0,k1,by simpa [fj] using bn,cZ _ _ _ _,rfl⟩
 case round=>
  clear bz k0 k1 bn;obtain ⟨k,hk,rfl,bz,k0,k1,bn,Aj,rq⟩:=hrel;have jm:=xB (l.take k) zs
  by_cases dN:k < l.length
  ·obtain ⟨b,o,hB,ey,hcc⟩:=(hl.below bz) zO;subst hB;obtain ⟨a,ha⟩:∃ a,l[k]? =some a:=⟨_,aO dN⟩;obtain ⟨d0,d1,d2,d3⟩:=hcc k a ha;have i1:(k:Int) < l.length:=zO;have xx:=OK (l.take k) a zs;have oO:l.take (k+1)=l.take k++[a]:=by rw [j7,ha];rfl
   rw [<- oO] at xx;have hS:=ar xx;have hT:=ar (show l=l.take k++a :: l.drop (k+1) by rw [<- BX ha,List.take_append_drop])
   have HE:=ar rq;have HC:=ar jm;have HX:=ar (au bn Aj);have HA:=ar (au h hl);clear xx oO hcc rq jm ha bn Aj h hl
   by_cases he:a.err zs.length=0
   ·obtain ⟨hr,xc,rr⟩:=Acc.Om he;have sJ:0 < zs.length:=zO;have HO:=ar he
    go_wp2_with fail
    refine (vE zs.length a _).mono ?_;rintro e w2 ⟨rfl,cY⟩;rw [he];clear he;have qa:=aF (aB bz _) cY;have kk0:=(k0.alloc _).ay cY;have kk1:=(k1.alloc _).ay cY;have kk2:=(Bk.made wr 67 #[aa ab a.kind,aa ab a.cell,aa ab a.re,aa ab a.new]).ay cY;have cP:bd w2 (w.heap.size+1+1) (.slice G zs.length Ju) (fj zs (l.take k)):=jD (HX.out.1.alloc (ag #[aa ab a.kind,aa ab a.cell,aa ab a.re,aa ab a.new] 67)) cY;have NS:=jD (World.ownsRow.alloc HX.out.2 (ag #[aa ab a.kind,aa ab a.cell,aa ab a.re,aa ab a.new] 67)) cY;have q0:=kk2.cell 0;have q1:=kk2.cell 1;have q2:=kk2.cell 2;have q3:=kk2.cell 3;simp at q0 q1 q2 q3;obtain ⟨g,Jv,hv,hg1,L9⟩:=World.ownsRow.form cP (by rw [HC.out];exact sJ)
    injection hv with hG hn BQ
    subst hG;clear d0 d1 d2 d3 cY k0 k1 bz hn BQ
    go_wp2_with fail
    (with_reducible refine (turn_n a _ g Ju zs.length _ _ cP hr rr HC.out L9).mono ?_)
    rintro e w3 ⟨rfl,fH,de⟩;clear q0 q1 q2 q3 kk2;generalize tK:a.had (fj zs (l.take k))=had at *;generalize bG:a.ok had=ok at *;have HHO:=ar (au tK bG);clear tK bG;have hres3:lS w3 (w.heap.size+1+1) u8 (jK zs (l.take k)):=World.ownsRow.kept NS de (AN NS cP zD);have hres4:=World.ownsRow.alloc hres3 (ag #[aa ab had,.bool ok] 75);have Jk:Below w.heap.size w w3:=qa.grown de qa.size (fun k hk=>by injection hk;omega)
    have k0:=kk0.grown de (fun e=>by injection e;omega)
    have k1:=kk1.grown de (fun e=>by injection e;omega)
    have hlen:(jK zs (l.take k)).length=k:=by rw [zA,jM];omega
    have gy:(w3.alloc (ag #[aa ab had,.bool ok] 75)).ownsRow (w.heap.size+1+1) 75 2 u8 k (iu (jK zs (l.take k))):=by have h':=hres4;rw [hlen] at h';exact h'
    have hsz3:w.heap.size+1+1<=w3.heap.size:=by have:=k1.lt;omega
    clear kk0 kk1 NS hres3 hres4 cP de qa
    go_wp2_with (at_builtin;go_must (refine cM _ rfl (.tmp 29) (.tmp 33) _ rfl (w.heap.size+1+1) 75 i0 _ 2 16 Tryz.underlying43 pP jG mw mI rfl zO u8 k _ rfl gy ⟨w3.heap.size,0,none⟩ 1 1 [aa ab had,.bool ok] rfl rfl (MR w3 had ok) (res_one had ok) (by simp only [nu];omega) zO zP ?_;intro v9 w4 eu hgrow4 _ _))
    go_roundw
    case rel=>
     obtain ⟨e1,e2,e3⟩:=hS.out;have hbl4:=(aB Jk (ag #[aa ab had,.bool ok] 75)).grown hgrow4 zP (fun j hj=>by have:=(World.ownsRow.lt gy _ hj).1;omega)
     have j0:=(k0.alloc (ag #[aa ab had,.bool ok] 75)).grown hgrow4 (fun e=>by have:=(World.ownsRow.lt gy _ e.symm).1;omega)
     have j1:=(k1.alloc (ag #[aa ab had,.bool ok] 75)).grown hgrow4 (fun e=>by have:=(World.ownsRow.lt gy _ e.symm).1;omega)
     refine ⟨k+1,zO,by go_num,hbl4,j0,j1,?_,?_,by rw [e3 HE.out];exact HO.out⟩
     ·rw [e1];exact World.ownsRow.kept (fH.alloc _) hgrow4 (.inr (fun e=>by rcases AN gy (fH.alloc _) zD with h | h <;> simp_all [Value.ownBlock]))
     ·rw [e2];unfold lS;rw [cJ,hlen]
      simpa [iu] using eu
    case measure=>simp [intOf];omega
   ·have hn:(a.err zs.length != 0)=true:=by simpa using he
    go_wp2_with fail
    refine (vE zs.length a _).mono ?_;rintro e w2 ⟨rfl,cY⟩;have kk0:=(k0.alloc _).ay cY;have kk1:=(k1.alloc _).ay cY;have c0:=kk0.cell 0;have c1:=kk1.cell 0;have f1:=kk1.free 0;simp at c0 c1;clear d0 d1 d2 d3
    go_wp2
    have jg:=bK (aF (aB bz _) cY) (p:=⟨w.heap.size+1,0,none⟩) zS (.slice A zs.length c);have hbad:jA zs l=a.err zs.length:=by
     have:=JA (l.take k) (l.drop (k+1)) a zs HE.out he
     rwa [<- hT.out] at this
    refine aX (v:=.tuple #[rh A zs.length c,af none 0 0,aa ab (a.err zs.length)]) (by simp [qx,Tryz.results42,go_sem,c1]) rfl (Jz hbad he hB HMM.out jg)
  ·obtain rfl:k=l.length:=zO;rw [pL] at bn Aj rq jm;have c1:=k1.cell 0;have f1:=k1.free 0;simp at c1;have HE:=ar rq;have HC:=ar jm;have HX:=ar (au bn Aj);have HA:=ar (au h hl);have hkl:=k1.lt;clear rq jm bn Aj h hl
   go_wp2
   have jg:=bK bz (p:=⟨w.heap.size+1,0,none⟩) zS (.slice G zs.length Ju);have lV:=HX.out.1.keepSet (p:=⟨w.heap.size+1,0,none⟩) zS (.slice G zs.length Ju);have hr3:=C1 HX.out.2 (p:=⟨w.heap.size+1,0,none⟩) zS (.slice G zs.length Ju);refine aX (v:=.tuple #[rh G zs.length Ju,u8,aa ab 0]) (by simp [qx,Tryz.results42,go_sem,c1]) rfl (LN HE.out (nT.Na lV HC.out zO) (AL hr3 zO) jg)
theorem D4 (n:Int) (b:Nat) (hb:b<=62):bits .and .i64 n (2 ^ b - 1)=n % 2 ^ b:=by
 have hp:(2:Nat) ^ b<=2 ^ 62:=Nat.pow_le_pow_right zO hb;have hp0:0 < (2:Nat) ^ b:=Nat.two_pow_pos b;have e1:((2:Int) ^ b - 1)=((2 ^ b - 1:Nat):Int):=by
  rw [Int.ofNat_sub zO];simp
 have hd:(2:Nat) ^ 64=2 ^ b * 2 ^ (64 - b):=by rw [<- Nat.pow_add];congr 1;omega
 show IntKind.i64.wrap ((BitVec.ofInt 64 n&&& BitVec.ofInt 64 (2 ^ b - 1)).toNat:Int)=_;rw [e1,BitVec.ofInt_natCast,BitVec.toNat_and,BitVec.toNat_ofNat,Nat.mod_eq_of_lt (show 2 ^ b - 1 < 2 ^ 64 by omega),Nat.and_two_pow_sub_one_eq_mod,BitVec.toNat_ofInt]
 have e2:(((n % ((2 ^ 64:Nat):Int)).toNat % 2 ^ b:Nat):Int)=n % 2 ^ b:=by
  rw [Int.natCast_emod,Int.toNat_of_nonneg (Int.emod_nonneg _ zO),hd]
  push_cast
  exact Int.emod_emod_of_dvd n (Int.dvd_mul_right _ _)
 rw [e2,IntKind.wrap_i64];have h1:0<=n % (2:Int) ^ b:=Int.emod_nonneg _ (Int.ne_of_gt (Int.pow_pos zO));have h2:n % (2:Int) ^ b < 2 ^ b:=Int.emod_lt_of_pos _ (Int.pow_pos zO);have h3:(2:Int) ^ b<=2 ^ 62:=by exact_mod_cast hp
 omega
theorem JY (x y:Int) (i:Nat) (hi:i<=62) (hx:0<=x) (Dm:x < 9223372036854775808) (hm:x % 2 ^ i=0) (hy:0<=y) (hy2:y < 2 ^ i):
  bits .or .i64 x y=x+y:=by
 obtain ⟨X,rfl⟩:=Int.eq_ofNat_of_zero_le hx;obtain ⟨Y,rfl⟩:=Int.eq_ofNat_of_zero_le hy;have hp:(2:Nat) ^ i<=2 ^ 62:=Nat.pow_le_pow_right zO hi;have I6:Y < 2 ^ i:=by exact_mod_cast hy2
 have hm':X % 2 ^ i=0:=by exact_mod_cast hm
 have hX:X < 2 ^ 63:=zO;have ho:X||| Y < 2 ^ 63:=Nat.or_lt_two_pow hX zO
 have hj:=nat_join i X Y hm' I6;show IntKind.i64.wrap ((BitVec.ofInt 64 (X:Int)||| BitVec.ofInt 64 (Y:Int)).toNat:Int)=_
 rw [BitVec.toNat_or,BitVec.ofInt_natCast,BitVec.toNat_ofNat,BitVec.ofInt_natCast,BitVec.toNat_ofNat,Nat.mod_eq_of_lt zO,Nat.mod_eq_of_lt zO,IntKind.wrap_i64,hj];rw [hj] at ho;omega
theorem rT (x y:Int) (i:Nat) (hi:i<=62) (hx:0<=x) (Dm:x < 2 ^ i) (hm:y % 2 ^ i=0) (hy:0<=y) (hy2:y < 9223372036854775808):
  bits .or .i64 x y=x+y:=by
 have h:=JY y x i hi hy hy2 hm hx Dm;rw [Int.add_comm,<- h];show IntKind.i64.wrap ((BitVec.ofInt 64 x||| BitVec.ofInt 64 y).toNat:Int)=IntKind.i64.wrap ((BitVec.ofInt 64 y||| BitVec.ofInt 64 x).toNat:Int)
 rw [BitVec.or_comm]
theorem Dc (n0 n1 n2:Int):bits .or .i64 (bits .or .i64 (bits .or .i64 0 (n0 % 65536)) (n1 % 2 * 65536)) (n2 % 268435456 * 131072)=
  n0 % 65536+n1 % 2 * 65536+n2 % 268435456 * 131072:=by
 rw [rT 0 (n0 % 65536) 0 zO zO zO zO zO zO];rw [rT _ (n1 % 2 * 65536) 16 zO zO zO zO zO zO];rw [rT _ (n2 % 268435456 * 131072) 17 zO zO zO zO zO zO];omega
theorem low_eq (n:Int) (b:Nat) (hb:b<=62):bits .and .i64 n (wrap64 (wrap64 (2 ^ b) - 1))=n % 2 ^ b:=by
 have h1:(0:Int) < 2 ^ b:=Int.pow_pos zO;have h2:(2:Int) ^ b<=2 ^ 62:=by exact_mod_cast Nat.pow_le_pow_right (n:=2) zO hb
 rw [IntWalk.wrap64_in (2 ^ b) ⟨zO,zO⟩,IntWalk.wrap64_in _ ⟨zO,zO⟩,D4 n b hb]
theorem Ip (n:Int):IntKind.i64.wrap n % 268435456=n % 268435456:=by rw [IntKind.wrap_i64];omega
theorem low_nat (n:Int) (b:Nat) (w:World) (hb:b<=62):
  Calls aw 51 #[aa ab n,aa ab b] w fun e w'=>e=ai (aa ab (n % 2 ^ b))/\w=w':=by
 go_enter Tryz.func51,Tryz.ntmps51
 go_wp2
 go_ret
 exact ⟨mC (low_eq n b hb),rfl⟩
theorem lE (n b:Int) (w:World) (h0:0<=b) (hb:b<=62):
  Calls aw 51 #[aa ab n,aa ab b] w fun e w'=>e=ai (aa ab (n % 2 ^ b.toNat))/\w=w':=by
 obtain ⟨B,rfl⟩:=Int.eq_ofNat_of_zero_le h0;exact low_nat n B w zO
theorem Nw (g:Nat) (n0 n1 n2:Int) (w:World) (hg:g < w.heap.size) (c0:w.cell? ⟨g,0,none⟩=some (aa ab n0)) (c1:w.cell? ⟨g,1,none⟩=some (aa ab 16))
  (c2:w.cell? ⟨g,2,none⟩=some (aa ab n1)) (c3:w.cell? ⟨g,3,none⟩=some (aa ab 1)) (c4:w.cell? ⟨g,4,none⟩=some (aa ab n2)) (c5:w.cell? ⟨g,5,none⟩=some (aa ab 28)):
  Calls aw 115 #[af (some ⟨g,0,none⟩) 3 3] w fun e w'=>e=ai (aa ab (n0 % 65536+n1 % 2 * 65536+n2 % 268435456 * 131072))/\Below w.heap.size w w':=by
 go_enter Tryz.func115,Tryz.ntmps115
 go_wp2
 refine wp_loop_rounds 4 ?_;rw [dI]
 go_wp2_with (go_at_call 51;refine (lE _ _ _ zO zO).mono ?_;rintro e w' ⟨rfl,rfl⟩)
 rw [dI]
 go_wp2_with (go_at_call 51;refine (lE _ _ _ zO zO).mono ?_;rintro e w' ⟨rfl,rfl⟩)
 rw [dI]
 go_wp2_with (go_at_call 51;refine (lE _ _ _ zO zO).mono ?_;rintro e w' ⟨rfl,rfl⟩)
 rw [dI]
 go_wp2
 go_ret
 refine ⟨mC (Dc n0 n1 n2),?_⟩;exact aB (aB (aB (Below.refl _ _) _) _) _
theorem BE (g:Nat) (n0 n1 n2:Int) (W:World) (hg:W.heap.size=g):
  Calls aw 115 #[af (some ⟨g,0,none⟩) 3 3] (W.alloc (ag #[aa ab n0,aa ab 16,aa ab n1,aa ab 1,aa ab n2,aa ab 28] 168)) fun e w'=>
   e=ai (aa ab (n0 % 65536+n1 % 2 * 65536+n2 % 268435456 * 131072))/\Below W.heap.size W w':=by
 subst hg;refine (Nw W.heap.size n0 n1 n2 _ zS zS zS zS zS zS zS).mono ?_;rintro e w' ⟨rfl,hb⟩;exact ⟨rfl,aF (aB (Below.refl _ _) _) hb⟩
abbrev oL (i:Int) (m:Bool) (c:Int):Value:=.agg #[aa ab i,.bool m,aa ab c]
def dS (i:Int) (m:Bool) (c:Int):Int:=i % 65536+(if m then 1 else 0) % 2 * 65536+c % 268435456 * 131072
theorem iy (i:Int) (m:Bool) (c:Int) (w:World):
  Calls aw 82 #[oL i m c] w fun e w'=>e=ai (aa ab (dS i m c))/\Below w.heap.size w w':=by
 cases m
 all_goals
  go_enter Tryz.func82,Tryz.ntmps82
  go_wp2_with fail
  refine (BE _ _ _ _ _ zS).mono ?_;rintro e w' ⟨rfl,hb⟩
  go_wp2
  go_ret
  exact ⟨mC (by simp [dS]),aF (aB (Below.refl _ _) _) hb⟩
theorem gV (n:Int) (w:World):
  Calls aw 25 #[aa ab n] w fun e w'=>e=ai (oL (n % 65536) (n / 65536 % 2==1) (n / 131072 % 268435456))/\Below w.heap.size w w':=by
 go_enter Tryz.func25,Tryz.ntmps25
 go_wp2_with (go_at_call 51;refine (lE _ _ _ zO zO).mono ?_;rintro e w' ⟨rfl,rfl⟩)
 refine aX (v:=oL (n % 65536) (n / 65536 % 2==1) (n / 131072 % 268435456)) (by simp [qx,Tryz.results25,go_sem]) rfl ⟨rfl,?_⟩
 exact aB (Below.refl _ _) _
theorem lZ (i:Int) (m:Bool) (c:Int) (idx:Int) (w:World):
  Calls aw 152 #[oL i m c,aa ab idx] w fun e w'=>e=ai (oL (idx % 65536) false ((c+1) % 268435456))/\Below w.heap.size w w':=by
 go_enter Tryz.func152,Tryz.ntmps152
 go_wp2_with fail
 go_region_held3 (fun w'=>w'.cell? ⟨w.heap.size,2,none⟩=some (aa ab c)) (go_keep) (first | (go_at_call 51;refine (lE _ _ _ zO zO).mono ?_;rintro e w' ⟨rfl,rfl⟩))
 all_goals go_wp2
 refine aX (v:=oL (idx % 65536) false ((c+1) % 268435456)) ?_ rfl ⟨rfl,((aB (aB (Below.refl _ _) _) _).drew)⟩;simp [qx,Tryz.results152,go_sem];exact Ip _
end Go.Proofs.YtikdaeddbkopeaaGreatR
namespace Go.Proofs.YtikdaeddbkopeaaGreatR
inductive Loc where
 | era | free | resv (s i:Int) | msize | mcount | bucket (b:Int) | top | slot | head | tail | nd (n i:Int)
deriving DecidableEq
structure LAc where
 k:Int
 c:Loc
 o:Int
 v:Int
deriving DecidableEq
abbrev cG:=List (Int × Int)
abbrev Log:=List (Int × Bool)
def idxOf (n:Int):Int:=n % 65536
def fG (n:Int):Bool:=n / 65536 % 2==1
def mM (n:Int):Int:=n / 131072 % 268435456
def ed (x idx:Int):Int:=dS (idx % 65536) false ((mM x+1) % 268435456)
def a9 (n:Int):Int:=dS n false 0
def gZ (n:Int):Int:=dS n true 0
def pY (v kind tM:Int):Int:=v % 4294967296+kind % 4 * 4294967296+tM % 268435456 * 17179869184
def IT (n:Int):Int:=n % 4294967296
def Ac (n:Int):Int:=n / 4294967296 % 4
def KX (n:Int):Int:=n / 17179869184 % 268435456
def rv:Nat->Nat->Nat
 | 0,_=>0
 | i+1,x=>(x % 2) * 2 ^ i+rv i (x / 2)
def qY (x:Int):Int:=(rv 16 (x % 65536).toNat:Nat)
def jr (k:Int):Int:=2 * qY k+1
def rA (b:Int):Int:=2 * qY b
structure Pz where
 dO:List Int
 gone:cG
 made:Nat
deriving DecidableEq
def Pz.got (s:Pz):Pz:={ s with made:=s.made+1 }
inductive Sub where
 | g1 (i:Nat) (c:Loc) | g2 (i:Nat) (c:Loc) (v:Int) | g3 (i:Nat) (c:Loc) (e:Int)
 | t1 | t2 (fr:Int) | t3 (fr lk:Int) | t4 (n:Int) (p:Nat) | t5 (n b:Int) (p:Nat)
 | v1 (n:Int) | v2 (n fr:Int) | v3 (n fr:Int)
 | cl (i:Nat)
 | r1 (n:Int) | r2 (n e:Int)
deriving DecidableEq
inductive Ret where
 | gd (v:Int) (p:Nat) | tk (n:Int) (p:Nat) (ok:Bool) | un
def Sub.acc (me:Int):Sub->LAc
 | .g1 _ c=>⟨1,c,0,0⟩
 | .g2 _ _ _=>⟨1,.era,0,0⟩
 | .g3 i _ e=>⟨2,.resv me i,0,e⟩
 | .t1=>⟨1,.free,0,0⟩
 | .t2 fr=>⟨1,.nd (idxOf fr) 7,0,0⟩
 | .t3 fr lk=>⟨3,.free,fr,ed fr lk⟩
 | .t4 _ _=>⟨1,.era,0,0⟩
 | .t5 n b _=>⟨2,.nd n 6,0,b⟩
 | .v1 _=>⟨1,.free,0,0⟩
 | .v2 n fr=>⟨2,.nd n 7,0,idxOf fr⟩
 | .v3 n fr=>⟨3,.free,fr,ed fr n⟩
 | .cl i=>⟨2,.resv me i,0,0⟩
 | .r1 _=>⟨1,.era,0,0⟩
 | .r2 _ _=>⟨4,.era,0,1⟩
inductive SX where
 | go (x:Sub) (s:Pz) | ret (r:Ret) (s:Pz) | stuck
def sU (dO:List Int):Nat->Nat->Option Nat
 | 0,_=>none
 | f+1,i=>if dO.getD i 0≠0 then some i else sU dO f (i+1)
def dK (s:Pz) (i:Nat):SX:=match sU s.dO (3 - i) i with
 | some j=>.go (.cl j) s
 | none=>.ret .un s
def Sub.stp (th:Int) (s:Pz):Sub->Int × Bool->SX
 | .g1 i c,r=>.go (.g2 i c r.1) s.got
 | .g2 i c v,r=>if r.1=s.dO.getD i 0 then .ret (.gd v (s.made - 1)) s.got else .go (.g3 i c r.1) s.got
 | .g3 i c e,_=>.go (.g1 i c) { s.got with dO:=s.dO.set i e }
 | .t1,r=>if idxOf r.1=0 then .ret (.tk 0 s.made false) s.got else .go (.t2 r.1) s.got
 | .t2 fr,r=>.go (.t3 fr r.1) s.got
 | .t3 fr _,r=>if r.2 then .go (.t4 (idxOf fr) s.made) s.got else .go .t1 s.got
 | .t4 n p,r=>.go (.t5 n r.1 p) s.got
 | .t5 n _ p,_=>.ret (.tk n p true) s.got
 | .v1 n,r=>.go (.v2 n r.1) s.got
 | .v2 n fr,_=>.go (.v3 n fr) s.got
 | .v3 n _,r=>if r.2 then .ret .un s.got else .go (.v1 n) s.got
 | .cl i,_=>dK { s.got with dO:=s.dO.set i 0 } (i+1)
 | .r1 n,r=>.go (.r2 n r.1) s.got
 | .r2 n e,_=>if (s.gone.length:Int)+1 < th then .ret .un { s.got with gone:=s.gone++[(n,e)] } else .stuck
structure LOp where
 kind:Int
 h:Int
 o:Int
 v:Int
deriving DecidableEq
inductive FK where
 | get | put (n:Int) | del | fin (p:Nat)
deriving DecidableEq
structure dA where
 val:Int
 is:Bool
 aH:Nat
 node:Int
deriving DecidableEq
structure Fp where
 a:Nat
 b:Nat
 c:Nat
 prev:Int
 cur:Int
 pt:Nat
deriving DecidableEq
inductive LK where
 | fh (k:FK) | fn (k:FK) (f:Fp) | fr (k:FK) (f:Fp) | out (o:dA) | clr (o:dA) | pt (prev cur:Int) | dc (n:Int) (o:dA)
deriving DecidableEq
inductive LPh where
 | sub (x:Sub) (k:LK)
 | fs (k:FK) (f:Fp) (next:Int) (told:Nat)
 | fo (k:FK) (f:Fp) (next:Int) (told:Nat)
 | fc (k:FK) (f:Fp) (nx:Int)
 | gv (n:Int) (p:Nat)
 | p1 (n prev cur:Int) | p2 (n prev cur:Int) | p0 (n prev cur:Int) | pc (n prev cur:Int)
 | dm (prev cur next:Int) | du (prev cur next:Int) (p:Nat)
deriving DecidableEq
inductive LX where
 | go (x:LPh) (s:Pz) | out (o:dA) (s:Pz) | stuck
def LPh.acc (me:Int) (op:LOp):LPh->LAc
 | .sub x _=>x.acc me
 | .fs _ f _ _=>⟨1,.nd f.prev 0,0,0⟩
 | .fo _ f _ _=>⟨1,.nd f.cur 1,0,0⟩
 | .fc _ f nx=>⟨3,.nd f.prev 0,a9 f.cur,a9 nx⟩
 | .gv n _=>⟨1,.nd n 2,0,0⟩
 | .p1 n _ _=>⟨2,.nd n 1,0,op.o⟩
 | .p2 n _ _=>⟨2,.nd n 2,0,op.v⟩
 | .p0 n _ cur=>⟨2,.nd n 0,0,a9 cur⟩
 | .pc n prev cur=>⟨3,.nd prev 0,a9 cur,a9 n⟩
 | .dm _ cur next=>⟨3,.nd cur 0,next,gZ (idxOf next)⟩
 | .du prev cur next _=>⟨3,.nd prev 0,a9 cur,a9 (idxOf next)⟩
def SX.oX (k:LK) (f:Ret->Pz->LX):SX->LX
 | .go x s=>.go (.sub x k) s
 | .ret r s=>f r s
 | .stuck=>.stuck
def iE (o:dA) (s:Pz):LX:=(dK s 0).oX (.out o) fun _ s=>.out o s
def retL (n:Int) (o:dA) (s:Pz):LX:=.go (.sub (.r1 n) (.out o)) s
def ie (n:Int) (o:dA) (s:Pz):LX:=(dK s 0).oX (.dc n o) fun _ s=>retL n o s
def jU (op:LOp) (k:FK) (s:Pz):LX:=.go (.sub (.g1 0 (.nd op.h 0)) (.fh k)) s
def kI (op:LOp) (k:FK) (there:Bool) (prev cur next:Int) (pt:Nat) (s:Pz):LX:=match k with
 | .get=>if there then .go (.gv cur pt) s else iE ⟨0,false,pt,0⟩ s
 | .put n=>if there then (if n≠0 then .go (.sub (.v1 n) (.clr ⟨0,false,pt,cur⟩)) s else iE ⟨0,false,pt,cur⟩ s)
   else if n=0 then .go (.sub .t1 (.pt prev cur)) s else .go (.p0 n prev cur) s
 | .del=>if there then .go (.dm prev cur next) s else iE ⟨0,false,pt,0⟩ s
 | .fin p=>iE ⟨0,true,p,0⟩ s
def fY (op:LOp) (k:FK) (f:Fp) (s:Pz):LX:=
 if f.cur=0 then kI op k false f.prev 0 0 f.pt s else .go (.sub (.g1 f.b (.nd f.cur 0)) (.fn k f)) s
def jS (op:LOp) (r:Ret) (s:Pz):LK->LX
 | .fh k=>match r with
  | .gd v p=>fY op k ⟨0,1,2,op.h,idxOf v,p⟩ s
  | _=>.stuck
 | .fn k f=>match r with
  | .gd v p=>.go (.fs k f v p) s
  | _=>.stuck
 | .fr k f=>fY op k f s
 | .out o=>.out o s
 | .clr o=>iE o s
 | .pt prev cur=>match r with
  | .tk n _ true=>.go (.p1 n prev cur) s
  | _=>.stuck
 | .dc n o=>retL n o s
def LPh.stp (th:Int) (op:LOp) (s:Pz):LPh->Int × Bool->LX
 | .sub x k,r=>(x.stp th s r).oX k fun t s=>jS op t s k
 | .fs k f next told,r=>if r.1≠a9 f.cur then jU op k s.got else .go (.fo k f next told) s.got
 | .fo k f next told,r=>
  if fG next then .go (.fc k f (idxOf next)) s.got
  else if r.1 < op.o then fY op k ⟨f.b,f.c,f.a,f.cur,idxOf next,told⟩ s.got
  else if r.1=op.o then kI op k true f.prev f.cur next told s.got
  else kI op k false f.prev f.cur 0 (s.made - 1) s.got
 | .fc k f nx,r=>if r.2 then .go (.sub (.r1 f.cur) (.fr k ⟨f.b,f.a,f.c,f.prev,nx,s.made⟩)) s.got else jU op k s.got
 | .gv n p,r=>iE ⟨r.1,true,p,n⟩ s.got
 | .p1 n prev cur,_=>.go (.p2 n prev cur) s.got
 | .p2 n prev cur,_=>.go (.p0 n prev cur) s.got
 | .p0 n prev cur,_=>.go (.pc n prev cur) s.got
 | .pc n prev cur,r=>if r.2 then iE ⟨0,true,s.made,n⟩ s.got else jU op (.put n) s.got
 | .dm prev cur next,r=>if r.2 then .go (.du prev cur next s.made) s.got else jU op .del s.got
 | .du prev cur next p,r=>if r.2 then ie cur ⟨0,true,p,0⟩ s.got else jU op (.fin p) s.got
def dp (op:LOp) (g:cG):LX:=match op.kind with
 | 1=>jU op .get ⟨[0,0,0],g,0⟩
 | 2=>jU op (.put 0) ⟨[0,0,0],g,0⟩
 | 3=>jU op .del ⟨[0,0,0],g,0⟩
 | _=>.stuck
structure MOp where
 kind:Int
 a:Int
 b:Int
deriving DecidableEq
inductive MPh where
 | m1
 | m2 (sz b:Int)
 | m3 (sz:Int)
 | ml (dm:Bool) (sz:Int) (m:Nat) (lo:LOp) (x:LPh) (s:Pz)
 | m4 (sz n:Int)
 | m5 (sz:Int) (o:dA)
 | m6 (sz:Int) (o:dA)
 | m7 (o:dA)
deriving DecidableEq
structure Out where
 val:Int
 is:Bool
 aH:Int
 gone:cG
deriving DecidableEq
inductive MX where
 | go (x:MPh) (made:Nat) (g:cG) | out (o:Out) | stuck
def MPh.acc (me:Int):MPh->LAc
 | .m1=>⟨1,.msize,0,0⟩
 | .m2 _ b=>⟨1,.bucket b,0,0⟩
 | .m3 _=>⟨1,.bucket 0,0,0⟩
 | .ml _ _ _ lo x _=>x.acc me lo
 | .m4 _ n=>⟨3,.bucket 1,0,a9 n⟩
 | .m5 _ _=>⟨4,.mcount,0,1⟩
 | .m6 sz _=>⟨3,.msize,sz,2 * sz⟩
 | .m7 _=>⟨4,.mcount,0,-1⟩
def LX.inM (dm:Bool) (sz:Int) (m:Nat) (lo:LOp) (f:dA->Pz->MX):LX->MX
 | .go x s=>.go (.ml dm sz m lo x s) (m+s.made) s.gone
 | .out o s=>f o s
 | .stuck=>.stuck
def Ab (o:dA) (g:cG):MX:=.out ⟨o.val,o.is,o.aH,g⟩
def jf (op:MOp) (sz:Int) (o:dA) (made:Nat) (g:cG):MX:=
 if o.is=false then Ab o g
 else if op.kind=2 then .go (.m5 sz o) made g
 else if op.kind=3 then .go (.m7 o) made g
 else Ab o g
def ku (op:MOp) (sz n:Int) (made:Nat) (g:cG):MX:=
 if 1<=n/\n<=40 then
  (dp ⟨op.kind,n,jr op.a,op.b⟩ g).inM false sz made ⟨op.kind,n,jr op.a,op.b⟩ fun _ _=>.stuck
 else .stuck
def MPh.stp (th bk:Int) (op:MOp) (made:Nat) (g:cG):MPh->Int × Bool->MX
 | .m1,r=>if r.1=1\/r.1=2/\bk=2 then .go (.m2 r.1 (op.a % r.1)) (made+1) g else .stuck
 | .m2 sz b,r=>if idxOf r.1≠0 then ku op sz (idxOf r.1) (made+1) g else if b=1 then .go (.m3 sz) (made+1) g else .stuck
 | .m3 sz,r=>if idxOf r.1=0\/40 < idxOf r.1 then .stuck else
   let lo:LOp:=⟨2,idxOf r.1,rA 1,0⟩
   (dp lo g).inM true sz (made+1) lo fun _ _=>.stuck
 | .ml dm sz m lo x s,r=>(x.stp th lo s r).inM dm sz m lo fun o s'=>
   if dm then .go (.m4 sz o.node) (m+s'.made) s'.gone
   else jf op sz { o with aH:=m+o.aH } (m+s'.made) s'.gone
 | .m4 sz n,_=>ku op sz n (made+1) g
 | .m5 sz o,r=>if r.1>=2 * sz/\sz < bk then .go (.m6 sz o) (made+1) g else Ab o g
 | .m6 _ o,_=>Ab o g
 | .m7 o,_=>Ab o g
inductive EK where
 | ut | ug (p:Nat) | og | oc (o:Out) | orr (n:Int) (o:Out) | od (o:Out)
deriving DecidableEq
inductive EPh where
 | sub (x:Sub) (k:EK)
 | u1 (n:Int) | u2 (n:Int) | u3 (n bF:Int) | u4 (n bF:Int) | u5 (n:Int) | u6 (n w:Int)
 | u7 (j:Nat) (n w:Int) (p:Nat) | u8 (n w:Int) (p:Nat) | u9 (n w:Int) (p:Nat)
 | o2 (bF:Int) | o3 (bF below:Int) | o4 (n:Int) (p:Nat) | o5 | o6 (w:Int)
deriving DecidableEq
inductive EX where
 | go (x:EPh) (s:Pz) | out (o:Out) | stuck
def qC (a w:Int):Int:=pY a 1 (KX w+1)
def noW (w:Int):Int:=pY 0 0 (KX w+1)
def Bh (w:Int):Int:=pY (IT w) 2 (KX w)
def EPh.acc (me a:Int):EPh->LAc
 | .sub x _=>x.acc me
 | .u1 n=>⟨2,.nd n 1,0,a⟩
 | .u2 _=>⟨1,.top,0,0⟩
 | .u3 n bF=>⟨2,.nd n 0,0,idxOf bF⟩
 | .u4 n bF=>⟨3,.top,bF,ed bF n⟩
 | .u5 _=>⟨1,.slot,0,0⟩
 | .u6 _ w=>⟨3,.slot,w,qC a w⟩
 | .u7 _ _ _ _=>⟨1,.slot,0,0⟩
 | .u8 _ w _=>⟨3,.slot,qC a w,noW w⟩
 | .u9 _ w _=>⟨2,.slot,0,noW w⟩
 | .o2 bF=>⟨1,.nd (idxOf bF) 0,0,0⟩
 | .o3 bF below=>⟨3,.top,bF,ed bF below⟩
 | .o4 n _=>⟨1,.nd n 1,0,0⟩
 | .o5=>⟨1,.slot,0,0⟩
 | .o6 w=>⟨3,.slot,w,Bh w⟩
def SX.mX (k:EK) (f:Ret->Pz->EX):SX->EX
 | .go x s=>.go (.sub x k) s
 | .ret r s=>f r s
 | .stuck=>.stuck
def IP (val:Int) (is:Bool) (aH:Int) (s:Pz):EX:=.out ⟨val,is,aH,s.gone⟩
def zq (val:Int) (is:Bool) (aH:Int) (s:Pz):EX:=(dK s 0).mX (.oc ⟨val,is,aH,[]⟩) fun _ s=>IP val is aH s
def C0 (s:Pz):EX:=.go (.sub (.g1 0 .top) .og) s
def sx (r:Ret) (s:Pz):EK->EX
 | .ut=>match r with
  | .tk n _ true=>.go (.u1 n) s
  | _=>.stuck
 | .ug p=>IP 0 true (-(p:Int) - 2) s
 | .og=>match r with
  | .gd bF p=>if idxOf bF=0 then zq 0 false p s else .go (.o2 bF) s
  | _=>.stuck
 | .oc o=>IP o.val o.is o.aH s
 | .orr n o=>.go (.sub (.r1 n) (.od o)) s
 | .od o=>IP o.val o.is o.aH s
def EPh.stp (th a:Int) (s:Pz):EPh->Int × Bool->EX
 | .sub x k,r=>(x.stp th s r).mX k fun t s=>sx t s k
 | .u1 n,_=>.go (.u2 n) s.got
 | .u2 n,r=>.go (.u3 n r.1) s.got
 | .u3 n bF,_=>.go (.u4 n bF) s.got
 | .u4 n _,r=>if r.2 then IP 0 true s.made s.got else .go (.u5 n) s.got
 | .u5 n,r=>if Ac r.1≠0 then .go (.u2 n) s.got else .go (.u6 n r.1) s.got
 | .u6 n w,r=>if r.2 then .go (.u7 0 n w s.made) s.got else .go (.u2 n) s.got
 | .u7 j n w p,r=>if r.1≠qC a w then .go (.u9 n w p) s.got else if j=0 then .go (.u7 1 n w p) s.got else .go (.u8 n w p) s.got
 | .u8 n w p,r=>if r.2 then .go (.u2 n) s.got else .go (.u9 n w p) s.got
 | .u9 n _ p,_=>.go (.sub (.v1 n) (.ug p)) s.got
 | .o2 bF,r=>.go (.o3 bF r.1) s.got
 | .o3 bF _,r=>if r.2 then .go (.o4 (idxOf bF) s.made) s.got else .go .o5 s.got
 | .o4 n p,r=>(dK s.got 0).mX (.orr n ⟨r.1,true,p,[]⟩) fun _ s=>.go (.sub (.r1 n) (.od ⟨r.1,true,p,[]⟩)) s
 | .o5,r=>if Ac r.1≠1 then C0 s.got else .go (.o6 r.1) s.got
 | .o6 w,r=>if r.2 then zq (IT w) true s.made s.got else C0 s.got
def uU (kind:Int) (g:cG):EX:=match kind with
 | 4=>.go (.sub .t1 .ut) ⟨[0,0,0],g,0⟩
 | 5=>C0 ⟨[0,0,0],g,0⟩
 | _=>.stuck
inductive CK where
 | sg (bP:Int) | st (bF:Int) | sv (p:Nat) | rg | oc (o:Out)
deriving DecidableEq
inductive CPh where
 | sub (x:Sub) (k:CK)
 | s2 (bP bF:Int) (i:Nat) | s3 (bP bF:Int) (i:Nat) | s4 (bP bF:Int) | s5 (bP bF next:Int)
 | fl (n bF:Int) (j:Nat) | s6 (bP bF:Int) | s7 (bP bF:Int) (p:Nat)
 | r2 (bF:Int) (i:Nat) | r3 (bF:Int) (i:Nat) (has:Int) | r4 (bF:Int)
deriving DecidableEq
inductive CX where
 | go (x:CPh) (s:Pz) | out (o:Out) | stuck
def CPh.acc (me a:Int):CPh->LAc
 | .sub x _=>x.acc me
 | .s2 _ bF i=>⟨1,.nd (idxOf bF) (1+i),0,0⟩
 | .s3 _ bF i=>⟨3,.nd (idxOf bF) (1+i),0,a+2⟩
 | .s4 _ bF=>⟨1,.nd (idxOf bF) 0,0,0⟩
 | .s5 _ bF next=>⟨3,.tail,bF,ed bF next⟩
 | .fl n _ j=>⟨2,.nd n j,0,if j=1 then a+2 else 0⟩
 | .s6 bP bF=>⟨3,.nd (idxOf bF) 0,0,bP⟩
 | .s7 bP bF _=>⟨3,.tail,bF,ed bF bP⟩
 | .r2 bF i=>⟨1,.nd (idxOf bF) (1+i),0,0⟩
 | .r3 bF i has=>⟨3,.nd (idxOf bF) (1+i),has,1⟩
 | .r4 bF=>⟨1,.nd (idxOf bF) 0,0,0⟩
def SX.qS (k:CK) (f:Ret->Pz->CX):SX->CX
 | .go x s=>.go (.sub x k) s
 | .ret r s=>f r s
 | .stuck=>.stuck
def outC2 (val:Int) (is:Bool) (aH:Int) (s:Pz):CX:=.out ⟨val,is,aH,s.gone⟩
def lN (val:Int) (is:Bool) (aH:Int) (s:Pz):CX:=(dK s 0).qS (.oc ⟨val,is,aH,[]⟩) fun _ s=>outC2 val is aH s
def qW (bP:Int) (s:Pz):CX:=.go (.sub (.g1 0 .tail) (.sg bP)) s
def JW (s:Pz):CX:=.go (.sub (.g1 0 .head) .rg) s
def sy (r:Ret) (s:Pz):CK->CX
 | .sg bP=>match r with
  | .gd bF _=>.go (.s2 bP bF 0) s
  | _=>.stuck
 | .st bF=>match r with
  | .tk n _ true=>.go (.fl n bF 0) s
  | _=>.stuck
 | .sv p=>lN 0 true p s
 | .rg=>match r with
  | .gd bF _=>.go (.r2 bF 0) s
  | _=>.stuck
 | .oc o=>outC2 o.val o.is o.aH s
def mY (bP bF:Int) (i:Nat) (s:Pz):CX:=if i < 4 then .go (.s2 bP bF (i+1)) s else .go (.s4 bP bF) s
def mZ (bF:Int) (i:Nat) (s:Pz):CX:=if i < 4 then .go (.r2 bF (i+1)) s else .go (.r4 bF) s
def CPh.stp (th a:Int) (s:Pz):CPh->Int × Bool->CX
 | .sub x k,r=>(x.stp th s r).qS k fun t s=>sy t s k
 | .s2 bP bF i,r=>if r.1=0 then .go (.s3 bP bF i) s.got else mY bP bF i s.got
 | .s3 bP bF i,r=>if r.2 then (if bP≠0 then .go (.sub (.v1 bP) (.sv s.made)) s.got else lN 0 true s.made s.got) else mY bP bF i s.got
 | .s4 bP bF,r=>if r.1≠0 then .go (.s5 bP bF r.1) s.got else if bP=0 then .go (.sub .t1 (.st bF)) s.got else .go (.s6 bP bF) s.got
 | .s5 bP _ _,_=>qW bP s.got
 | .fl n bF j,_=>if j < 5 then .go (.fl n bF (j+1)) s.got else .go (.s6 n bF) s.got
 | .s6 bP bF,r=>if r.2 then .go (.s7 bP bF s.made) s.got else qW bP s.got
 | .s7 _ _ p,_=>lN 0 true p s.got
 | .r2 bF i,r=>if r.1=0 then lN 0 false s.made s.got else if r.1=1 then mZ bF i s.got else .go (.r3 bF i r.1) s.got
 | .r3 bF i has,r=>if r.2 then lN (has - 2) true s.made s.got else mZ bF i s.got
 | .r4 _,r=>if r.1=0 then lN 0 false s.made s.got else .stuck
def uV (kind:Int) (g:cG):CX:=match kind with
 | 6=>qW 0 ⟨[0,0,0],g,0⟩
 | 7=>JW ⟨[0,0,0],g,0⟩
 | _=>.stuck
structure Opr where
 kind:Int
 obj:Int
 a:Int
 b:Int
deriving DecidableEq
abbrev eg (o:Opr):Array Value:=#[aa ab o.kind,aa ab o.obj,aa ab o.a,aa ab o.b]
inductive Ph where
 | m (x:MPh) (made:Nat) (g:cG) | e (x:EPh) (s:Pz) | c (x:CPh) (s:Pz)
deriving DecidableEq
inductive PX where
 | go (x:Ph) | out (o:Out) | stuck
def MX.p:MX->PX
 | .go x n g=>.go (.m x n g)
 | .out o=>.out o
 | .stuck=>.stuck
def EX.p:EX->PX
 | .go x s=>.go (.e x s)
 | .out o=>.out o
 | .stuck=>.stuck
def CX.p:CX->PX
 | .go x s=>.go (.c x s)
 | .out o=>.out o
 | .stuck=>.stuck
def Ph.acc (me a:Int):Ph->LAc
 | .m x _ _=>x.acc me
 | .e x _=>x.acc me a
 | .c x _=>x.acc me a
def Ph.stp (th bk:Int) (op:Opr):Ph->Int × Bool->PX
 | .m x n g,r=>(x.stp th bk ⟨op.kind,op.a,op.b⟩ n g r).p
 | .e x s,r=>(x.stp th op.a s r).p
 | .c x s,r=>(x.stp th op.a s r).p
def gz (op:Opr) (g:cG):PX:=
 if 1<=op.kind/\op.kind<=3 then .go (.m .m1 0 g)
 else if 4<=op.kind/\op.kind<=5 then (uU op.kind g).p
 else if 6<=op.kind/\op.kind<=7 then (uV op.kind g).p
 else .stuck
end Go.Proofs.YtikdaeddbkopeaaGreatR
namespace Go.Proofs.YtikdaeddbkopeaaGreatR
open Go.RowKit
structure Cf where
 aM:Int
 nodes:Int
 buckets:Int
 slots:Int
 tasks:Int
 cells:Int
 maps:Int
 stacks:Int
 chans:Int
abbrev cfV (c:Cf):Value:=.agg #[aa ab c.aM,aa ab c.nodes,aa ab c.buckets,aa ab c.slots,aa ab c.tasks,aa ab c.cells,aa ab c.maps,aa ab c.stacks,aa ab c.chans]
abbrev cfC (c:Cf):Array Value:=#[aa ab c.aM,aa ab c.nodes,aa ab c.buckets,aa ab c.slots,aa ab c.tasks,aa ab c.cells,aa ab c.maps,aa ab c.stacks,aa ab c.chans]
structure Ly where
 c:Cf
 done:Int
 count:Int
 era:Int
 free:Int
 alive:Int
 owner:Int
 resv:Int
 deque:Int
 ring:Int
 task:Int
 cell:Int
 map:Int
 stack:Int
 chan:Int
 node:Int
 size:Int
abbrev lyC (l:Ly):Array Value:=#[aa ab l.c.aM,aa ab l.c.nodes,aa ab l.c.buckets,aa ab l.c.slots,aa ab l.c.tasks,aa ab l.c.cells,aa ab l.c.maps,aa ab l.c.stacks,aa ab l.c.chans,aa ab l.done,aa ab l.count,aa ab l.era,aa ab l.free,aa ab l.alive,aa ab l.owner,aa ab l.resv,aa ab l.deque,aa ab l.ring,aa ab l.task,aa ab l.cell,aa ab l.map,aa ab l.stack,aa ab l.chan,aa ab l.node,aa ab l.size]
abbrev lyV (l:Ly):Value:=.agg #[aa ab l.c.aM,aa ab l.c.nodes,aa ab l.c.buckets,aa ab l.c.slots,aa ab l.c.tasks,aa ab l.c.cells,aa ab l.c.maps,aa ab l.c.stacks,aa ab l.c.chans,aa ab l.done,aa ab l.count,aa ab l.era,aa ab l.free,aa ab l.alive,aa ab l.owner,aa ab l.resv,aa ab l.deque,aa ab l.ring,aa ab l.task,aa ab l.cell,aa ab l.map,aa ab l.stack,aa ab l.chan,aa ab l.node,aa ab l.size]
def jq (t:Int):Int:=if t<=4 then 1 else if t<=8 then 2 else if t<=16 then 3 else if t<=32 then 4 else 5
def gh (n:Int) (w:World) (e:lb) (w':World):Prop:=e=ai (aa ab n)/\Below w.heap.size w w'
def qs (n:Int) (w:World) (e:lb) (w':World):Prop:=e=ai (aa ab n)/\w'=w
theorem qs.of {n:Int} {w:World}:qs n w (ai (aa ab n)) w:=⟨rfl,rfl⟩
end Go.Proofs.YtikdaeddbkopeaaGreatR
namespace Go.Proofs.YtikdaeddbkopeaaGreatR
open Go.RowKit
attribute [local go_sem ↓] aV aW
theorem KP (l:Ly) (w:World) (h1:1<=l.c.tasks) (h2:l.c.tasks<=64):Calls aw 67 #[lyV l] w (gh (jq l.c.tasks) w):=by
 have hE:jq l.c.tasks=1/\l.c.tasks<=4\/jq l.c.tasks=2/\4 < l.c.tasks/\l.c.tasks<=8\/jq l.c.tasks=3/\8 < l.c.tasks/\l.c.tasks<=16\/jq l.c.tasks=4/\16 < l.c.tasks/\l.c.tasks<=32\/jq l.c.tasks=5/\32 < l.c.tasks:=by
  unfold jq
  repeat' split
  all_goals omega
 obtain ⟨c,x1,x2,x3,x4,x5,x6,x7,x8,x9,x10,x11,x12,x13,x14,x15,x16⟩:=l;obtain ⟨c0,c1,c2,c3,t,c5,c6,c7,c8⟩:=c;dsimp only at *;have hm:IntKind.u64.wrap t=t:=IntWalk.u64_in t zO;have h0:0<=t:=zO;rcases hE with ⟨e,a1⟩ | ⟨e,a0,a1⟩ | ⟨e,a0,a1⟩ | ⟨e,a0,a1⟩ | ⟨e,a0⟩ <;> rw [e] <;> clear e
 ·have g1:decide (4 < t)=false:=by simp;omega
  go_enter Tryz.func67,Tryz.ntmps67
  go_wp2
  refine wp_loop_rounds 1 ?_;rw [dI]
  go_wp2
  go_ret
  exact ⟨rfl,aB (Below.refl _ _) _⟩
 ·have g1:decide (4 < t)=true:=by simp;omega
  have g2:decide (8 < t)=false:=by simp;omega
  go_enter Tryz.func67,Tryz.ntmps67
  go_wp2
  refine wp_loop_rounds 2 ?_;rw [dI]
  go_wp2
  rw [dI]
  go_wp2
  go_ret
  exact ⟨rfl,aB (Below.refl _ _) _⟩
 ·have g1:decide (4 < t)=true:=by simp;omega
  have g2:decide (8 < t)=true:=by simp;omega
  have g3:decide (16 < t)=false:=by simp;omega
  go_enter Tryz.func67,Tryz.ntmps67
  go_wp2
  refine wp_loop_rounds 3 ?_;rw [dI]
  go_wp2
  rw [dI]
  go_wp2
  rw [dI]
  go_wp2
  go_ret
  exact ⟨rfl,aB (Below.refl _ _) _⟩
 ·have g1:decide (4 < t)=true:=by simp;omega
  have g2:decide (8 < t)=true:=by simp;omega
  have g3:decide (16 < t)=true:=by simp;omega
  have g4:decide (32 < t)=false:=by simp;omega
  go_enter Tryz.func67,Tryz.ntmps67
  go_wp2
  refine wp_loop_rounds 4 ?_;rw [dI]
  go_wp2
  rw [dI]
  go_wp2
  rw [dI]
  go_wp2
  rw [dI]
  go_wp2
  go_ret
  exact ⟨rfl,aB (Below.refl _ _) _⟩
 ·have g1:decide (4 < t)=true:=by simp;omega
  have g2:decide (8 < t)=true:=by simp;omega
  have g3:decide (16 < t)=true:=by simp;omega
  have g4:decide (32 < t)=true:=by simp;omega
  have g5:decide (64 < t)=false:=by simp;omega
  go_enter Tryz.func67,Tryz.ntmps67
  go_wp2
  refine wp_loop_rounds 5 ?_;rw [dI]
  go_wp2
  rw [dI]
  go_wp2
  rw [dI]
  go_wp2
  rw [dI]
  go_wp2
  rw [dI]
  go_wp2
  go_ret
  exact ⟨rfl,aB (Below.refl _ _) _⟩
def qi (r:Int):Int:=if r=0 then 0 else if r=1 then 4 else if r=2 then 12 else if r=3 then 28 else if r=4 then 60 else if r=5 then 124 else 252
theorem LR (r:Int) (w:World) (h0:0<=r) (h1:r<=6):Calls aw 66 #[aa ab r] w (qs (qi r) w):=by
 have h:r=0\/r=1\/r=2\/r=3\/r=4\/r=5\/r=6:=zO;clear h0 h1;rcases h with rfl | rfl | rfl | rfl | rfl | rfl | rfl <;> (go_enter Tryz.func66,Tryz.ntmps66;go_wp2;go_ret;exact ⟨rfl,rfl⟩)
theorem KE (f m e r i p:Int) (w:World) (hp:r * e=p) (h0:0<=r) (h1:r < m) (h2:0<=i) (h3:i < e) (hp0:0<=p) (eP:p<=1000000000) (A6:0<=f) (hf1:f<=1000000000) (hi:i<=1000000000):
  Calls aw 47 #[aa ab f,aa ab m,aa ab e,aa ab r,aa ab i] w (qs (f+p+i) w):=by
 have g0:decide (r < 0)=false:=by simp;omega
 have g1:decide (m<=r)=false:=by simp;omega
 have g2:decide (i < 0)=false:=by simp;omega
 have g3:decide (e<=i)=false:=by simp;omega
 go_enter Tryz.func47,Tryz.ntmps47
 go_wp2
 go_ret
 exact ⟨rfl,rfl⟩
theorem Iq (f m e r i:Int) (w:World) (h:¬ (0<=r/\r < m/\0<=i/\i < e)):
  Calls aw 47 #[aa ab f,aa ab m,aa ab e,aa ab r,aa ab i] w (qs (-1) w):=by
 cases g0:decide (r < 0) <;> cases g1:decide (m<=r) <;> cases g2:decide (i < 0) <;> cases g3:decide (e<=i)
 all_goals first
  | (exfalso;simp at g0 g1 g2 g3;omega)
  | (clear h;go_enter Tryz.func47,Tryz.ntmps47;go_wp2;go_ret;exact ⟨rfl,rfl⟩)
theorem IC (w:World) (re cs:Array Value) (t:bR):(w.alloc (ag re t)).setRow w.heap.size cs=w.alloc (ag cs t):=by
 have e:((w.alloc (ag re t)).setRow w.heap.size cs).heap=(w.alloc (ag cs t)).heap:=by
  apply Array.ext_getElem?;intro i
  by_cases h:i=w.heap.size
  ·subst h;rw [Cm _ _ re cs t (0,0) (heap_alloc_new w _),heap_alloc_new]
  ·rw [setRow_other _ _ _ _ h]
   by_cases h2:i < w.heap.size
   ·rw [heap_alloc_old (h:=h2),heap_alloc_old (h:=h2)]
   ·rw [Array.getElem?_eq_none zP,Array.getElem?_eq_none zP]
 show (⟨((w.alloc (ag re t)).setRow w.heap.size cs).heap,_,_,_,_⟩:World)=_;rw [e];rfl
theorem dJ {P:Cn} {ops:Array Oper} {rest:List Oper} {o:Oper} {a:Act} {w:World} {Q:Exit->Act->World->Prop} (hgd:o.guard=none) (ty:bR) (x y:Operand) (ho:o.op= .store ty x y)
  (hd:o.dst=none) (N:Nat) (w0:World) (re cells:Array Value) (hw:w=w0.alloc (ag re ty)) (hN:w0.heap.size=N) (hx:a.eval x=ae (some ⟨N,0,none⟩)) (hy:a.eval y= .agg cells)
  (hi:(P.info? ty).map (·.size)=some cells.size) (hold:re.size=cells.size) (h1:cells.all (·.oneCell')=true)
  (h:wpList P ops Q rest a (w0.alloc (ag cells ty))):wpList P ops Q (o :: rest) a w:=by
 subst hw hN;refine aK hgd ty x y ho hd w0.heap.size cells hx hy ty re (heap_alloc_new w0 _) hi hold h1 ?_;rw [IC];exact h
def CY (b:Int):Bool:=b==1||b==2||b==4||b==8||b==16||b==32||b==64
theorem OJ (b:Int) (h1:1<=b) (h2:b<=64):(bits BinOp.and IntKind.i64 b (wrap64 (b - 1))==0)=CY b:=by
 have H:∀ n:Fin 65,1<=n.val->(bits BinOp.and IntKind.i64 (n.val:Int) (wrap64 ((n.val:Int) - 1))==0)=CY (n.val:Int):=by decide+kernel
 obtain ⟨n,rfl⟩:=Int.eq_ofNat_of_zero_le (show 0<=b by omega)
 exact H ⟨n,zO⟩ zP
def Cf.CR (c:Cf):Nat->Prop
 | 0=>1<=c.aM/\c.aM<=8
 | 1=>1<=c.buckets/\c.buckets<=64
 | 2=>1<=c.slots/\c.slots<=8
 | 3=>1<=c.tasks/\c.tasks<=64
 | 4=>0<=c.cells/\c.cells<=16
 | 5=>0<=c.maps/\c.maps<=8
 | 6=>0<=c.stacks/\c.stacks<=8
 | 7=>0<=c.chans/\c.chans<=8
 | _=>True
def Cf.may (c:Cf):Prop:=(∀ j,j < 8->c.CR j)/\CY c.buckets=true
def BdRel (c:Cf) (w:World) (i:Value) (wr:World):Prop:=∃ k:Nat,k<=8/\i=aa ab k/\(∀ j,j < k->c.CR j)/\Below w.heap.size w wr/\Bk wr w.heap.size 32 (cfC c)
def iG (c:Cf) (w:World) (e:lb) (w':World):Prop:=∃ b:Bool,e=ai (.bool b)/\(b=true ↔ c.may)/\Below w.heap.size w w'
theorem iG.no {c:Cf} {w w':World} (j:Nat) (hj:j < 8) (h:¬ c.CR j) (hb:Below w.heap.size w w'):iG c w (ai (ah false)) w':=
 ⟨false,rfl,by simp;exact fun hm=>h (hm.1 j hj),hb⟩
theorem row_at0 (c:Cf) (X:Array Value) (hX:X=#[aa ab c.aM,aa ab 1,aa ab 8,aa ab c.buckets,aa ab 1,aa ab 64,aa ab c.slots,aa ab 1,aa ab 8,aa ab c.tasks,aa ab 1,aa ab 64,aa ab c.cells,aa ab 0,aa ab 16,aa ab c.maps,aa ab 0,aa ab 8,aa ab c.stacks,aa ab 0,aa ab 8,aa ab c.chans,aa ab 0,aa ab 8]) (w:World):(Instr.index 135 (.agg X) (aa ab 0)).run aw w= .ok (.agg #[aa ab c.aM,aa ab 1,aa ab 8]) w:=by subst hX;kernel_rfl
theorem row_at1 (c:Cf) (X:Array Value) (hX:X=#[aa ab c.aM,aa ab 1,aa ab 8,aa ab c.buckets,aa ab 1,aa ab 64,aa ab c.slots,aa ab 1,aa ab 8,aa ab c.tasks,aa ab 1,aa ab 64,aa ab c.cells,aa ab 0,aa ab 16,aa ab c.maps,aa ab 0,aa ab 8,aa ab c.stacks,aa ab 0,aa ab 8,aa ab c.chans,aa ab 0,aa ab 8]) (w:World):(Instr.index 135 (.agg X) (aa ab 1)).run aw w= .ok (.agg #[aa ab c.buckets,aa ab 1,aa ab 64]) w:=by subst hX;kernel_rfl
theorem row_at2 (c:Cf) (X:Array Value) (hX:X=#[aa ab c.aM,aa ab 1,aa ab 8,aa ab c.buckets,aa ab 1,aa ab 64,aa ab c.slots,aa ab 1,aa ab 8,aa ab c.tasks,aa ab 1,aa ab 64,aa ab c.cells,aa ab 0,aa ab 16,aa ab c.maps,aa ab 0,aa ab 8,aa ab c.stacks,aa ab 0,aa ab 8,aa ab c.chans,aa ab 0,aa ab 8]) (w:World):(Instr.index 135 (.agg X) (aa ab 2)).run aw w= .ok (.agg #[aa ab c.slots,aa ab 1,aa ab 8]) w:=by subst hX;kernel_rfl
theorem row_at3 (c:Cf) (X:Array Value) (hX:X=#[aa ab c.aM,aa ab 1,aa ab 8,aa ab c.buckets,aa ab 1,aa ab 64,aa ab c.slots,aa ab 1,aa ab 8,aa ab c.tasks,aa ab 1,aa ab 64,aa ab c.cells,aa ab 0,aa ab 16,aa ab c.maps,aa ab 0,aa ab 8,aa ab c.stacks,aa ab 0,aa ab 8,aa ab c.chans,aa ab 0,aa ab 8]) (w:World):(Instr.index 135 (.agg X) (aa ab 3)).run aw w= .ok (.agg #[aa ab c.tasks,aa ab 1,aa ab 64]) w:=by subst hX;kernel_rfl
theorem row_at4 (c:Cf) (X:Array Value) (hX:X=#[aa ab c.aM,aa ab 1,aa ab 8,aa ab c.buckets,aa ab 1,aa ab 64,aa ab c.slots,aa ab 1,aa ab 8,aa ab c.tasks,aa ab 1,aa ab 64,aa ab c.cells,aa ab 0,aa ab 16,aa ab c.maps,aa ab 0,aa ab 8,aa ab c.stacks,aa ab 0,aa ab 8,aa ab c.chans,aa ab 0,aa ab 8]) (w:World):(Instr.index 135 (.agg X) (aa ab 4)).run aw w= .ok (.agg #[aa ab c.cells,aa ab 0,aa ab 16]) w:=by subst hX;kernel_rfl
theorem row_at5 (c:Cf) (X:Array Value) (hX:X=#[aa ab c.aM,aa ab 1,aa ab 8,aa ab c.buckets,aa ab 1,aa ab 64,aa ab c.slots,aa ab 1,aa ab 8,aa ab c.tasks,aa ab 1,aa ab 64,aa ab c.cells,aa ab 0,aa ab 16,aa ab c.maps,aa ab 0,aa ab 8,aa ab c.stacks,aa ab 0,aa ab 8,aa ab c.chans,aa ab 0,aa ab 8]) (w:World):(Instr.index 135 (.agg X) (aa ab 5)).run aw w= .ok (.agg #[aa ab c.maps,aa ab 0,aa ab 8]) w:=by subst hX;kernel_rfl
theorem row_at6 (c:Cf) (X:Array Value) (hX:X=#[aa ab c.aM,aa ab 1,aa ab 8,aa ab c.buckets,aa ab 1,aa ab 64,aa ab c.slots,aa ab 1,aa ab 8,aa ab c.tasks,aa ab 1,aa ab 64,aa ab c.cells,aa ab 0,aa ab 16,aa ab c.maps,aa ab 0,aa ab 8,aa ab c.stacks,aa ab 0,aa ab 8,aa ab c.chans,aa ab 0,aa ab 8]) (w:World):(Instr.index 135 (.agg X) (aa ab 6)).run aw w= .ok (.agg #[aa ab c.stacks,aa ab 0,aa ab 8]) w:=by subst hX;kernel_rfl
theorem row_at7 (c:Cf) (X:Array Value) (hX:X=#[aa ab c.aM,aa ab 1,aa ab 8,aa ab c.buckets,aa ab 1,aa ab 64,aa ab c.slots,aa ab 1,aa ab 8,aa ab c.tasks,aa ab 1,aa ab 64,aa ab c.cells,aa ab 0,aa ab 16,aa ab c.maps,aa ab 0,aa ab 8,aa ab c.stacks,aa ab 0,aa ab 8,aa ab c.chans,aa ab 0,aa ab 8]) (w:World):(Instr.index 135 (.agg X) (aa ab 7)).run aw w= .ok (.agg #[aa ab c.chans,aa ab 0,aa ab 8]) w:=by subst hX;kernel_rfl
def BdRows (X:Array Value):Prop:=X.size=24/\X.all (·.oneCell')=true/\(Tryz.prog.info? 135).map (·.size)=some X.size
theorem bd_rows (c:Cf):∃ X:Array Value,X=#[aa ab c.aM,aa ab 1,aa ab 8,aa ab c.buckets,aa ab 1,aa ab 64,aa ab c.slots,aa ab 1,aa ab 8,aa ab c.tasks,aa ab 1,aa ab 64,aa ab c.cells,aa ab 0,aa ab 16,aa ab c.maps,aa ab 0,aa ab 8,aa ab c.stacks,aa ab 0,aa ab 8,aa ab c.chans,aa ab 0,aa ab 8]/\BdRows X:=⟨_,rfl,rfl,by simp [aD],zK⟩
theorem DX (c:Cf) (w:World):Calls aw 64 #[cfV c] w (iG c w):=by
 obtain ⟨X,hX,hX24,hX1,hXi⟩:=bd_rows c;have i0:=row_at0 c X hX;have i1:=row_at1 c X hX;have i2:=row_at2 c X hX;have i3:=row_at3 c X hX;have i4:=row_at4 c X hX;have i5:=row_at5 c X hX;have i6:=row_at6 c X hX;have i7:=row_at7 c X hX;have HX:=ar hX;have HS:=ar (au hX24 (au hX1 hXi));clear hX hX24 hX1 hXi;go_enter Tryz.func64,Tryz.ntmps64
 go_wp2_with (first
  | (refine wpList_buildTo rfl 135 _ rfl (some 30) rfl X ?hf ?_;case hf=>(rw [HX.out];kernel_rfl))
  | (refine dJ rfl 135 (.tmp 3) (.tmp 30) rfl rfl (w.heap.size+1) _ _ X rfl zS rfl rfl HS.out.2.2 (by rw [HS.out.1];rfl) HS.out.2.1 ?_)
  | (refine aL rfl 135 (.tmp 3) rfl (w.heap.size+1) rfl 135 X (0,0) (.array 8 134) (Bk.new _ zS _ _) Tryz.underlying135 rfl HS.out.2.2 ?_))
 go_loopw [5,32,33,34,35,36,37,38,39,40,41,42,43,44,45,46,47] (fun _ i _ _ _ _ _ _ _ _ _ _ _ _ _ _ _ wr=>BdRel c w i wr) (fun _ i _ _ _ _ _ _ _ _ _ _ _ _ _ _ _ _=>8 - (intOf i).toNat)
 case atStart=>
  exact ⟨0,zO,rfl,fun j hj=>absurd hj zO,aB (aB (Below.refl _ _) _) _,(Bk.made w _ _).alloc _⟩
 case round=>
  obtain ⟨k,hk,rfl,bG,hb,kb⟩:=hrel;have qL:k=0\/k=1\/k=2\/k=3\/k=4\/k=5\/k=6\/k=7\/k=8:=zO;rcases qL with rfl | rfl | rfl | rfl | rfl | rfl | rfl | rfl | rfl
  ·cases g1:decide (c.aM < 1)
   ·cases g2:decide (8 < c.aM)
    ·have HK:=ar bG;clear bG
     go_wp2
     go_roundw
     case rel=>
      refine ⟨0+1,zO,by go_num,fun j hj=>?_,aB hb _,kb.alloc _⟩
      by_cases Jd:j < 0
      ·exact HK.out j Jd
      ·obtain rfl:j=0:=zO;simp at g1 g2;exact ⟨g1,g2⟩
     case measure=>simp [intOf]
    ·have HK:=ar bG;clear bG
     go_wp2
     go_ret
     exact iG.no 0 zO (fun h=>by simp at g2;have:=h.2;omega) (aB hb _)
   ·have HK:=ar bG;clear bG
    go_wp2
    go_ret
    exact iG.no 0 zO (fun h=>by simp at g1;have:=h.1;omega) (aB hb _)
  ·cases g1:decide (c.buckets < 1)
   ·cases g2:decide (64 < c.buckets)
    ·have HK:=ar bG;clear bG
     go_wp2
     go_roundw
     case rel=>
      refine ⟨1+1,zO,by go_num,fun j hj=>?_,aB hb _,kb.alloc _⟩
      by_cases Jd:j < 1
      ·exact HK.out j Jd
      ·obtain rfl:j=1:=zO;simp at g1 g2;exact ⟨g1,g2⟩
     case measure=>simp [intOf]
    ·have HK:=ar bG;clear bG
     go_wp2
     go_ret
     exact iG.no 1 zO (fun h=>by simp at g2;have:=h.2;omega) (aB hb _)
   ·have HK:=ar bG;clear bG
    go_wp2
    go_ret
    exact iG.no 1 zO (fun h=>by simp at g1;have:=h.1;omega) (aB hb _)
  ·cases g1:decide (c.slots < 1)
   ·cases g2:decide (8 < c.slots)
    ·have HK:=ar bG;clear bG
     go_wp2
     go_roundw
     case rel=>
      refine ⟨2+1,zO,by go_num,fun j hj=>?_,aB hb _,kb.alloc _⟩
      by_cases Jd:j < 2
      ·exact HK.out j Jd
      ·obtain rfl:j=2:=zO;simp at g1 g2;exact ⟨g1,g2⟩
     case measure=>simp [intOf]
    ·have HK:=ar bG;clear bG
     go_wp2
     go_ret
     exact iG.no 2 zO (fun h=>by simp at g2;have:=h.2;omega) (aB hb _)
   ·have HK:=ar bG;clear bG
    go_wp2
    go_ret
    exact iG.no 2 zO (fun h=>by simp at g1;have:=h.1;omega) (aB hb _)
  ·cases g1:decide (c.tasks < 1)
   ·cases g2:decide (64 < c.tasks)
    ·have HK:=ar bG;clear bG
     go_wp2
     go_roundw
     case rel=>
      refine ⟨3+1,zO,by go_num,fun j hj=>?_,aB hb _,kb.alloc _⟩
      by_cases Jd:j < 3
      ·exact HK.out j Jd
      ·obtain rfl:j=3:=zO;simp at g1 g2;exact ⟨g1,g2⟩
     case measure=>simp [intOf]
    ·have HK:=ar bG;clear bG
     go_wp2
     go_ret
     exact iG.no 3 zO (fun h=>by simp at g2;have:=h.2;omega) (aB hb _)
   ·have HK:=ar bG;clear bG
    go_wp2
    go_ret
    exact iG.no 3 zO (fun h=>by simp at g1;have:=h.1;omega) (aB hb _)
  ·cases g1:decide (c.cells < 0)
   ·cases g2:decide (16 < c.cells)
    ·have HK:=ar bG;clear bG
     go_wp2
     go_roundw
     case rel=>
      refine ⟨4+1,zO,by go_num,fun j hj=>?_,aB hb _,kb.alloc _⟩
      by_cases Jd:j < 4
      ·exact HK.out j Jd
      ·obtain rfl:j=4:=zO;simp at g1 g2;exact ⟨g1,g2⟩
     case measure=>simp [intOf]
    ·have HK:=ar bG;clear bG
     go_wp2
     go_ret
     exact iG.no 4 zO (fun h=>by simp at g2;have:=h.2;omega) (aB hb _)
   ·have HK:=ar bG;clear bG
    go_wp2
    go_ret
    exact iG.no 4 zO (fun h=>by simp at g1;have:=h.1;omega) (aB hb _)
  ·cases g1:decide (c.maps < 0)
   ·cases g2:decide (8 < c.maps)
    ·have HK:=ar bG;clear bG
     go_wp2
     go_roundw
     case rel=>
      refine ⟨5+1,zO,by go_num,fun j hj=>?_,aB hb _,kb.alloc _⟩
      by_cases Jd:j < 5
      ·exact HK.out j Jd
      ·obtain rfl:j=5:=zO;simp at g1 g2;exact ⟨g1,g2⟩
     case measure=>simp [intOf]
    ·have HK:=ar bG;clear bG
     go_wp2
     go_ret
     exact iG.no 5 zO (fun h=>by simp at g2;have:=h.2;omega) (aB hb _)
   ·have HK:=ar bG;clear bG
    go_wp2
    go_ret
    exact iG.no 5 zO (fun h=>by simp at g1;have:=h.1;omega) (aB hb _)
  ·cases g1:decide (c.stacks < 0)
   ·cases g2:decide (8 < c.stacks)
    ·have HK:=ar bG;clear bG
     go_wp2
     go_roundw
     case rel=>
      refine ⟨6+1,zO,by go_num,fun j hj=>?_,aB hb _,kb.alloc _⟩
      by_cases Jd:j < 6
      ·exact HK.out j Jd
      ·obtain rfl:j=6:=zO;simp at g1 g2;exact ⟨g1,g2⟩
     case measure=>simp [intOf]
    ·have HK:=ar bG;clear bG
     go_wp2
     go_ret
     exact iG.no 6 zO (fun h=>by simp at g2;have:=h.2;omega) (aB hb _)
   ·have HK:=ar bG;clear bG
    go_wp2
    go_ret
    exact iG.no 6 zO (fun h=>by simp at g1;have:=h.1;omega) (aB hb _)
  ·cases g1:decide (c.chans < 0)
   ·cases g2:decide (8 < c.chans)
    ·have HK:=ar bG;clear bG
     go_wp2
     go_roundw
     case rel=>
      refine ⟨7+1,zO,by go_num,fun j hj=>?_,aB hb _,kb.alloc _⟩
      by_cases Jd:j < 7
      ·exact HK.out j Jd
      ·obtain rfl:j=7:=zO;simp at g1 g2;exact ⟨g1,g2⟩
     case measure=>simp [intOf]
    ·have HK:=ar bG;clear bG
     go_wp2
     go_ret
     exact iG.no 7 zO (fun h=>by simp at g2;have:=h.2;omega) (aB hb _)
   ·have HK:=ar bG;clear bG
    go_wp2
    go_ret
    exact iG.no 7 zO (fun h=>by simp at g1;have:=h.1;omega) (aB hb _)
  ·have HK:=ar bG;clear bG;have c0:=kb.cell 2;simp at c0
   go_wp2
   go_ret
   have qO:1<=c.buckets/\c.buckets<=64:=HK.out 1 zO;show iG c w (ai (ah (bits BinOp.and IntKind.i64 c.buckets (wrap64 (c.buckets - 1))==0))) wr;rw [OJ c.buckets qO.1 qO.2];exact ⟨_,rfl,⟨fun h=>⟨HK.out,h⟩,fun h=>h.2⟩,hb⟩
end Go.Proofs.YtikdaeddbkopeaaGreatR
