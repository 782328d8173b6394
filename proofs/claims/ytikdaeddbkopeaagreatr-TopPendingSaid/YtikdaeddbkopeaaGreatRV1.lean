/- A part of the proof. -/
import Derived.WalkKit
import Derived.Below
import Derived.Laws.Rows
import Derived.Lib.Hide
import Derived.ProofKit
import Derived.OpenShut
import Derived.Lib.SmallJoins
import Derived.Deep.Slices
import Derived.Deep.Fields
import Derived.Test.YtikdaeddbkopeaaGreatRRows
import Derived.WalkSpells
import Derived.WalkLawsBesides
import Derived.Deep.RegionHeld3
import Derived.Deep.DrawnRows
import Derived.Deep.AppendLies
import Derived.Maps.AppendAt
import Derived.Deep.DeepMust
import Derived.BigRegion
import Derived.RegionTactic
import Derived.BigQuiet
import Derived.Deep.QuietTactic
import Derived.Laws.MakeOwn
import Derived.Deep.RegionHeld
import Derived.OwnWalk
import Derived.Great.BuildSlice
import Derived.WideShapes
import Derived.IntWalk
import Derived.Outline
import Derived.Deep.RegionWith
import Derived.Deep.Cut
import Derived.Defers
import Derived.Recover
import Derived.Laws.EntriesVeiled
import Derived.Test.YtikdaeddbkopeaaGreatRProg
set_option linter.unusedVariables false
set_option linter.unusedSimpArgs false
set_option maxRecDepth 100000
set_option maxHeartbeats 16000000
open Go.Proofs.Tryz
open And renaming intro → al
open Array renaming getElem?_eq_some_iff → a9, getElem?_setIfInBounds_self_of_lt → bK
open Bool renaming false → X, true → O, and_eq_true → bN
open Classical renaming byContradiction → db
open Go renaming Calls → U, Value → I, World → W, Program → J4, run_loadVar_row → a7, wpList_store_rowTo → aI, wpList_load_row → aM, wp_at_zero → aQ, wp_at_succ → aR, bodyPost_ret → aS, TypeId → bM, loadVar → cL, rounds_succ → dB, wpList_append_own_at → dI, results → jE, Ending → jK, execOp → nO, maxLen → sV, Operand → vn
open Go.Ending renaming returned → ai
open Go.Instr renaming sureAddr → uS
open Go.IntKind renaming i64 → H, i64 → ab
open Go.IntWalk renaming i64_in → dh
open Go.Lib renaming hid → N, hid → aj
open Go.Obj renaming cells → ag
open Go.Proofs.Tryz renaming underlying34 → aK, prog → ao, underlying35 → lI
open Go.Region renaming ready → lJ, wanted → sZ
open Go.Result renaming andThen_ok → bC
open Go.RowKit renaming Below → D
open Go.RowKit.Below renaming heap_setCell → jL
open Go.Sem renaming run_bind → cD, run_pure → dF
open Go.Value renaming int → V, int → LD, oneCell' → aB, bool → ah, int → aa, pointer → ae, slice → af
open Go.WideShapes renaming add_plain → gZ
open Go.World renaming ownsRow_nil → bW
open Go.World.ownsRow renaming cellAt → ig
open Int renaming toNat_natCast → BA
open List renaming getElem?_eq_some_iff → aC, getElem?_eq_getElem → aD, mem_cons → aL, mem_of_getElem? → aU, setIfInBounds_toArray → ak, getElem_cons_zero → an, getElem_cons_succ → ar, getElem_toArray → au, set_cons_zero → ay, set_cons_succ → az, length_append → bE, mem_singleton → bH, all_eq_true → cJ, mem_cons_of_mem → cM, nodup_cons → cS, length_take → dg, range → eF, replicate → fV, mem_filter → jF, mem_range → lK, take_length → nP, take_add_one → qy, map_cons → s8
open Nat renaming le_trans → aF, zero_le → aN, lt_of_lt_of_le → aZ, le_refl → aq, zero_add → ea, le_succ → oU
open Option renaming none → Y, some → J
open Or renaming inl → jI
open True renaming intro → bd
namespace Go.Proofs.YtikdaeddbkopeaaGreatR
section
theorem M{p : Prop}(h : p := by omega): p := h
theorem Z{α : Sort _}{a : α}: a=a := rfl
theorem zK{p : Prop}(h : p := by kernel_rfl): p := h
theorem zO{p : Prop}(h : p := by omega): p := h
theorem zD{p : Prop}(h : p := by decide): p := h
theorem zS{p : Prop}(h : p := by simp): p := h
theorem zP{p : Prop}(h : p := by simp; omega): p := h
open Go.RowKit
theorem aA{a w:W}(h:D a.heap.size a w)(o:Obj):D a.heap.size a (w.alloc o):=h.alloc h.size o
theorem aE{a w w':W}(h:D a.heap.size a w)(h':D w.heap.size w w'):D a.heap.size a w':=h.trans (h'.mono h.size)
theorem bu{a w:W}(h:D a.heap.size a w){p:Addr}(hp:a.heap.size<=p.block)(u:I):D a.heap.size a (w.setCell p u):=h.setCell hp u
theorem cX{W w1:World}(hb:D W.heap.size W w1){b o:Nat}(h:b<W.heap.size):w1.cell? ⟨b,o,Y⟩=W.cell? ⟨b,o,Y⟩:=hb.cell (p:=⟨b,o,Y⟩) h
theorem ju{k:IntKind}{a b:Int}(h:a=b):Ending.returned (.int k a)= .returned (.int k b):=by rw[h]
theorem rV{a b:Bool}(h:a=b):Ending.returned (.bool a)= .returned (.bool b):=by rw[h]
def fI(b:Bool)(w:W)(e:jK)(w':W):Prop:=e= .returned (.bool b)/\D w.heap.size w w'
def Bk(w:W)(g:Nat)(t:bM)(cs:Array I):Prop:=w.heap[g]? =J (.cells cs t (0,0))
section
variable {w w':W} {g:Nat} {t:bM} {cs:Array I}
theorem Bk.lt(h:Bk w g t cs):g<w.heap.size:=by
 by_cases hg:g<w.heap.size
 ·exact hg
 ·have h0:w.heap[g]? =Y:=Array.getElem?_eq_none (Nat.le_of_not_lt hg);rw[Bk,h0]at h;cases h
theorem Bk.cell(h:Bk w g t cs)(i:Nat):w.cell? ⟨g,i,Y⟩=cs[i]?:=cell_of_row w g i cs t (0,0) h
theorem Bk.free(h:Bk w g t cs)(i:Nat):w.frozen? ⟨g,i,Y⟩=X:=by
 have h':w.heap[g]? =J (.cells cs t (0,0)):=h;simp[W.frozen?,h']
theorem Bk.made(w:W)(t:bM)(cs:Array I):Bk (w.alloc (.cells cs t)) w.heap.size t cs:=by
 show (w.heap.push _)[w.heap.size]? =_;simp
theorem Bk.new(w:W){g:Nat}(hg:w.heap.size=g)(t:bM)(cs:Array I):Bk (w.alloc (.cells cs t)) g t cs:=hg ▸ Bk.made w t cs
theorem Bk.drew(h:Bk w g t cs):Bk w.drew g t cs:=h
theorem Bk.alloc(h:Bk w g t cs)(o:Obj):Bk (w.alloc o) g t cs:=(D.heap_alloc w o g h.lt).trans h
theorem Bk.stored(h:Bk w g t cs)(i:Nat)(u:I):Bk (w.setCell ⟨g,i,Y⟩ u) g t (cs.setIfInBounds i u):=by
 have h':w.heap[g]? =J (.cells cs t (0,0)):=h;show (w.heap.modify g _)[g]? =_;simp[Array.getElem?_modify,h']
theorem Bk.other(h:Bk w g t cs){p:Addr}(hp:g≠p.block)(u:I):Bk (w.setCell p u) g t cs:=(jL w p u g hp).trans h
theorem Bk.below{B:Nat}(h:Bk w g t cs)(hb:D B w w')(hg:g<B):Bk w' g t cs:=(hb.block g hg).trans h
theorem Bk.aw(h:Bk w g t cs)(hb:D w.heap.size w w'):Bk w' g t cs:=h.below hb h.lt
end
def Sl(w:W)(B:Nat)(A:Option Addr)(n:Nat)(xs:List I):Prop:=
 xs.length=n/\(0<n->∃b o:Nat,A=J ⟨b,o,Y⟩/\b<B/\∀(j:Nat) (u:I),xs[j]? =J u->w.cell? ⟨b,o+j,Y⟩=J u)
section
variable {w w':W} {B B' n:Nat} {A:Option Addr} {xs:List I}
theorem Sl.nil(w:W)(B:Nat)(A:Option Addr):Sl w B A 0 []:=⟨Z,λh=>absurd h M⟩
theorem Sl.at_{k:Nat}(h:Sl w B A n xs)(hk:k<n):∃b o u,A=J ⟨b,o,Y⟩/\b<B/\xs[k]? =J u/\w.cell? ⟨b,o+k,Y⟩=J u:=by
 obtain⟨b,o,e,hb,hc⟩:=h.2 M;have hl:k<xs.length:=by rw[h.1];exact hk
 exact⟨b,o,xs[k],e,hb,aD hl,hc k _ (aD hl)⟩
theorem Sl.aw(h:Sl w B A n xs)(hk:∀p:Addr,p.block<B->w'.cell? p=w.cell? p):Sl w' B A n xs:=
 ⟨h.1,λhn=>by
  obtain⟨b,o,e,hb,hc⟩:=h.2 hn;exact⟨b,o,e,hb,λj u hu=>(hk ⟨b,o+j,Y⟩ hb).trans (hc j u hu)⟩⟩
theorem Sl.more(h:Sl w B A n xs)(hB:B<=B'):Sl w B' A n xs:=
 ⟨h.1,λhn=>by
  obtain⟨b,o,e,hb,hc⟩:=h.2 hn;exact⟨b,o,e,aZ hb hB,hc⟩⟩
theorem Sl.below(h:Sl w B A n xs)(hb:D B w w'):Sl w' B A n xs:=h.aw λ_ hp=>hb.cell hp
theorem Sl.drew(h:Sl w B A n xs):Sl w.drew B A n xs:=h
theorem Sl.alloc(h:Sl w B A n xs)(hB:B<=w.heap.size)(o:Obj):Sl (w.alloc o) B A n xs:=h.aw λp hp=>W.cell?_alloc_lt w o p M
theorem Sl.stored(h:Sl w B A n xs){p:Addr}(hB:B<=p.block)(u:I):Sl (w.setCell p u) B A n xs:=
 h.aw λq hq=>W.cell?_setCell_other w p q u (λe=>by subst e;omega)
end
end
section
open Go.ChangeShapes Go.WideShapes Go.ChangeAt Go.RowKit Go.Joins
theorem cell_lt{w:World}{a:Addr}{v:I}(h:w.cell? a=J v):a.block<w.heap.size:=by
 by_cases hg:a.block<w.heap.size
 ·exact hg
 ·have h0:w.heap[a.block]? =Y:=Array.getElem?_eq_none (Nat.le_of_not_lt hg);simp[World.cell?,h0]at h
def ints(zs:List Int):List I:=zs.map (LD .i64)
theorem uA(zs:List Int):(ints zs).length=zs.length:=by simp[ints]
section
variable {H:Type} {enc:bM × I->H} {P:J4} {W:World} {base:Nat} {v:I} {d:DataW H} {p:List MemPlace} {t e:bM}
end
end
section
open Go.ChangeShapes Go.WideShapes Go.ChangeAt Go.RowKit Go.Joins Go.Deep
section
variable {H:Type} {enc:bM × I->H} {P:J4} {W:World} {b0:Nat} {spare:Nat->Bool} {held:Bool}
theorem fld{t:bM}{fs:Array Field}{fuel:Nat}{cs:List I}{x:DataW H × List MemPlace}(hs:P.underlying t=J (.struct fs))(hone:oneCellFields P fs=O)(hC:P.cellsOf t=fs.size)(h:DataW.trod enc P W b0 spare held fuel t cs=J x)(i:Nat)(f:Field)(hf:fs[i]? =J f):∃v n y,cs[i]? =J v/\DataW.trod enc P W b0 spare held n f.type [v]=J y:=by
 obtain⟨xs,n,_,_,hl,hxl,hg⟩:=DataW.trod_struct hs h;obtain⟨ho,hk⟩:=hone_of hone i f hf;have hi:i<fs.size:=(a9.1 hf).1;have hic:i<cs.length:=by rw[hl,hC];exact hi
 have h1:=hg i f hf;have e:(cs.drop i).take 1=[cs[i]]:=by rw[List.drop_eq_getElem_cons hic];rfl
 rw[ho,hk,e]at h1;have hxi:i<xs.length:=M;rw[aD hxi]at h1;exact⟨cs[i],n,xs[i],aD hic,h1⟩
theorem vb{t:bM}{fs:Array Field}{fuel:Nat}{cs:List I}{x:DataW H × List MemPlace}{k:IntKind}(hs:P.underlying t=J (.struct fs))(hone:oneCellFields P fs=O)(hC:P.cellsOf t=fs.size)(h:DataW.trod enc P W b0 spare held fuel t cs=J x)(i:Nat)(f:Field)(hf:fs[i]? =J f)(hk:P.underlying f.type=J (.int k)):∃n,cs[i]? =J (.int k n)/\(Lit.int k n).wf=O:=by
 obtain⟨v,n,y,hv,hy⟩:=fld hs hone hC h i f hf;obtain⟨m,hm,_,hw⟩:=DataW.trod_int hk hy;simp at hm;subst hm;exact⟨m,hv,hw⟩
theorem o9{t e:bM}{fuel:Nat}{v:I}{x:DataW H × List MemPlace}(ht:P.underlying t=J (.slice e))(h:DataW.trod enc P W b0 spare held fuel t [v]=J x):∃A n c,v= .slice A n c:=by
 rcases open_slice ht h with⟨h0,_⟩|⟨a,len,cap,_,_,_,_,h0,_⟩
 ·simp at h0;exact⟨_,_,_,h0⟩
 ·simp at h0;exact⟨_,_,_,h0⟩
theorem ti{t e:bM}{fuel sz:Nat}{A:Option Addr}{n cap:Nat}{x:DataW H × List MemPlace}(ht:P.underlying t=J (.slice e))(rI:P.cellsOf e=sz)(hp:0<sz)(hf:DataW.trod enc P W b0 spare held fuel t [.slice A n cap]=J x):
  n<=sV/\(0<n->∃b o:Nat,A=J ⟨b,o,Y⟩/\b<W.heap.size/\∀k,k<n->∃(cs:List I) (m:Nat) (y:DataW H × List MemPlace),cs.length=sz/\(∀i,i<sz->W.cell? ⟨b,o+k*sz+i,Y⟩=cs[i]?)/\DataW.trod enc P W b0 spare held m e cs=J y):=by
 rcases open_slice ht hf with⟨h0,_⟩|⟨a,len,c,m,fl,D,Pl,h0,_,hl,hm,Jx,_,hel⟩
 ·simp at h0;obtain⟨rfl,rfl,rfl⟩:=h0;exact⟨by simp[sV],λh=>absurd h M⟩
 ·simp at h0;obtain⟨rfl,rfl,rfl⟩:=h0;refine⟨aF hl hm,λhn=>?_⟩;have hm':n<=m:=by rw[Jx];split<;>omega
  rw[rI]at hel;have hspot:a.spot=Y:=by
   obtain⟨cs,hc,_⟩:=hel 0 M;obtain⟨_,tR,BH⟩:=World.cells?_some hc;have h1:=BH 0 hp;rw[aD M]at h1
   simpa[Addr.add] using World.cell?_spot h1
  obtain⟨b,o,sp⟩:=a;simp only at hspot;subst hspot;refine⟨b,o,Z,?_,λk hk=>?_⟩
  ·obtain⟨cs,hc,_⟩:=hel 0 M;obtain⟨_,tR,BH⟩:=World.cells?_some hc;have h1:=BH 0 hp;rw[aD M]at h1;have:=cell_lt h1
   simpa[Addr.add] using this
  ·obtain⟨cs,hc,hr⟩:=hel k M;obtain⟨_,tR,BH⟩:=World.cells?_some hc;refine⟨cs,_,_,tR,λi hi=>?_,hr⟩;have:=BH i hi
   rwa [add_plain,add_plain]at this
end
end
section
open Go.ChangeShapes Go.WideShapes Go.ChangeAt Go.RowKit Go.Joins
section
variable {H:Type} {enc:bM × I->H} {P:J4} {W:World} {base:Nat} {v:I} {d:DataW H} {p:List MemPlace} {t e:bM}
theorem Bn{n:Nat}{k:IntKind}{fuel:Nat}{cs:List I}{x:DataW H × List MemPlace}(ht:P.underlying t=J (.array n e))(he:P.underlying e=J (.int k))(hc:P.cellsOf e=1)(hl:cs.length=n)(h:DataW.trod enc P W 0 (λ_=>O) O fuel t cs=J x)(i:Nat)(hi:i<n):∃z,cs[i]? =J (.int k z)/\(Lit.int k z).wf=O:=by
 obtain⟨xs,m,_,_,_,hx,hg⟩:=DataW.trod_array ht h;have h1:=hg i hi;rw[hc,Nat.mul_one,List.drop_eq_getElem_cons M,List.take_succ_cons,List.take_zero,aD M]at h1;obtain⟨z,hz,_,hw⟩:=DataW.trod_int he h1;simp at hz;exact⟨z,by rw[aD M,hz],hw⟩
end
end
section
open Go.RowKit
theorem nM{α:Sort _}(a:α):∃z,a=z:=⟨a,Z⟩
theorem bS{B:Nat}{w:W}:D B w w:=D.refl B w
theorem bR(w:W):D w.heap.size w w:=D.refl _ w
variable {w:W} {g:Nat} {t:bM} {cs:Array I}
theorem cE(k:Bk w g t cs):w.cell? ⟨g,0,Y⟩=cs[0]? /\w.cell? ⟨g,1,Y⟩=cs[1]? /\w.cell? ⟨g,2,Y⟩=cs[2]?:=⟨k.cell 0,k.cell 1,k.cell 2⟩
theorem fE(k:Bk w g t cs):w.frozen? ⟨g,0,Y⟩=X/\w.frozen? ⟨g,1,Y⟩=X/\w.frozen? ⟨g,2,Y⟩=X:=⟨k.free 0,k.free 1,k.free 2⟩
theorem cN(k:Bk w g t cs):w.cell? ⟨g,0,Y⟩=cs[0]? /\w.cell? ⟨g,1,Y⟩=cs[1]? /\w.cell? ⟨g,2,Y⟩=cs[2]? /\w.cell? ⟨g,3,Y⟩=cs[3]? /\w.cell? ⟨g,4,Y⟩=cs[4]? /\w.cell? ⟨g,5,Y⟩=cs[5]? /\w.cell? ⟨g,6,Y⟩=cs[6]? /\w.cell? ⟨g,7,Y⟩=cs[7]? /\w.cell? ⟨g,8,Y⟩=cs[8]?:=⟨k.cell 0,k.cell 1,k.cell 2,k.cell 3,k.cell 4,k.cell 5,k.cell 6,k.cell 7,k.cell 8⟩
end
section
open Go.RowKit
structure Acc where
 kind:Int
 cell:Int
 rl:Int
 new:Int
def Acc.right(a:Acc):Bool:=
 decide (0<=a.cell)&&((a.kind==1&&a.new==0&&a.rl==0)||((a.kind==2||a.kind==4||a.kind==5)&&a.rl==0)||a.kind==3)
def Acc.err(a:Acc)(n:Nat):Int:=if a.right=O then(if a.cell<n then 0 else 12)else 1
def Acc.next(a:Acc)(had:Int):Int:=
 if a.kind=1 then had else if a.kind=3 then(if had=a.rl then a.new else had)else if a.kind=4 then wrap64 (had+a.new)else a.new
def Acc.ok(a:Acc)(had:Int):Bool:=!(a.kind==3&&had != a.rl)
def Acc.had(a:Acc)(zs:List Int):Int:=zs.getD a.cell.toNat 0
def Acc.make(a:Acc)(zs:List Int):List Int:=zs.set a.cell.toNat (a.next (a.had zs))
theorem Acc.vU{a:Acc}(h:a.right=O):0<=a.cell:=by
 simp[Acc.right]at h;exact h.1
theorem Acc.Oo{a:Acc}{n:Nat}(h:a.err n=0):a.right=O/\0<=a.cell/\a.cell<n:=by
 unfold Acc.err at h;split at h
 ·rename_i b;split at h
  ·exact⟨b,Acc.vU b,by assumption⟩
  omega
 omega
theorem Acc.kC(a:Acc)(zs:List Int):(a.make zs).length=zs.length:=by simp[Acc.make]
abbrev OQ(a:Acc):I:=.agg #[V H a.kind,V H a.cell,V H a.rl,V H a.new]
abbrev pd(val:Int)(ok:Bool):I:=.agg #[V H val,.bool ok]
abbrev pj(A:Option Addr)(n c:Nat):I:=.agg #[.slice A n c]
end
section
open Go.RowKit
attribute [local go_sem ↓] aQ aR
theorem tx(a:Acc)(w:W):U ao 74 #[OQ a] w (fI a.right w):=by
 obtain⟨k,c,d,new⟩:=a;have b:=aA (bR w);by_cases e:c<0
 ·go_enter func74,ntmps74;go_wp2;go_ret;exact⟨rV (by simp[Acc.right];omega),b _⟩
 go_enter func74,ntmps74;go_wp2;all_goals
  go_ret;refine⟨rV ?_,b _⟩
  simp_all [Acc.right]
theorem tU(n:Nat)(a:Acc)(w:W):U ao 48 #[V H n,OQ a] w λe w'=>e=ai (V H (a.err n))/\D w.heap.size w w':=by
 have f:=aA (bR w) (ag #[V H a.kind,V H a.cell,V H a.rl,V H a.new] 67);cases d:a.right
 ·go_enter func48,ntmps48;go_wp2_with (go_at_call 74;refine(tx a _).mono ?_;rintro e h ⟨rfl,c⟩);go_ret;exact⟨ju (by simp[Acc.err,d]),aE f c⟩
 by_cases i:a.cell<n
 ·go_enter func48,ntmps48;go_wp2_with (go_at_call 74;refine(tx a _).mono ?_;rintro e h ⟨rfl,c⟩;have g:=cX (b:=w.heap.size) (o:=1) c zS;simp at g);go_ret;exact⟨ju (by simp[Acc.err,d,i]),aE f c⟩
 go_enter func48,ntmps48;go_wp2_with (go_at_call 74;refine(tx a _).mono ?_;rintro e h ⟨rfl,c⟩;have g:=cX (b:=w.heap.size) (o:=1) c zS;simp at g);go_ret;exact⟨ju (by simp[Acc.err,d,i]),aE f c⟩
variable {a w:W} {base cap g:Nat} {zs:List Int}
theorem iM:(Tryz.prog.info? 3).map (λi=>(i.zero,i.size,i.bytes))=J (J (V H 0),1,8):=zK
theorem CE(zs:List Int):∀u∈ints zs,u.oneCell'=O:=by
 intro u hu;simp only[ints,List.mem_map]at hu;obtain⟨z,_,rfl⟩:=hu;rfl
def aX(w:W)(base:Nat)(v:I)(zs:List Int):Prop:=w.ownsRow base 3 1 v zs.length (ints zs)
def O4(zs:List Int)(w:W)(e:jK)(a:W):Prop:=∃v,e= .returned v/\aX a w.heap.size v zs/\D w.heap.size w a
theorem tZ(A:Option Addr)(c:Nat)(zs:List Int)(w:W)(h:Sl w w.heap.size A zs.length (ints zs))(hm:zs.length<=1000000):
  U ao 49 #[.slice A zs.length c] w (O4 zs w):=by
 have hq:=λ(d:W)=>Lib.run_eql_slice_nil (P:=ao) d 35 3 A zs.length c 0 0 lI;obtain⟨i0,yx,sf,tP,sW⟩:=info_parts iM;cases A with
 | none=>
  have h0:zs=[]:=by
   rcases zs with _|⟨z,zs⟩
   ·rfl
   obtain⟨_,_,he,_⟩:=h.2 zS;cases he
  subst h0;have hq0:=λ(d:W)=>Lib.run_eql_slice_nil (P:=ao) d 35 3 Y 0 c 0 0 lI;go_enter func49,ntmps49;go_wp2;go_ret;exact⟨_,Z,bW _ _ _ _,D.refl _ _⟩
 | some ad=>
  have hown0:(w.alloc (ag #[] 3)).ownsRow w.heap.size 3 1 (af (J ⟨w.heap.size,0,Y⟩) 0 0) 0 []:=
   ⟨Z,.inr ⟨w.heap.size,0,#[],Z,aq _,Bk.made w 3 #[],aq _,by simp[sV],Z,Z⟩⟩
  have hnews:∀j u,(ints zs)[j]? =J u->(w.alloc (ag #[] 3)).cell? (ad.add j)=J u:=by
   intro j u hu;have hj:j<zs.length:=by
    have:=(aC.1 hu).1
    rwa [uA]at this
   obtain⟨b,o,he,hb,hc⟩:=(h.alloc (aq _) (ag #[] 3)).2 M;injection he with he;subst he;rw[gZ];exact hc j u hu
  go_enter func49,ntmps49;go_wp2_with (at_builtin;refine dI _ Z (.tmp 5) (.tmp 6) _ Z w.heap.size 3 i0 _ 1 8 lI yx sf tP sW Z M (af (J ⟨w.heap.size,0,Y⟩) 0 0) 0 [] Z hown0 ad zs.length c (ints zs) Z (by simp[ints]) hnews (CE zs) (by simp only[sV];omega) M zS ?_;intro v' w' lH fT _ BH);go_ret;refine⟨v',Z,?_,(aA bS _).grown fT zS ?_⟩
  ·simpa[aX] using lH
  intro k hk;simp[I.ownBlock]at hk;omega
theorem aX.alloc{v:I}(h:aX w base v zs)(o:Obj):aX (w.alloc o) base v zs:=W.ownsRow.alloc h o
theorem ints_set(zs:List Int)(i:Nat)(x:Int):(ints zs).set i (V H x)=ints (zs.set i x):=by simp[ints,List.map_set]
theorem aX.at_(h:aX w base (af (J ⟨g,0,Y⟩) zs.length cap) zs){i:Nat}(hi:i<zs.length):
  w.cell? ⟨g,i,Y⟩=J (V H (zs.getD i 0)):=by
 rw[ig h i M];simp[ints,hi]
theorem aX.stored(h:aX w base (af (J ⟨g,0,Y⟩) zs.length cap) zs)(i:Nat)(x:Int):
  aX (w.setCell ⟨g,i,Y⟩ (V H x)) base (af (J ⟨g,0,Y⟩) zs.length cap) (zs.set i x):=by
 have:=(W.ownsRow.stored h i (V H x)).1;rw[ints_set]at this;unfold aX
 rwa [List.length_set]
def OR(a:Acc)(base g cap:Nat)(zs:List Int)(w:W)(e:jK)(b:W):Prop:=
 e=ai (pd (a.had zs) (a.ok (a.had zs)))/\aX b base (af (J ⟨g,0,Y⟩) zs.length cap) (a.make zs)/\w.grownBy b (J g)
theorem gW{row:Option Nat}(h:w.grownBy a row)(o:Obj):w.grownBy (a.alloc o) row:=
 ⟨h.os,h.tape,h.output,aF h.size zS,λi hi b=>(D.heap_alloc a o i (aZ hi h.size)).trans (h.block i hi b)⟩
theorem p8(h:w.grownBy a (J g))(i:Nat)(u:I):w.grownBy (a.setCell ⟨g,i,Y⟩ u) (J g):=
 ⟨h.os,h.tape,h.output,by simpa[W.setCell] using h.size,λk c b=>(jL a _ u k (by rintro rfl;exact b rfl)).trans (h.block k c b)⟩
theorem lM{a:Acc}{w':W}{had x:Int}{ok:Bool}(c:a.had zs=had)(d:a.ok had=ok)(e:a.next had=x)(b:w.grownBy w' (J g))(h:aX w' base (af (J ⟨g,0,Y⟩) zs.length cap) (zs.set a.cell.toNat x)):OR a base g cap zs w (ai (pd had ok)) w':=by
 subst c;refine⟨by rw[d],?_,b⟩;unfold Acc.make;rw[e];exact h
theorem BU(a:Acc)(base g cap:Nat)(zs:List Int)(w:W)(h:aX w base (af (J ⟨g,0,Y⟩) zs.length cap) zs)(f:a.right=O)(m:a.cell<zs.length)(s:g<w.heap.size):
  U ao 50 #[af (J ⟨g,0,Y⟩) zs.length cap,OQ a] w (OR a base g cap zs w):=by
 obtain⟨k,cl,rl,new⟩:=a;have l:0<=cl:=Acc.vU f;obtain⟨i,rfl⟩:=Int.eq_ofNat_of_zero_le l;have hi:i<zs.length:=by simpa using m
 have u:=h.at_ hi;have t:=W.ownsRow.frozenAt h i;have q:k=1\/k=2\/k=3\/k=4\/k=5:=by simp[Acc.right]at f;omega
 generalize n:zs.getD i 0=had at *;have j:=N n;have c:=N h;have b:∀ {k:Int},({ kind:=k,cell:=(i:Int),rl:=rl,new:=new }:Acc).had zs=had:=by
  intro k;show zs.getD ((i:Int).toNat) 0=had;rw[BA];exact j.out
 have e:=N (show zs.set i had=zs by rw[<- j.out];simp[aD hi]);rcases q with rfl|rfl|rfl|rfl|rfl
 ·go_enter func50,ntmps50;go_wp2;refine aS (v:=pd had O) (by simp[jE,results50,go_sem]) Z ?_;have d:=e.out;refine lM b (by simp[Acc.ok]) (x:=had) (by simp[Acc.next]) (gW (gW (W.grownBy.refl _ _) _) _) ?_;simp only[BA];rw[d];exact(c.out.alloc _).alloc _
 ·go_enter func50,ntmps50;go_wp2;refine aS (v:=pd had O) (by simp[jE,results50,go_sem]) Z ?_;refine lM b (by simp[Acc.ok]) (x:=new) (by simp[Acc.next]) (gW (gW (p8 (W.grownBy.refl _ _) _ _) _) _) ?_;simp only[BA];exact(((c.out).stored i _).alloc _).alloc _
 ·by_cases ho:had=rl
  ·subst ho;have o:(had != had)=X:=zS;go_enter func50,ntmps50;go_wp2;refine aS (v:=pd had O) (by simp[jE,results50,go_sem]) Z ?_;refine lM b (by simp[Acc.ok]) (x:=new) (by simp[Acc.next]) (gW (gW (p8 (W.grownBy.refl _ _) _ _) _) _) ?_;simp only[BA];exact(((c.out).stored i _).alloc _).alloc _
  have o:(had != rl)=O:=by simpa using ho
  have d:=e.out;go_enter func50,ntmps50;go_wp2;refine aS (v:=pd had X) (by simp[jE,results50,go_sem]) Z ?_;refine lM b (by simp[Acc.ok,ho]) (x:=had) (by simp[Acc.next,ho]) (gW (gW (W.grownBy.refl _ _) _) _) ?_;simp only[BA];rw[d];exact(c.out.alloc _).alloc _
 ·go_enter func50,ntmps50;go_wp2;refine aS (v:=pd had O) (by simp[jE,results50,go_sem]) Z ?_;refine lM b (by simp[Acc.ok]) (x:=wrap64 (had+new)) (by simp[Acc.next]) (gW (gW (p8 (W.grownBy.refl _ _) _ _) _) _) ?_;simp only[BA];exact(((c.out).stored i _).alloc _).alloc _
 go_enter func50,ntmps50;go_wp2;refine aS (v:=pd had O) (by simp[jE,results50,go_sem]) Z ?_;refine lM b (by simp[Acc.ok]) (x:=new) (by simp[Acc.next]) (gW (gW (p8 (W.grownBy.refl _ _) _ _) _) _) ?_;simp only[BA];exact(((c.out).stored i _).alloc _).alloc _
end
section
open Go.RowKit
attribute [local go_sem ↓] aQ aR
variable {w:W} {zs:List Int} {base g:Nat} {v:I}
theorem Bk.grown{a:W}{t:bM}{cs:Array I}{row:Option Nat}(h:Bk w g t cs)(c:w.grownBy a row)(b:J g≠row):Bk a g t cs:=(c.block g h.lt b).trans h
def DidOk(a:Acc)(zs:List Int)(w:W)(e:jK)(b:W):Prop:=
 ∃g c,e=ai (.tuple #[pj (J ⟨g,0,Y⟩) zs.length c,pd (a.had zs) (a.ok (a.had zs)),V H 0])/\aX b w.heap.size (af (J ⟨g,0,Y⟩) zs.length c) (a.make zs)/\D w.heap.size w b
theorem MQ{B a:Nat}(h:aX w B v zs)(e:a<=B):aX w a v zs:=by
 rcases h.2 with b|⟨g,i,c,f,j,d⟩
 ·exact⟨h.1,.inl b⟩
 exact⟨h.1,.inr ⟨g,i,c,f,aF e j,d⟩⟩
theorem aX.far{n cap:Nat}(h:aX w base (af (J ⟨g,0,Y⟩) n cap) zs){p:Addr}(b:p.block≠g)(u:I):aX (w.setCell p u) base (af (J ⟨g,0,Y⟩) n cap) zs:=
 W.ownsRow.kept (row:=J p.block) h ⟨Z,Z,Z,zS,λk _ a=>jL w p u k (λe=>a (by rw[e]))⟩ (.inr (by simp[I.ownBlock];omega))
theorem MR(h:aX w base v zs):aX w.drew base v zs:=h
theorem do_ok(A:Option Addr)(c:Nat)(zs:List Int)(a:Acc)(w:W)(h:Sl w w.heap.size A zs.length (ints zs))(N:zs.length<=1000000)(o:a.err zs.length=0):
  U ao 23 #[pj A zs.length c,OQ a] w (DidOk a zs w):=by
 obtain⟨O,CU,S⟩:=Acc.Oo o;have P:0<zs.length:=zO;go_enter func23,ntmps23;go_wp2_with fail;refine(tU zs.length a _).mono ?_;rintro e w1 ⟨rfl,i⟩;have l:=aE (aA (aA (aA (aA (bR w) _) _) _) _) i;have J:=((((Bk.made w 37 #[.slice A zs.length c]).alloc _).alloc _).alloc _).aw i;have f:=(((Bk.new (w.alloc (ag #[.slice A zs.length c] 37)) (g:=w.heap.size+1) zS 67 #[aa H a.kind,aa H a.cell,aa H a.rl,aa H a.new]).alloc _).alloc _).aw i;have d:=((Bk.new ((w.alloc (ag #[.slice A zs.length c] 37)).alloc (ag #[aa H a.kind,aa H a.cell,aa H a.rl,aa H a.new] 67)) (g:=w.heap.size+1+1) zS 37 #[af Y 0 0]).alloc _).aw i;have b:=((Bk.new (((w.alloc (ag #[.slice A zs.length c] 37)).alloc (ag #[aa H a.kind,aa H a.cell,aa H a.rl,aa H a.new] 67)).alloc (ag #[af Y 0 0] 37)) (g:=w.heap.size+1+1+1) zS 75 #[aa H 0,ah X])).aw i;have qd:=b.lt;have D:=J.cell 0;simp at D;have HE:=aj o;rw[o];go_wp2_with fail;refine(tZ A c zs _ ((h.below l).more l.size) N).mono ?_;rintro e w2 ⟨v,rfl,y,j⟩;obtain⟨g,n,rfl,qe,x⟩:=W.ownsRow.form y P;have s:=aE l j;replace f:=f.aw j;replace d:=d.aw j;replace b:=b.aw j;have Q:=f.cell 0;have F:=f.cell 1;have G:=f.cell 2;have B:=f.cell 3;simp at Q F G B;have qf:w.heap.size+1+1+1<g:=zO;go_wp2_with fail;refine(BU a _ g n zs _ y O S x).mono ?_;rintro e w3 ⟨rfl,L,m⟩;have M:Below w.heap.size w w3:=s.grown m s.size (λk I=>by injection I;omega);replace d:=d.grown m (λe=>by injection e;omega);replace b:=b.grown m (λe=>by injection e;omega);have C:=b.lt;have z:=d.lt;have qc:g<w3.heap.size:=aZ x m.size;have u:=d.cell 0;have V:=d.free 0;have t:=b.cell 0;have q:=b.cell 1;have T:=b.free 0;have qg:=b.free 1;simp at u t q;have K:=l.size;generalize qa:a.had zs=had at *;have qb:=aj qa;go_wp2_with fail
 go_region
 go_wp2;have E:=qb.out;subst E;refine aS (v:=.tuple #[pj (some ⟨g,0,Y⟩) zs.length n,pd (a.had zs) (a.ok (a.had zs)),aa H 0]) (by simp[jE,results23,go_sem,u,t,q,z,C]) Z ⟨g,n,Z,?_,?_⟩
 ·refine MQ ?_ (aF K (aq _));exact MR ((((L.far (p:=⟨_,_,Y⟩) zP _).far (p:=⟨_,_,Y⟩) zP _).far (p:=⟨_,_,Y⟩) zP _).alloc _)
 exact(aA (bu (bu (bu M zP _) zP _) zP _) _).drew
end
section
open Go.RowKit
attribute [local go_sem ↓] aQ aR
variable {a base cap sz:Nat} {v:I} {e:bM} {xs:List I} {p:Addr}
theorem Kd{w:W}{g n:Nat}{zs:List Int}(h:aX w base (af (J ⟨g,0,Y⟩) n cap) zs)(e:zs.length=n):Sl w w.heap.size (J ⟨g,0,Y⟩) n (ints zs):=by
 subst e;refine⟨by simp[ints],λd=>⟨g,0,Z,?_,λj u b=>?_⟩⟩
 ·obtain⟨l,i,a,_,f⟩:=W.ownsRow.form h d;injection a with a;injection a with a;injection a with a;omega
 have k:j<zs.length:=by
  have:=(aC.1 b).1
  rwa [uA]at this
 rw[ea,ig h j M];exact b
theorem bJ{w:W}{n:Nat}{a:List I}(h:w.ownsRow base e sz v n a):∃G cap,v= .slice G n cap:=by
 rcases h.2 with⟨rfl,rfl⟩|⟨g,cap,b,rfl,_⟩
 ·exact⟨Y,0,Z⟩
 exact⟨_,cap,Z⟩
theorem Cn{w:W}{n:Nat}(h:w.ownsRow base e sz v n xs)(a:p.block<base)(u:I):(w.setCell p u).ownsRow base e sz v n xs:=
 ownsRow_setCell_below h a u
theorem zi{w:W}{B n:Nat}(h:w.ownsRow B e sz v n xs)(i:a<=B):w.ownsRow a e sz v n xs:=by
 rcases h.2 with b|⟨g,k,d,j,l,f⟩
 ·exact⟨h.1,.inl b⟩
 exact⟨h.1,.inr ⟨g,k,d,j,aF i l,f⟩⟩
theorem j7{w w':W}{n:Nat}(h:w.ownsRow base e sz v n xs)(a:D w.heap.size w w'):w'.ownsRow base e sz v n xs:=
 W.ownsRow.kept (row:=Y) h ⟨a.os,a.tape,a.output,a.size,λk b _=>a.block k b⟩ (by cases d:v.ownBlock<;>simp)
theorem MP{w:W}{n:Nat}{G:Option Addr}{zs:List Int}(h:aX w base (.slice G n cap) zs)(d:zs.length=n):Sl w w.heap.size G n (ints zs):=by
 subst d;rcases h.2 with⟨a,e⟩|⟨g,f,i,a,_⟩
 ·have:zs=[]:=List.eq_nil_of_length_eq_zero e;subst this;exact Sl.nil _ _ _
 injection a with a _ b;subst a b;exact Kd h Z
def my(w:W)(B:Nat)(X:Option Addr)(n c:Nat)(zs:List Int):Prop:=zs.length=n/\(Sl w B X n (ints zs)\/aX w B (.slice X n c) zs)
section
variable {w w':W} {B n c:Nat} {X:Option Addr} {zs:List Int}
theorem my.sl(h:my w B X n c zs)(b:B<=w.heap.size):Sl w w.heap.size X n (ints zs):=by
 rcases h.2 with a|a
 ·exact a.more b
 exact MP a h.1
theorem my.aw(h:my w B X n c zs)(d:B<=w.heap.size)(b:D w.heap.size w w'):my w' B X n c zs:=by
 refine⟨h.1,?_⟩;rcases h.2 with a|a
 ·exact .inl (a.below (b.mono d))
 exact .inr (j7 a b)
theorem my.M0(h:aX w a (.slice X n c) zs)(d:zs.length=n)(b:B<=a):my w B X n c zs:=⟨d,.inr (zi h b)⟩
end
theorem aX.uZ{w:W}{zs:List Int}(h:aX w base v zs)(a:p.block<base)(u:I):aX (w.setCell p u) base v zs:=ownsRow_setCell_below h a u
theorem Sl.keepb{w w':W}{A:Option Addr}{n:Nat}(h:Sl w w.heap.size A n xs)(a:D w.heap.size w w'):Sl w' w'.heap.size A n xs:=(h.below a).more a.size
end
section
open Go.RowKit
attribute [local go_sem ↓] aQ aR
variable {e t:bM} {sz:Nat} {w:W}
theorem KB(N:Nat):madeCells #[LD .i64 0] N=(ints (fV N 0)).toArray:=by
 apply Array.ext
 ·simp[madeCells,ints]
 intro i a b;simp[madeCells,Nat.mod_one,ints]
theorem nV{z:I}{a:Nat}(l:Tryz.prog.underlying t=J (.slice e))(k:(Tryz.prog.info? e).map (λi=>(i.zero,i.size,i.bytes))=J (J z,sz,a))(w:W)(N:Nat)(h:N<=1000000)(j:a<=10000):
  (Instr.makeSlice t (V H N) (V H N)).run ao w= .ok (af (J ⟨w.heap.size,0,Y⟩) N N) (w.alloc (ag (madeCells z.cells (N*sz)) e)):=by
 obtain⟨i,hi,d,g,f⟩:=info_parts k;have m:a*N<=10000*1000000:=Nat.mul_le_mul j h;have c:(i.bytes:Int)*N<=281474976710656:=by
  rw[f];have:((a*N:Nat):Int)<=10000000000:=M;rw[Int.natCast_mul]at this;omega
 have b:=run_make (P:=ao) w t e i _ l hi d .i64 .i64 N N M M c M;rw[g,BA]at b;exact b
theorem oL{b:Array Oper}{rest:List Oper}{o:Oper}{a:Act}{Q:Exit->Act->W->Prop}(d:o.guard=Y)(x y:vn)(ho:o.op= .makeSlice t x y)(N:Nat)(c:Array I)(f:a.eval x=V H N)(i:a.eval y=V H N)(g:(Instr.makeSlice t (V H N) (V H N)).run ao w= .ok (af (J ⟨w.heap.size,0,Y⟩) N N) (w.alloc (ag c e)))(h:wpList ao b Q rest (a.put o.dst (af (J ⟨w.heap.size,0,Y⟩) N N)) (w.alloc (ag c e))):wpList ao b Q (o :: rest) a w:=
 wpList_plain d λ_ j=>by
  unfold Oper.wp nO;simp only[ho,f,i,cD,g,bC];exact j _ _ h
theorem yi(w:W)(N:Nat)(h:N<=1000000):
  (Instr.makeSlice 35 (V H N) (V H N)).run ao w= .ok (af (J ⟨w.heap.size,0,Y⟩) N N) (w.alloc (ag (ints (fV N 0)).toArray 3)):=by
 rw[nV lI iM w N h M,Nat.mul_one];show Result.ok _ (w.alloc (ag (madeCells #[LD .i64 0] N) 3))=_;rw[KB]
theorem own_row{g:Nat}{n:Nat}{a:Array I}{base:Nat}(k:Bk w g e a)(b:a.size=n*sz)(c:base<=g)(d:n<=sV):w.ownsRow base e sz (af (J ⟨g,0,Y⟩) n n) n a.toList:=
 ⟨by simp[b],.inr ⟨g,n,a,Z,c,k,aq _,d,b,by rw[List.take_of_length_le (by simp[b])]⟩⟩
def NewMem(n:Nat)(w:W)(e:jK)(a:W):Prop:=
 ∃g,e=ai (pj (J ⟨g,0,Y⟩) n n)/\aX a w.heap.size (af (J ⟨g,0,Y⟩) n n) (fV n 0)/\D w.heap.size w a
theorem new_any(n:Nat)(w:W)(a:n<=1000000):U ao 43 #[V H n] w (NewMem n w):=by
 go_enter func43,ntmps43;go_wp2_with (refine oL Z _ _ Z n _ Z Z (yi _ n a) ?_);refine aS (v:=pj (J ⟨w.heap.size+1,0,Y⟩) n n) (by simp[jE,results43,go_sem]) Z ⟨_,Z,?_,aA (aA bS _) _⟩;have:=own_row (base:=w.heap.size) (n:=n) (sz:=1) (Bk.new (w.alloc (ag #[af (J ⟨w.heap.size+1,0,Y⟩) n n] 37)) (g:=w.heap.size+1) zS 3 (ints (fV n 0)).toArray) (by simp[ints]) M (by simp only[sV];omega)
 simpa[aX] using this
end
section
open Go.RowKit
variable {w:W} {a:Act} {B fuel i n:Nat} {o oi:Oper} {v:I} {K:Act->W->Prop} {c d:Array Bool} {U:Option Addr}
section
variable {P:J4} {ops:Array Oper} {Q:Exit->Act->W->Prop} {md:Region.Mode} {S:W->Prop} {E:Nat->Bool}
def dV(P:J4)(md:Region.Mode)(ops:Array Oper)(Q:Exit->Act->W->Prop)(S:W->Prop)(E:Nat->Bool):Nat->Array Bool->Act->W->Prop
 | 0,b,a,w=>lJ md ops b=[]/\Q .normal a w
 | fuel+1,b,a,w=>
  (lJ md ops b=[]->Q .normal a w)/\
  ∀i∈lJ md ops b,wpOp P ops Q i (λd c=>(E i=X->S w->S c)/\dV P md ops Q S E fuel (b.setIfInBounds i O) d c) a w
theorem vp:∀(fuel:Nat) (b:Array Bool) (a:Act) (w:W),dV P md ops Q S E fuel b a w->wpAny P md ops Q fuel b a w
 | 0,_,_,_,h=>h
 | fuel+1,_,_,_,h=>⟨h.1,λi hi=>wpOp_mono (λd c f=>vp fuel _ d c f.2) (h.2 i hi)⟩
def Hh(md:Region.Mode)(ops:Array Oper)(E:Nat->Bool)(i:Nat):Bool:=
 (eF ops.size).all λj=>!E j||j==i||((ops[j]?).map λo=>o.after.any λe=>Region.binds md e&&e.on==i).getD O
theorem BO(h:Hh md ops E i=O):∀j a,ops[j]? =J a->E j=O->j≠i->∃e∈a.after,Region.binds md e=O/\e.on=i:=by
 intro j a d hE g;have f:j<ops.size:=(a9.1 d).1;have c:=cJ.1 h j (lK.2 f);rw[d,hE]at c;have l:(j==i)=X:=by simp[g]
 simp only[l,Bool.not_true,Bool.false_or,Option.map_some,Option.getD_some]at c;obtain⟨k,m,b⟩:=Array.any_eq_true.1 c;simp only[bN,beq_iff_eq]at b;exact⟨a.after[k],Array.getElem_mem m,b.1,b.2⟩
theorem cO(hi:ops[i]? =J oi)(N:Region.noSelect ops=O)(Z:Region.free md ops d i=O)(g:(lJ md ops d).contains i=O)(hE:Hh md ops E i=O)(V:∀c a w,Q (.panic c) (a.put oi.dst v) w->Q (.panic c) a w)(n:YieldsIf P ops S oi v a)(m:S w)(h:dV P md ops Q S E fuel (d.setIfInBounds i O) (a.put oi.dst v) w):dV P md ops Q S E (fuel+1) d a w:=by
 have I:=Region.noSelect_spec N;have hwait:=BO hE;have T:∀(fuel:Nat) (d:Array Bool) (a:Act) (w:World),
   (∀j l,ops[j]? =J l->j≠i->d.getD j O=X->(∀e∈l.after,Region.binds md e=O->e.on≠i)->oi.apart ops l=O)->
   i∈lJ md ops d->YieldsIf P ops S oi v a->S w->
   dV P md ops Q S E fuel (d.setIfInBounds i O) (a.put oi.dst v) w->dV P md ops Q S E (fuel+1) d a w:=by
  intro fuel;induction fuel with
  | zero=>
   intro d a w _ g n m H;refine⟨λh=>(by rw[h]at g;cases g),λj u=>?_⟩;by_cases f:j=i
   ·subst f;exact n.wpOp hi m ⟨λ_ _=>m,H⟩
   exact absurd (ready_mono u f) (by rw[H.1];simp)
  | succ fuel ih=>
   intro d a w D g n m H;refine⟨λh=>(by rw[h]at g;cases g),λj u=>?_⟩;by_cases f:j=i
   ·subst f;exact n.wpOp hi m ⟨λ_ _=>m,H⟩
   obtain⟨G,l,q,U⟩:=mem_ready.1 u;have F:∀e∈l.after,Region.binds md e=O->e.on≠i:=λe A B heq=>by
    have o:=U e A B;have g0:=(mem_ready.1 g).1;rw[heq]at o;rcases Nat.lt_or_ge i d.size with y|y
    ·simp[y]at g0 o;rw[g0]at o;cases o
    simp[Array.getElem?_eq_none y]at o
   have R:E j=X:=by
    cases hc:E j with
    | false=>rfl
    | true=>
     obtain⟨e,A,B,Y⟩:=hwait j l q hc f;exact absurd Y (F e A B)
   have qc:=wpOp_putIf q (D j l q f G F) (λx b=>I i oi x b hi) (λx b=>I j l x b q) V n (H.2 j (ready_mono u f));refine wpOp_mono (λW M s=>⟨s.2.1,ih (d.setIfInBounds j O) W M (λk ok qb L qa K=>D k ok qb L ?_ K) (ready_mono g (Ne.symm f)) s.1 (s.2.1 R m) ?_⟩) qc
   ·by_cases C:j=k
    ·subst C;exact G
    rw[Go.getD_set_ne O C]at qa;exact qa
   rw[Array.setIfInBounds_comm _ _ f];exact s.2.2
 exact T fuel d a w (Region.free_spec hi Z) (by simpa using g) n m h
theorem gI(hi:ops[i]? =J oi)(qa:Region.noSelect ops=O)(V:Region.free md ops d i=O)(f:(lJ md ops d).contains i=O)(N:∀c a w,Q (.panic c) (a.put oi.dst v) w->Q (.panic c) a w)(m:YieldsIf P ops (λ_=>True) oi v a)(h:dV P md ops Q S E fuel (d.setIfInBounds i O) (a.put oi.dst v) w):dV P md ops Q S E (fuel+1) d a w:=by
 have C:=Region.noSelect_spec qa;have L:∀(fuel:Nat) (d:Array Bool) (a:Act) (w:World),
   (∀j l,ops[j]? =J l->j≠i->d.getD j O=false->(∀e∈l.after,Region.binds md e=O->e.on≠i)->oi.apart ops l=O)->
   i∈lJ md ops d->YieldsIf P ops (λ_=>True) oi v a->
   dV P md ops Q S E fuel (d.setIfInBounds i O) (a.put oi.dst v) w->dV P md ops Q S E (fuel+1) d a w:=by
  intro fuel;induction fuel with
  | zero=>
   intro d a w _ f m H;refine⟨λh=>(by rw[h]at f;cases f),λj o=>?_⟩;by_cases g:j=i
   ·subst g;exact m.wpOp hi trivial ⟨λ_ h=>h,H⟩
   exact absurd (ready_mono o g) (by rw[H.1];simp)
  | succ fuel X=>
   intro d a w A f m H;refine⟨λh=>(by rw[h]at f;cases f),λj o=>?_⟩;by_cases g:j=i
   ·subst g;exact m.wpOp hi trivial ⟨λ_ h=>h,H⟩
   obtain⟨B,l,s,M⟩:=mem_ready.1 o;have qb:∀e∈l.after,Region.binds md e=O->e.on≠i:=λe U W Y=>by
    have n:=M e U W;have g0:=(mem_ready.1 f).1;rw[Y]at n;rcases Nat.lt_or_ge i d.size with u|u
    ·simp[u]at g0 n;rw[g0]at n;cases n
    simp[Array.getElem?_eq_none u]at n
   have K:=wpOp_putIf s (A j l s g B qb) (λq b=>C i oi q b hi) (λq b=>C j l q b s) N m (H.2 j (ready_mono o g));refine wpOp_mono (λR I x=>⟨x.2.1,X (d.setIfInBounds j O) R I (λk ok T G D F=>A k ok T G ?_ F) (ready_mono f (Ne.symm g)) x.1 ?_⟩) K
   ·by_cases y:j=k
    ·subst y;exact B
    rw[Go.getD_set_ne O y]at D;exact D
   rw[Array.setIfInBounds_comm _ _ g];exact x.2.2
 exact L fuel d a w (Region.free_spec hi V) (by simpa using f) m h
theorem aG(b:lJ md ops c=[])(h:Q .normal a w):∀d,dV P md ops Q S E d c a w
 | 0=>⟨b,h⟩
 | _+1=>⟨λ_=>h,by rw[b];simp⟩
theorem eG(f:lJ md ops c=[i])(ho:ops[i]? =J o)(h:∀b:Act->W->Prop,Shut (∀a w,(E i=X->S w)->dV P md ops Q S E fuel (c.setIfInBounds i O) a w->b a w)->if sZ o (yielded ops a.tmps)=O then Oper.wp P o a w b Q else b (a.put o.dst undef) w):
  dV P md ops Q S E (fuel+1) c a w:=by
 refine⟨λd=>(by rw[f]at d;cases d),λj g=>?_⟩;rw[f]at g;obtain rfl:=bH.1 g;exact wpOp_step ho (λb k=>h b (λa w l m=>k a w ⟨λh _=>l h,m⟩))
theorem aH{b:Nat}(S:W->Prop)(E:Nat->Bool)(c:P.follows .mixedOrders=O)(h:dV P .any ops Q S E ops.size (Array.replicate ops.size X) a w.drew):(Code.region b ops O).wp P Q a w:=
 wp_region_any c (vp _ _ _ _ h)
theorem iF{a:W}{p:Addr}(b:D w.heap.size w a)(h:w.cell? p=J v):a.cell? p=J v:=(b.cell (W.block_lt_of_cell? w p h)).trans h
def Src(w:W)(B size:Nat)(U:Option Addr)(n c:Nat)(a:List I):Prop:=
 a.length=n*size/\((U=Y/\n=0/\c=0)\/∃g o,U=J ⟨g,o,Y⟩/\g<B/\∀j u,a[j]? =J u->w.cell? ⟨g,o+j,Y⟩=J u)
theorem Src.below{b:W}{size:Nat}{c:Nat}{news:List I}(h:Src w B size U n c news)(f:D B w b):Src b B size U n c news:=by
 refine⟨h.1,?_⟩;rcases h.2 with k|⟨g,o,e,a,i⟩
 ·exact .inl k
 exact .inr ⟨g,o,e,a,λj u d=>(f.cell (p:=⟨g,o+j,Y⟩) a).trans (i j u d)⟩
theorem Src.own{k size:Nat}{e:bM}{c:Nat}{xs:List I}(h:w.ownsRow k e size (.slice U n c) n xs)(m:w.heap.size<=B):Src w B size U n c xs:=by
 refine⟨h.1,?_⟩;rcases h.2 with⟨b,q⟩|⟨g,v,s,b,_,l,_⟩
 ·injection b with a o d;exact .inl ⟨a,q,d⟩
 injection b with a o d;subst a d;refine .inr ⟨g,0,Z,aZ (a9.1 l).1 m,λj u f=>?_⟩;have i:=(aC.1 f).1;rw[h.1]at i;rw[ea];exact(ig h j i).trans f
theorem bO{a w':W}{base sz:Nat}{e:bM}{g:List I}(h:D B a w)(c:w.ownsRow base e sz v n g)(b:w.grownBy w' v.ownBlock)(d:B<=w.heap.size)(f:B<=base):D B a w':=
 h.grown b d (λk i=>aF f (W.ownsRow.lt c _ i).1)
structure oH (P:J4) (t e:bM) (i:TypeInfo) (z:I) (size bytes:Nat):Prop where
 und:P.underlying t=J (.slice e)
 info:P.info? e=J i
 zero:i.zero=J z
 hsize:i.size=size
 hbytes:i.bytes=bytes
 hzs:z.cells.size=size
 pos:0<size
theorem oH.of{P:J4}{t e:bM}{z:I}{size bytes:Nat}(g:P.underlying t=J (.slice e))(h:(P.info? e).map (λi=>(i.zero,i.size,i.bytes))=J (J z,size,bytes))(c:z.cells.size=size)(d:0<size):∃i,oH P t e i z size bytes:=by
 obtain⟨i,hi,b⟩:=Option.map_eq_some_iff.1 h;injection b with j a;injection a with a f;exact⟨i,g,hi,j,a,f,c,d⟩
variable {t e:bM} {inf:TypeInfo} {z:I} {size bytes:Nat}
theorem pg(T:oH P t e inf z size bytes)(ho:o.op= .buildSlice t 0 #[])(h:K (a.put o.dst (af (J ⟨w.heap.size,0,Y⟩) 0 0)) (w.alloc (ag #[] e))):o.wp P a w K Q:=by
 have b:(Instr.buildSlice t 0 #[]).run P w= .ok (af (J ⟨w.heap.size,0,Y⟩) 0 0) (w.alloc (ag #[] e)):=by
  simp[Instr.buildSlice,run_underlying T.und,sizeOf,typeInfo,T.info,Instr.fill,newRow];congr 2;apply Array.ext<;>simp
 unfold Oper.wp nO;simp only[ho,cD,List.map_toArray,List.map_nil,b,bC];exact h
theorem tF(w:W)(base:Nat)(a:base<=w.heap.size):(w.alloc (ag #[] e)).ownsRow base e size (af (J ⟨w.heap.size,0,Y⟩) 0 0) 0 []:=
 W.ownsRow_lit w #[] 0 a (by simp[sV]) zS
theorem pe(x:vn)(v:I)(b:Array I)(d:∀w:W,(Instr.buildSlice t 1 #[(0,v)]).run P w= .ok (af (J ⟨w.heap.size,0,Y⟩) 1 1) (w.alloc (ag b e)))(ho:o.op= .buildSlice t 1 #[(0,x)])(c:a.eval x=v)(h:K (a.put o.dst (af (J ⟨w.heap.size,0,Y⟩) 1 1)) (w.alloc (ag b e))):o.wp P a w K Q:=by
 unfold Oper.wp nO;simp only[ho,cD,List.map_toArray,List.map_nil,s8,c,d w,bC];exact h
theorem dX(T:oH P t e inf z size bytes)(s x:vn)(ho:o.op= .call { callee:=.builtin .append,args:=#[s,x],argTypes:=#[t,t] })(base:Nat)(v:I)(b:Nat)(i:List I)(y:a.eval s=v)(q:w.ownsRow base e size v b i)(U:Option Addr)(n c:Nat)(f:List I)(A:a.eval x= .slice U n c)(l:Src w B size U n c f)(C:∀u∈f,u.oneCell'=O)(L:(b+n)*bytes<=140737488355328)(N:b+n<=100000)(F:base<=w.heap.size)(h:∀k d,d.ownsRow base e size k (b+n) (i++f)->w.grownBy d v.ownBlock->K (a.put o.dst k) d):o.wp P a w K Q:=by
 have J:b+n<=sV:=by simp only[sV];omega
 rcases l.2 with⟨rfl,rfl,rfl⟩|⟨g,of,rfl,_,M⟩
 ·have qa:f=[]:=List.length_eq_zero_iff.1 (by rw[l.1];simp);subst qa;have m:=run_append_owned_none (P:=P) w base t o.type e inf size T.und T.info v b i q;unfold Oper.wp nO;simp only[ho,resolve,invoke,builtin,cD,dF,bC,List.map_toArray,s8,List.map_nil,y,A,m];exact h v w (by simpa using q) ⟨Z,Z,Z,aq _,λ_ _ _=>Z⟩
 obtain⟨k,d,m,D,G,_,_⟩:=run_append_own_at (P:=P) w base t o.type e inf z size bytes T.und T.info T.zero T.hsize T.hbytes T.hzs T.pos v b i q ⟨g,of,Y⟩ n c f l.1 (λj u H=>by rw[gZ];exact M j u H) C J L F;unfold Oper.wp nO;simp only[ho,resolve,invoke,builtin,cD,dF,bC,List.map_toArray,s8,List.map_nil,y,A,m];exact h k d D G
theorem lE(ho:ops[i]? =J o)(b:o.guard=Y)(h:o.wp P a w K Q):wpOp P ops Q i K a w:=by
 unfold wpOp;simp only[ho];rw[if_pos (by unfold sZ;rw[b])];exact .inl h
theorem mK{g:Nat}{a:Array I}{e:bM}{size:Nat}(h:Bk w g e a)(d:a.size=size)(b:g<B):Src w B size (J ⟨g,0,Y⟩) 1 1 a.toList:=by
 refine⟨by simp[d],.inr ⟨g,0,Z,b,λj u c=>?_⟩⟩;rw[ea,h.cell j]
 simpa using c
theorem um(T:oH P t e inf z size bytes){G:Array Bool}(C R o iD l M K tD:Nat)(V qe:vn){oA oB oC oD:Oper}(hA:ops[C]? =J oA)(hB:ops[R]? =J oB)(hC:ops[o]? =J oC)(hD:ops[iD]? =J oD)(qg:(oA.dst=J l/\oA.op= .buildSlice t 0 #[]/\oA.guard=Y))(qc:(oB.dst=J M/\oB.op= .call { callee:=.builtin .append,args:=#[.tmp l,V],argTypes:=#[t,t] } /\oB.guard=Y))(F:(oC.dst=J K/\oC.op= .buildSlice t 1 #[(0,qe)]/\oC.guard=Y))(sD:(oD.dst=J tD/\oD.op= .call { callee:=.builtin .append,args:=#[.tmp M,.tmp K],argTypes:=#[t,t] } /\oD.guard=Y))(r0:lJ md ops G=[C,o])(r1:lJ md ops (G.setIfInBounds C O)=[R,o])(r2:lJ md ops (G.setIfInBounds o O)=[C])(r3:lJ md ops ((G.setIfInBounds C O).setIfInBounds R O)=[o])(r4:lJ md ops ((G.setIfInBounds C O).setIfInBounds o O)=[R])(r5:lJ md ops (((G.setIfInBounds C O).setIfInBounds R O).setIfInBounds o O)=[iD])(hap:l≠M/\l≠K/\M≠K/\V≠ .tmp l/\V≠ .tmp K/\qe≠ .tmp l/\qe≠ .tmp M/\C≠o/\R≠o)(rI:l<a.tmps.size/\M<a.tmps.size/\K<a.tmps.size)(B:Nat)(JA:B<=w.heap.size)(L:S w)(qa:∀w1 w2,D B w1 w2->S w1->S w2)(U:Option Addr)(n c:Nat)(N:List I)(hx:a.eval V= .slice U n c)(CL:Src w B size U n c N)(h1:∀u∈N,u.oneCell'=O)(ve:I)(ec:Array I)(he:a.eval qe=ve)(hb:∀w:W,(Instr.buildSlice t 1 #[(0,ve)]).run P w= .ok (af (J ⟨w.heap.size,0,Y⟩) 1 1) (w.alloc (ag ec e)))(hes:ec.size=size)(h2:∀u∈ec.toList,u.oneCell'=O)(hn:(n+1)*bytes<=140737488355328)(va:n+1<=100000)(h:∀vA k vC vD w',w'.ownsRow B e size vD (n+1) (N++ec.toList)->D B w w'->S w'->dV P md ops Q S E fuel ((((G.setIfInBounds C O).setIfInBounds R O).setIfInBounds o O).setIfInBounds iD O) ((((a.put (J l) vA).put (J M) k).put (J K) vC).put (J tD) vD) w'):
  dV P md ops Q S E (fuel+4) G a w:=by
 obtain⟨n1,n2,n3,n4,n5,n6,n7,n8,n9⟩:=hap;obtain⟨z1,z2,z3⟩:=rI;have q:∀(a:Act) (A:Nat) (v:I) (x:vn),x≠ .tmp A->(a.put (J A) v).eval x=a.eval x:=λa A v x qQ=>Act.eval_put (λd hd=>by injection hd with hd;subst hd;exact qQ);have same:∀(a:Act) (A:Nat) (v:I),A<a.tmps.size->(a.put (J A) v).eval (.tmp A)=v:=λa A v fH=>by
  simp[Act.eval,Act.put,fH]
 have szp:∀(a:Act) (A:Nat) (v:I),(a.put (J A) v).tmps.size=a.tmps.size:=λa A v=>by simp[Act.put]
 have comm:∀(a:Act) (x y:Nat) (v u:I),x≠y->(a.put (J x) v).put (J y) u=(a.put (J y) u).put (J x) v:=λa x y v u qQ=>Act.put_comm a v u (λd hd CT=>by injection hd with hd;injection CT with CT;omega);have m:∀w',D B w w'->B<=w'.heap.size:=λw' hh=>aF JA hh.size;have goD:∀(vA k:I) (qf:Nat) (w':W),w'.ownsRow B e size k n N->Bk w' qf e ec->D B w w'->
   dV P md ops Q S E (fuel+1) (((G.setIfInBounds C O).setIfInBounds R O).setIfInBounds o O) (((a.put (J l) vA).put (J M) k).put (J K) (af (J ⟨qf,0,Y⟩) 1 1)) w':=by
  intro vA k qf w' s qd hbel;refine⟨λf=>(by rw[r5]at f;cases f),λj b=>?_⟩;rw[r5]at b;obtain rfl:=bH.1 b;refine lE hD sD.2.2 (dX T (.tmp M) (.tmp K) sD.2.1 B k n N ?_ s (B:=w'.heap.size) (J ⟨qf,0,Y⟩) 1 1 ec.toList ?_ (mK qd hes qd.lt) h2 hn va (m _ hbel) ?_)
  ·rw[q _ _ _ _ (by simpa using n3)];exact same _ _ _ (by rw[szp];exact z2)
  ·exact same _ _ _ (by rw[szp,szp];exact z3)
  intro vD w2 lH H;have kW:=bO hbel s H (m _ hbel) (aq _);have Oa:=qa _ _ kW L;rw[sD.1];exact⟨λ_ _=>Oa,h vA k _ vD w2 lH kW Oa⟩
 refine⟨λf=>(by rw[r0]at f;cases f),λj b=>?_⟩;rw[r0]at b;rcases aL.1 b with rfl|b
 ·-- A first
  refine lE hA qg.2.2 (pg T qg.2.1 ?_);rw[qg.1];have X:=tF (e:=e) (size:=size) w B JA;have i:D B w (w.alloc (ag #[] e)):=(D.refl _ _).alloc JA _;have szA:w.heap.size<(w.alloc (ag #[] e)).heap.size:=zS;generalize w.alloc (ag #[] e)=wA at *;generalize w.heap.size=gA at *;refine⟨λ_ _=>qa _ _ i L,λf=>(by rw[r1]at f;cases f),λj b=>?_⟩;rw[r1]at b;rcases aL.1 b with rfl|b
  ·-- A, B, C
   refine lE hB qc.2.2 (dX T (.tmp l) V qc.2.1 B _ 0 [] (same _ _ _ z1) X (B:=B) U n c N (by rw[q _ _ _ _ n4];exact hx) (CL.below i) h1 (by rw[ea];exact aF (Nat.mul_le_mul_right _ (oU n)) hn) zO (m _ i) ?_);intro k wB s H;rw[ea,List.nil_append]at s;have qb:=bO i X H (m _ i) (aq _);rw[qc.1];refine⟨λ_ _=>qa _ _ qb L,λf=>(by rw[r3]at f;cases f),λj b=>?_⟩;rw[r3]at b;obtain rfl:=bH.1 b;refine lE hC F.2.2 (pe qe ve ec hb F.2.1 (by rw[q _ _ _ _ n7,q _ _ _ _ n6];exact he) ?_);rw[F.1];have g:=qb.alloc (m _ qb) (ag ec e);exact⟨λ_ _=>qa _ _ g L,goD _ k _ _ (s.alloc _) (Bk.made wB e ec) g⟩
  obtain rfl:=bH.1 b;refine lE hC F.2.2 (pe qe ve ec hb F.2.1 (by rw[q _ _ _ _ n6];exact he) ?_);rw[F.1];have g:=i.alloc (m _ i) (ag ec e);have qd:=Bk.made wA e ec;have hAo2:=X.alloc (ag ec e);refine⟨λ_ _=>qa _ _ g L,λf=>(by rw[r4]at f;cases f),λj b=>?_⟩;rw[r4]at b;obtain rfl:=bH.1 b;refine lE hB qc.2.2 (dX T (.tmp l) V qc.2.1 B _ 0 [] (by rw[q _ _ _ _ (by simpa using n2)];exact same _ _ _ z1) hAo2 (B:=B) U n c N (by rw[q _ _ _ _ n5,q _ _ _ _ n4];exact hx) (CL.below g) h1 (by rw[ea];exact aF (Nat.mul_le_mul_right _ (oU n)) hn) zO (m _ g) ?_);intro k wB s H;rw[ea,List.nil_append]at s;have qb:=bO g hAo2 H (m _ g) (aq _);have kC2:Bk wB wA.heap.size e ec:=(H.block _ qd.lt (λe'=>by simp only[I.ownBlock,Option.some.injEq]at e';omega)).trans qd;rw[qc.1,comm _ _ _ _ _ (Ne.symm n3),Array.setIfInBounds_comm _ _ n9.symm];exact⟨λ_ _=>qa _ _ qb L,goD _ k _ _ s kC2 qb⟩
 obtain rfl:=bH.1 b;refine lE hC F.2.2 (pe qe ve ec hb F.2.1 he ?_);rw[F.1];have g:D B w (w.alloc (ag ec e)):=(D.refl _ _).alloc JA _;have qd:=Bk.made w e ec;generalize w.alloc (ag ec e)=wC at *;generalize w.heap.size=qf at *;refine⟨λ_ _=>qa _ _ g L,λf=>(by rw[r2]at f;cases f),λj b=>?_⟩;rw[r2]at b;obtain rfl:=bH.1 b;refine lE hA qg.2.2 (pg T qg.2.1 ?_);have X:=tF (e:=e) (size:=size) wC B (m _ g);have i:=g.alloc (m _ g) (ag #[] e);have kC2:=qd.alloc (ag #[] e);have zC:=qd.lt;generalize wC.alloc (ag #[] e)=wA at *;generalize wC.heap.size=gA at *;rw[qg.1,comm _ _ _ _ _ (Ne.symm n2),Array.setIfInBounds_comm _ _ n8.symm];refine⟨λ_ _=>qa _ _ i L,λf=>(by rw[r4]at f;cases f),λj b=>?_⟩;rw[r4]at b;obtain rfl:=bH.1 b;refine lE hB qc.2.2 (dX T (.tmp l) V qc.2.1 B _ 0 [] (by rw[q _ _ _ _ (by simpa using n2)];exact same _ _ _ z1) X (B:=B) U n c N (by rw[q _ _ _ _ n5,q _ _ _ _ n4];exact hx) (CL.below i) h1 (by rw[ea];exact aF (Nat.mul_le_mul_right _ (oU n)) hn) zO (m _ i) ?_);intro k wB s H;rw[ea,List.nil_append]at s;have qb:=bO i X H (m _ i) (aq _);have kC3:Bk wB qf e ec:=(H.block _ kC2.lt (λe'=>by simp only[I.ownBlock,Option.some.injEq]at e';omega)).trans kC2;rw[qc.1,comm _ _ _ _ _ (Ne.symm n3),Array.setIfInBounds_comm _ _ n9.symm];exact⟨λ_ _=>qa _ _ qb L,goD _ k _ _ s kC3 qb⟩
end
end
section
open Go.RowKit
section
variable {P:J4} {ops:Array Oper} {Q:Exit->Act->W->Prop} {md:Region.Mode} {S:W->Prop} {E:Nat->Bool}
def rQ(md:Region.Mode)(ops:Array Oper)(E:Nat->Bool):List (Nat × Nat × I)->Array Bool->Bool
 | [],_=>O
 | (i,d,_) :: r,l=>Region.free md ops l i&&(lJ md ops l).contains i&&Hh md ops E i&&(((ops[i]?).bind (·.dst))==J d)&&rQ md ops E r (l.setIfInBounds i O)
def Aj:List (Nat × Nat × I)->Array Bool->Array Bool
 | [],l=>l
 | (i,_,_) :: r,l=>Aj r (l.setIfInBounds i O)
def kY:List (Nat × Nat × I)->Act->Act
 | [],a=>a
 | (_,d,v) :: r,a=>kY r (a.put (J d) v)
def Ai(P:J4)(ops:Array Oper)(w:W):List (Nat × Nat × I)->Act->Prop
 | [],_=>True
 | (i,d,v) :: r,a=>(∃o,ops[i]? =J o/\((sZ o (yielded ops a.tmps)=O/\(nO a.eval o).run P w= .ok (.value v) w)\/(sZ o (yielded ops a.tmps)=X/\v=undef)))/\Ai P ops w r (a.put (J d) v)
theorem eL(t:Region.noSelect ops=O)(s:∀d v c a w,Q (.panic c) (Act.put a (J d) v) w->Q (.panic c) a w):∀(n:Nat) (L:List (Nat × Nat × I)) {fuel:Nat} {m:Array Bool} {a:Act} {w:W},
  L.length=n->rQ md ops E L m=O->(∀b,S b->Ai P ops b L a)->S w->dV P md ops Q S E fuel (Aj L m) (kY L a) w->dV P md ops Q S E (fuel+n) m a w
 | 0,[],_,_,_,_,_,_,_,_,h=>h
 | n+1,(i,d,v) :: r,fuel,m,a,w,hn,fC,hy,hS,h=>by
  unfold rQ at fC;simp only[bN,beq_iff_eq]at fC;obtain⟨⟨⟨⟨z,A⟩,x⟩,g⟩,y⟩:=fC;cases ho:ops[i]? with
  | none=>rw[ho]at g;cases g
  | some j=>
   rw[ho]at g;have g:j.dst=J d:=g;have q:∀b,S b->(sZ j (yielded ops a.tmps)=O/\(nO a.eval j).run P b= .ok (.value v) b)\/(sZ j (yielded ops a.tmps)=X/\v=undef):=λb k=>by
    obtain⟨⟨o,e,f⟩,-⟩:=hy b k;rw[ho]at e;injection e with e;subst e;exact f
   have u:YieldsIf P ops S j v a:=by
    cases l:sZ j (yielded ops a.tmps)with
    | true=>exact .inl ⟨l,λb k=>by
      rcases q b k with f|f
      ·exact f.2
      rw[l]at f;cases f.1⟩
    | false=>
     refine .inr ⟨l,?_⟩;rcases q w hS with f|f
     ·rw[l]at f;cases f.1
     exact f.2
   refine cO (fuel:=fuel+n) (v:=v) ho t z A x (λc a w=>by rw[g];exact s d v c a w) u hS ?_;rw[g];exact eL t s n r (by simpa using hn) y (λb k=>(hy b k).2) hS h
theorem wTk(n:Nat)(L:List (Nat × Nat × I)){fuel:Nat}{b:Array Bool}{a:Act}{w:W}(i:∀e,S e->Ai P ops e L a)(l:S w)(h:dV P md ops Q S E fuel (Aj L b) (kY L a) w)(k:Region.noSelect ops=O:=by kernel_rfl)(j:∀d v c a w,Q (.panic c) (Act.put a (J d) v) w->Q (.panic c) a w:=by exact λ_ _ _ _ _ h=>h)(g:L.length=n:=by rfl)(f:rQ md ops E L b=O:=by kernel_rfl):dV P md ops Q S E (fuel+n) b a w:=
 eL k j n L g f i l h
end
theorem zG{p:Prop}(h:p:=by((try simp only[au,ar,an,Act.put,ak,ay,az]);go_simp;done)):p:=h
end
section
open Go.RowKit
attribute [local go_sem ↓] aQ aR
theorem Dt(n:Int)(b:Nat)(d:b<=62):bits .and .i64 n (2 ^ b-1)=n%2 ^ b:=by
 have a:(2:Nat) ^ b<=2 ^ 62:=Nat.pow_le_pow_right M d;have f:0<(2:Nat) ^ b:=Nat.two_pow_pos b;have c:((2:Int) ^ b-1)=((2 ^ b-1:Nat):Int):=by
  rw[Int.ofNat_sub M];simp
 have hd:(2:Nat) ^ 64=2 ^ b*2 ^ (64-b):=by rw[<- Nat.pow_add];congr 1;omega
 show IntKind.i64.wrap ((BitVec.ofInt 64 n&&& BitVec.ofInt 64 (2 ^ b-1)).toNat:Int)=_;rw[c,BitVec.ofInt_natCast,BitVec.toNat_and,BitVec.toNat_ofNat,Nat.mod_eq_of_lt (show 2 ^ b-1<2 ^ 64 by omega),Nat.and_two_pow_sub_one_eq_mod,BitVec.toNat_ofInt];have e:(((n%((2 ^ 64:Nat):Int)).toNat%2 ^ b:Nat):Int)=n%2 ^ b:=by
  rw[Int.natCast_emod,Int.toNat_of_nonneg (Int.emod_nonneg _ M),hd]
  push_cast
  exact Int.emod_emod_of_dvd n (Int.dvd_mul_right _ _)
 rw[e,IntKind.wrap_i64];have h:0<=n%(2:Int) ^ b:=Int.emod_nonneg _ (Int.ne_of_gt (Int.pow_pos M));have i:n%(2:Int) ^ b<2 ^ b:=Int.emod_lt_of_pos _ (Int.pow_pos M);have g:(2:Int) ^ b<=2 ^ 62:=by exact_mod_cast a
 omega
theorem Jn(x y:Int)(i:Nat)(hi:i<=62)(e:0<=x)(k:x<9223372036854775808)(c:x%2 ^ i=0)(g:0<=y)(h:y<2 ^ i):
  bits .or .i64 x y=x+y:=by
 obtain⟨X,rfl⟩:=Int.eq_ofNat_of_zero_le e;obtain⟨Y,rfl⟩:=Int.eq_ofNat_of_zero_le g;have j:(2:Nat) ^ i<=2 ^ 62:=Nat.pow_le_pow_right M hi;have d:Y<2 ^ i:=by exact_mod_cast h
 have b:X%2 ^ i=0:=by exact_mod_cast c
 have f:X<2 ^ 63:=M;have ho:X||| Y<2 ^ 63:=Nat.or_lt_two_pow f M;have a:=nat_join i X Y b d;show IntKind.i64.wrap ((BitVec.ofInt 64 (X:Int)||| BitVec.ofInt 64 (Y:Int)).toNat:Int)=_;rw[BitVec.toNat_or,BitVec.ofInt_natCast,BitVec.toNat_ofNat,BitVec.ofInt_natCast,BitVec.toNat_ofNat,Nat.mod_eq_of_lt M,Nat.mod_eq_of_lt M,IntKind.wrap_i64,a];rw[a]at ho;omega
theorem pT(x y:Int)(i:Nat)(hi:i<=62)(b:0<=x)(c:x<2 ^ i)(a:y%2 ^ i=0)(d:0<=y)(e:y<9223372036854775808):
  bits .or .i64 x y=x+y:=by
 have h:=Jn y x i hi d e a b c;rw[Int.add_comm,<- h];show IntKind.i64.wrap ((BitVec.ofInt 64 x||| BitVec.ofInt 64 y).toNat:Int)=IntKind.i64.wrap ((BitVec.ofInt 64 y||| BitVec.ofInt 64 x).toNat:Int);rw[BitVec.or_comm]
theorem CA(c b a:Int):bits .or .i64 (bits .or .i64 (bits .or .i64 0 (c%65536)) (b%2*65536)) (a%268435456*131072)=
  c%65536+b%2*65536+a%268435456*131072:=by
 rw[pT 0 (c%65536) 0 M M M M M M];rw[pT _ (b%2*65536) 16 M M M M M M];rw[pT _ (a%268435456*131072) 17 M M M M M M];omega
theorem low_eq(n:Int)(b:Nat)(a:b<=62):bits .and .i64 n (wrap64 (wrap64 (2 ^ b)-1))=n%2 ^ b:=by
 have c:(0:Int)<2 ^ b:=Int.pow_pos M;have d:(2:Int) ^ b<=2 ^ 62:=by exact_mod_cast Nat.pow_le_pow_right (n:=2) M a
 rw[IntWalk.wrap64_in (2 ^ b) ⟨M,M⟩,IntWalk.wrap64_in _ ⟨M,M⟩,Dt n b a]
theorem He(n:Int):IntKind.i64.wrap n%268435456=n%268435456:=by rw[IntKind.wrap_i64];omega
theorem low_nat(n:Int)(b:Nat)(w:W)(a:b<=62):
  U ao 51 #[V H n,V H b] w λe w'=>e=ai (V H (n%2 ^ b))/\w=w':=by
 go_enter func51,ntmps51;go_wp2;go_ret;exact⟨ju (low_eq n b a),Z⟩
theorem jw(n b:Int)(w:W)(a:0<=b)(c:b<=62):
  U ao 51 #[V H n,V H b] w λe w'=>e=ai (V H (n%2 ^ b.toNat))/\w=w':=by
 obtain⟨B,rfl⟩:=Int.eq_ofNat_of_zero_le a;exact low_nat n B w M
theorem Nn(g:Nat)(c b a:Int)(w:W)(d:g<w.heap.size)(f:w.cell? ⟨g,0,Y⟩=J (V H c))(c1:w.cell? ⟨g,1,Y⟩=J (V H 16))(c2:w.cell? ⟨g,2,Y⟩=J (V H b))(c3:w.cell? ⟨g,3,Y⟩=J (V H 1))(c4:w.cell? ⟨g,4,Y⟩=J (V H a))(c5:w.cell? ⟨g,5,Y⟩=J (V H 28)):
  U ao 115 #[af (J ⟨g,0,Y⟩) 3 3] w λe w'=>e=ai (V H (c%65536+b%2*65536+a%268435456*131072))/\D w.heap.size w w':=by
 go_enter func115,ntmps115;go_wp2;refine wp_loop_rounds 4 ?_;rw[dB];go_wp2_with (go_at_call 51;refine(jw _ _ _ M M).mono ?_;rintro e w' ⟨rfl,rfl⟩);rw[dB];go_wp2_with (go_at_call 51;refine(jw _ _ _ M M).mono ?_;rintro e w' ⟨rfl,rfl⟩);rw[dB];go_wp2_with (go_at_call 51;refine(jw _ _ _ M M).mono ?_;rintro e w' ⟨rfl,rfl⟩);rw[dB];go_wp2;go_ret;refine⟨ju (CA c b a),?_⟩;exact aA (aA (aA bS _) _) _
theorem AR(g:Nat)(c b a:Int)(h:W)(d:h.heap.size=g):
  U ao 115 #[af (J ⟨g,0,Y⟩) 3 3] (h.alloc (ag #[V H c,V H 16,V H b,V H 1,V H a,V H 28] 168)) λe w'=>
   e=ai (V H (c%65536+b%2*65536+a%268435456*131072))/\D h.heap.size h w':=by
 subst d;refine(Nn h.heap.size c b a _ zS zS zS zS zS zS zS).mono ?_;rintro e w' ⟨rfl,f⟩;exact⟨rfl,aE (aA bS _) f⟩
abbrev mW(i:Int)(m:Bool)(c:Int):I:=.agg #[V H i,.bool m,V H c]
def dL(i:Int)(m:Bool)(c:Int):Int:=i%65536+(if m then 1 else 0)%2*65536+c%268435456*131072
theorem gk(i:Int)(m:Bool)(c:Int)(w:W):
  U ao 82 #[mW i m c] w λe w'=>e=ai (V H (dL i m c))/\D w.heap.size w w':=by
 cases m;all_goals
  go_enter func82,ntmps82;go_wp2_with fail;refine(AR _ _ _ _ _ zS).mono ?_;rintro e w' ⟨rfl,a⟩;go_wp2;go_ret;exact⟨ju (by simp[dL]),aE (aA bS _) a⟩
theorem gL(n:Int)(w:W):
  U ao 25 #[V H n] w λe w'=>e=ai (mW (n%65536) (n / 65536%2==1) (n / 131072%268435456))/\D w.heap.size w w':=by
 go_enter func25,ntmps25;go_wp2_with (go_at_call 51;refine(jw _ _ _ M M).mono ?_;rintro e w' ⟨rfl,rfl⟩);refine aS (v:=mW (n%65536) (n / 65536%2==1) (n / 131072%268435456)) (by simp[jE,results25,go_sem]) rfl ⟨rfl,?_⟩;exact aA bS _
theorem jQ(i:Int)(m:Bool)(c:Int)(a:Int)(w:W):
  U ao 152 #[mW i m c,V H a] w λe w'=>e=ai (mW (a%65536) X ((c+1)%268435456))/\D w.heap.size w w':=by
 go_enter func152,ntmps152;go_wp2_with fail
 go_region_held3 (λw'=>w'.cell? ⟨w.heap.size,2,Y⟩=J (V H c)) (go_keep) (first|(go_at_call 51;refine(jw _ _ _ M M).mono ?_;rintro e w' ⟨rfl,rfl⟩))
 all_goals go_wp2
 refine aS (v:=mW (a%65536) X ((c+1)%268435456)) ?_ Z ⟨Z,((aA (aA bS _) _).drew)⟩;simp[jE,results152,go_sem];exact He _
end
section
open Go.RowKit
structure Cf where
 aO:Int
 nodes:Int
 buckets:Int
 slots:Int
 tasks:Int
 cells:Int
 maps:Int
 stacks:Int
 chans:Int
abbrev cfV(c:Cf):I:=.agg #[V H c.aO,V H c.nodes,V H c.buckets,V H c.slots,V H c.tasks,V H c.cells,V H c.maps,V H c.stacks,V H c.chans]
abbrev cfC(c:Cf):Array I:=#[V H c.aO,V H c.nodes,V H c.buckets,V H c.slots,V H c.tasks,V H c.cells,V H c.maps,V H c.stacks,V H c.chans]
structure Ly where
 c:Cf
 done:Int
 count:Int
 era:Int
 free:Int
 alive:Int
 owner:Int
 resv:Int
 deque:Int
 ring:Int
 task:Int
 cell:Int
 map:Int
 stack:Int
 chan:Int
 node:Int
 size:Int
abbrev lyC(l:Ly):Array I:=#[V H l.c.aO,V H l.c.nodes,V H l.c.buckets,V H l.c.slots,V H l.c.tasks,V H l.c.cells,V H l.c.maps,V H l.c.stacks,V H l.c.chans,V H l.done,V H l.count,V H l.era,V H l.free,V H l.alive,V H l.owner,V H l.resv,V H l.deque,V H l.ring,V H l.task,V H l.cell,V H l.map,V H l.stack,V H l.chan,V H l.node,V H l.size]
abbrev lyV(l:Ly):I:=.agg #[V H l.c.aO,V H l.c.nodes,V H l.c.buckets,V H l.c.slots,V H l.c.tasks,V H l.c.cells,V H l.c.maps,V H l.c.stacks,V H l.c.chans,V H l.done,V H l.count,V H l.era,V H l.free,V H l.alive,V H l.owner,V H l.resv,V H l.deque,V H l.ring,V H l.task,V H l.cell,V H l.map,V H l.stack,V H l.chan,V H l.node,V H l.size]
def iq(t:Int):Int:=if t<=4 then 1 else if t<=8 then 2 else if t<=16 then 3 else if t<=32 then 4 else 5
def gy(n:Int)(w:W)(e:jK)(a:W):Prop:=e=ai (V H n)/\D w.heap.size w a
def oK(n:Int)(w:W)(e:jK)(a:W):Prop:=e=ai (V H n)/\a=w
theorem oK.of{n:Int}{w:W}:oK n w (ai (V H n)) w:=⟨Z,Z⟩
end
section
open Go.RowKit
attribute [local go_sem ↓] aQ aR
theorem Km(l:Ly)(w:W)(n:1<=l.c.tasks)(o:l.c.tasks<=64):U ao 67 #[lyV l] w (gy (iq l.c.tasks) w):=by
 have hE:iq l.c.tasks=1/\l.c.tasks<=4\/iq l.c.tasks=2/\4<l.c.tasks/\l.c.tasks<=8\/iq l.c.tasks=3/\8<l.c.tasks/\l.c.tasks<=16\/iq l.c.tasks=4/\16<l.c.tasks/\l.c.tasks<=32\/iq l.c.tasks=5/\32<l.c.tasks:=by
  unfold iq
  repeat' split
  all_goals omega
 obtain⟨c,C,k,J,N,z,x,j,P,E,M,q,B,i,L,A,K⟩:=l;obtain⟨u,Q,D,y,t,F,S,m,v⟩:=c;dsimp only at *;have I:IntKind.u64.wrap t=t:=IntWalk.u64_in t zO;have s:0<=t:=zO;rcases hE with⟨e,d⟩|⟨e,f,d⟩|⟨e,f,d⟩|⟨e,f,d⟩|⟨e,f⟩<;>rw[e]<;>clear e
 ·have a:decide (4<t)=X:=zP;go_enter func67,ntmps67;go_wp2;refine wp_loop_rounds 1 ?_;rw[dB];go_wp2;go_ret;exact⟨Z,aA bS _⟩
 ·have a:decide (4<t)=O:=zP;have b:decide (8<t)=X:=zP;go_enter func67,ntmps67;go_wp2;refine wp_loop_rounds 2 ?_;rw[dB];go_wp2;rw[dB];go_wp2;go_ret;exact⟨Z,aA bS _⟩
 ·have a:decide (4<t)=O:=zP;have b:decide (8<t)=O:=zP;have g:decide (16<t)=X:=zP;go_enter func67,ntmps67;go_wp2;refine wp_loop_rounds 3 ?_;rw[dB];go_wp2;rw[dB];go_wp2;rw[dB];go_wp2;go_ret;exact⟨Z,aA bS _⟩
 ·have a:decide (4<t)=O:=zP;have b:decide (8<t)=O:=zP;have g:decide (16<t)=O:=zP;have h:decide (32<t)=X:=zP;go_enter func67,ntmps67;go_wp2;refine wp_loop_rounds 4 ?_;rw[dB];go_wp2;rw[dB];go_wp2;rw[dB];go_wp2;rw[dB];go_wp2;go_ret;exact⟨Z,aA bS _⟩
 have a:decide (4<t)=O:=zP;have b:decide (8<t)=O:=zP;have g:decide (16<t)=O:=zP;have h:decide (32<t)=O:=zP;have H:decide (64<t)=X:=zP;go_enter func67,ntmps67;go_wp2;refine wp_loop_rounds 5 ?_;rw[dB];go_wp2;rw[dB];go_wp2;rw[dB];go_wp2;rw[dB];go_wp2;rw[dB];go_wp2;go_ret;exact⟨Z,aA bS _⟩
def oz(r:Int):Int:=if r=0 then 0 else if r=1 then 4 else if r=2 then 12 else if r=3 then 28 else if r=4 then 60 else if r=5 then 124 else 252
theorem Lt(r:Int)(w:W)(b:0<=r)(a:r<=6):U ao 66 #[V H r] w (oK (oz r) w):=by
 have h:r=0\/r=1\/r=2\/r=3\/r=4\/r=5\/r=6:=M;rcases h with rfl|rfl|rfl|rfl|rfl|rfl|rfl<;>(go_enter func66,ntmps66;go_wp2;go_ret;exact⟨rfl,rfl⟩)
theorem J5(f m e r i p:Int)(w:W)(a:r*e=p)(b:0<=r)(l:r<m)(o:0<=i)(h:i<e)(c:0<=p)(g:p<=1000000000)(j:0<=f)(k:f<=1000000000)(hi:i<=1000000000):
  U ao 47 #[V H f,V H m,V H e,V H r,V H i] w (oK (f+p+i) w):=by
 have g0:decide (r<0)=X:=zP;have q:decide (m<=r)=X:=zP;have d:decide (i<0)=X:=zP;have n:decide (e<=i)=X:=zP;go_enter func47,ntmps47;go_wp2;go_ret;exact⟨Z,Z⟩
theorem Hf(f m e r i:Int)(w:W)(h:¬(0<=r/\r<m/\0<=i/\i<e)):
  U ao 47 #[V H f,V H m,V H e,V H r,V H i] w (oK (-1) w):=by
 cases g0:decide (r<0)<;>cases c:decide (m<=r)<;>cases a:decide (i<0)<;>cases b:decide (e<=i);all_goals first
  | (exfalso;simp at g0 c a b;omega)
  | (clear h;go_enter func47,ntmps47;go_wp2;go_ret;exact⟨Z,Z⟩)
variable {w:W}
theorem Hu(w:W)(b a:Array I)(t:bM):(w.alloc (ag b t)).setRow w.heap.size a=w.alloc (ag a t):=by
 have e:((w.alloc (ag b t)).setRow w.heap.size a).heap=(w.alloc (ag a t)).heap:=by
  apply Array.ext_getElem?;intro i;by_cases h:i=w.heap.size
  ·subst h;rw[setRow_heap _ _ b a t (0,0) (heap_alloc_new w _),heap_alloc_new]
  rw[setRow_other _ _ _ _ h];by_cases c:i<w.heap.size
  ·rw[heap_alloc_old (h:=c),heap_alloc_old (h:=c)]
  rw[Array.getElem?_eq_none zP,Array.getElem?_eq_none zP]
 show (⟨((w.alloc (ag b t)).setRow w.heap.size a).heap,_,_,_,_⟩:W)=_;rw[e];rfl
theorem eg{P:J4}{e:Array Oper}{rest:List Oper}{o:Oper}{a:Act}{Q:Exit->Act->W->Prop}(i:o.guard=Y)(ty:bM)(x y:vn)(ho:o.op= .store ty x y)(hd:o.dst=Y)(N:Nat)(c:W)(d b:Array I)(f:w=c.alloc (ag d ty))(m:c.heap.size=N)(g:a.eval x=ae (J ⟨N,0,Y⟩))(j:a.eval y= .agg b)(hi:(P.info? ty).map (·.size)=J b.size)(k:d.size=b.size)(l:b.all (·.oneCell')=O)(h:wpList P e Q rest a (c.alloc (ag b ty))):wpList P e Q (o :: rest) a w:=by
 subst f m;refine aI i ty x y ho hd c.heap.size b g j ty d (heap_alloc_new c _) hi k l ?_;rw[Hu];exact h
def Ci(b:Int):Bool:=b==1||b==2||b==4||b==8||b==16||b==32||b==64
theorem ON(b:Int)(a:1<=b)(c:b<=64):(bits BinOp.and IntKind.i64 b (wrap64 (b-1))==0)=Ci b:=by
 have H:∀n:Fin 65,1<=n.val->(bits BinOp.and IntKind.i64 (n.val:Int) (wrap64 ((n.val:Int)-1))==0)=Ci (n.val:Int):=by decide+kernel
 obtain⟨n,rfl⟩:=Int.eq_ofNat_of_zero_le (show 0<=b by omega);exact H ⟨n,M⟩ zP
def Cf.Cb(c:Cf):Nat->Prop
 | 0=>1<=c.aO/\c.aO<=8
 | 1=>1<=c.buckets/\c.buckets<=64
 | 2=>1<=c.slots/\c.slots<=8
 | 3=>1<=c.tasks/\c.tasks<=64
 | 4=>0<=c.cells/\c.cells<=16
 | 5=>0<=c.maps/\c.maps<=8
 | 6=>0<=c.stacks/\c.stacks<=8
 | 7=>0<=c.chans/\c.chans<=8
 | _=>True
def Cf.may(c:Cf):Prop:=(∀j,j<8->c.Cb j)/\Ci c.buckets=O
def BdRel(c:Cf)(w:W)(i:I)(wr:W):Prop:=∃k:Nat,k<=8/\i=V H k/\(∀j,j<k->c.Cb j)/\D w.heap.size w wr/\Bk wr w.heap.size 32 (cfC c)
def gz(c:Cf)(w:W)(e:jK)(a:W):Prop:=∃b:Bool,e=ai (.bool b)/\(b=O ↔ c.may)/\D w.heap.size w a
theorem gz.no{c:Cf}{w':W}(j:Nat)(b:j<8)(h:¬c.Cb j)(a:D w.heap.size w w'):gz c w (ai (ah X)) w':=
 ⟨X,Z,by simp;exact λd=>h (d.1 j b),a⟩
theorem row_at0(c:Cf)(X:Array I)(a:X=#[V H c.aO,V H 1,V H 8,V H c.buckets,V H 1,V H 64,V H c.slots,V H 1,V H 8,V H c.tasks,V H 1,V H 64,V H c.cells,V H 0,V H 16,V H c.maps,V H 0,V H 8,V H c.stacks,V H 0,V H 8,V H c.chans,V H 0,V H 8])(w:W):(Instr.index 135 (.agg X) (V H 0)).run ao w= .ok (.agg #[V H c.aO,V H 1,V H 8]) w:=by subst a;kernel_rfl
theorem row_at1(c:Cf)(X:Array I)(a:X=#[V H c.aO,V H 1,V H 8,V H c.buckets,V H 1,V H 64,V H c.slots,V H 1,V H 8,V H c.tasks,V H 1,V H 64,V H c.cells,V H 0,V H 16,V H c.maps,V H 0,V H 8,V H c.stacks,V H 0,V H 8,V H c.chans,V H 0,V H 8])(w:W):(Instr.index 135 (.agg X) (V H 1)).run ao w= .ok (.agg #[V H c.buckets,V H 1,V H 64]) w:=by subst a;kernel_rfl
theorem row_at2(c:Cf)(X:Array I)(a:X=#[V H c.aO,V H 1,V H 8,V H c.buckets,V H 1,V H 64,V H c.slots,V H 1,V H 8,V H c.tasks,V H 1,V H 64,V H c.cells,V H 0,V H 16,V H c.maps,V H 0,V H 8,V H c.stacks,V H 0,V H 8,V H c.chans,V H 0,V H 8])(w:W):(Instr.index 135 (.agg X) (V H 2)).run ao w= .ok (.agg #[V H c.slots,V H 1,V H 8]) w:=by subst a;kernel_rfl
theorem row_at3(c:Cf)(X:Array I)(a:X=#[V H c.aO,V H 1,V H 8,V H c.buckets,V H 1,V H 64,V H c.slots,V H 1,V H 8,V H c.tasks,V H 1,V H 64,V H c.cells,V H 0,V H 16,V H c.maps,V H 0,V H 8,V H c.stacks,V H 0,V H 8,V H c.chans,V H 0,V H 8])(w:W):(Instr.index 135 (.agg X) (V H 3)).run ao w= .ok (.agg #[V H c.tasks,V H 1,V H 64]) w:=by subst a;kernel_rfl
theorem row_at4(c:Cf)(X:Array I)(a:X=#[V H c.aO,V H 1,V H 8,V H c.buckets,V H 1,V H 64,V H c.slots,V H 1,V H 8,V H c.tasks,V H 1,V H 64,V H c.cells,V H 0,V H 16,V H c.maps,V H 0,V H 8,V H c.stacks,V H 0,V H 8,V H c.chans,V H 0,V H 8])(w:W):(Instr.index 135 (.agg X) (V H 4)).run ao w= .ok (.agg #[V H c.cells,V H 0,V H 16]) w:=by subst a;kernel_rfl
theorem row_at5(c:Cf)(X:Array I)(a:X=#[V H c.aO,V H 1,V H 8,V H c.buckets,V H 1,V H 64,V H c.slots,V H 1,V H 8,V H c.tasks,V H 1,V H 64,V H c.cells,V H 0,V H 16,V H c.maps,V H 0,V H 8,V H c.stacks,V H 0,V H 8,V H c.chans,V H 0,V H 8])(w:W):(Instr.index 135 (.agg X) (V H 5)).run ao w= .ok (.agg #[V H c.maps,V H 0,V H 8]) w:=by subst a;kernel_rfl
theorem row_at6(c:Cf)(X:Array I)(a:X=#[V H c.aO,V H 1,V H 8,V H c.buckets,V H 1,V H 64,V H c.slots,V H 1,V H 8,V H c.tasks,V H 1,V H 64,V H c.cells,V H 0,V H 16,V H c.maps,V H 0,V H 8,V H c.stacks,V H 0,V H 8,V H c.chans,V H 0,V H 8])(w:W):(Instr.index 135 (.agg X) (V H 6)).run ao w= .ok (.agg #[V H c.stacks,V H 0,V H 8]) w:=by subst a;kernel_rfl
theorem row_at7(c:Cf)(X:Array I)(a:X=#[V H c.aO,V H 1,V H 8,V H c.buckets,V H 1,V H 64,V H c.slots,V H 1,V H 8,V H c.tasks,V H 1,V H 64,V H c.cells,V H 0,V H 16,V H c.maps,V H 0,V H 8,V H c.stacks,V H 0,V H 8,V H c.chans,V H 0,V H 8])(w:W):(Instr.index 135 (.agg X) (V H 7)).run ao w= .ok (.agg #[V H c.chans,V H 0,V H 8]) w:=by subst a;kernel_rfl
def BdRows(X:Array I):Prop:=X.size=24/\X.all (·.oneCell')=O/\(Tryz.prog.info? 135).map (·.size)=J X.size
theorem bd_rows(c:Cf):∃X:Array I,X=#[V H c.aO,V H 1,V H 8,V H c.buckets,V H 1,V H 64,V H c.slots,V H 1,V H 8,V H c.tasks,V H 1,V H 64,V H c.cells,V H 0,V H 16,V H c.maps,V H 0,V H 8,V H c.stacks,V H 0,V H 8,V H c.chans,V H 0,V H 8]/\BdRows X:=⟨_,Z,Z,by simp[aB],zK⟩
theorem Dp(c:Cf)(w:W):U ao 64 #[cfV c] w (gz c w):=by
 obtain⟨X,l,q,u,t⟩:=bd_rows c;have H:=row_at0 c X l;have K:=row_at1 c X l;have D:=row_at2 c X l;have E:=row_at3 c X l;have C:=row_at4 c X l;have z:=row_at5 c X l;have A:=row_at6 c X l;have F:=row_at7 c X l;have v:=N l;have o:=N (al q (al u t));clear l q u t;go_enter func64,ntmps64;go_wp2_with (first
  | (refine wpList_buildTo Z 135 _ Z (J 30) Z X ?hf ?_;case hf=>(rw[v.out];kernel_rfl))
  | (refine eg Z 135 (.tmp 3) (.tmp 30) Z Z (w.heap.size+1) _ _ X Z zS Z Z o.out.2.2 (by rw[o.out.1];rfl) o.out.2.1 ?_)
  | (refine aM Z 135 (.tmp 3) Z (w.heap.size+1) Z 135 X (0,0) (.array 8 134) (Bk.new _ zS _ _) underlying135 Z o.out.2.2 ?_))
 go_loopw [5,32,33,34,35,36,37,38,39,40,41,42,43,44,45,46,47] (λ_ i _ _ _ _ _ _ _ _ _ _ _ _ _ _ _ wr=>BdRel c w i wr) (λ_ i _ _ _ _ _ _ _ _ _ _ _ _ _ _ _ _=>8-(intOf i).toNat)
 case atStart=>
  exact⟨0,M,Z,λj n=>absurd n M,aA (aA bS _) _,(Bk.made w _ _).alloc _⟩
 obtain⟨k,B,rfl,a,f,m⟩:=hrel;have y:k=0\/k=1\/k=2\/k=3\/k=4\/k=5\/k=6\/k=7\/k=8:=M;rcases y with rfl|rfl|rfl|rfl|rfl|rfl|rfl|rfl|rfl
 ·cases e:decide (c.aO<1)
  ·cases d:decide (8<c.aO)
   ·have b:=N a;clear a;go_wp2;go_roundw
    case rel=>
     refine⟨0+1,M,by go_num,λj n=>?_,aA f _,m.alloc _⟩;by_cases g:j<0
     ·exact b.out j g
     obtain rfl:j=0:=M;simp at e d;exact⟨e,d⟩
    case measure=>simp[intOf]
   have b:=N a;clear a;go_wp2;go_ret;exact gz.no 0 M (λh=>by simp at d;have:=h.2;omega) (aA f _)
  have b:=N a;clear a;go_wp2;go_ret;exact gz.no 0 M (λh=>by simp at e;have:=h.1;omega) (aA f _)
 ·cases e:decide (c.buckets<1)
  ·cases d:decide (64<c.buckets)
   ·have b:=N a;clear a;go_wp2;go_roundw
    case rel=>
     refine⟨1+1,M,by go_num,λj n=>?_,aA f _,m.alloc _⟩;by_cases g:j<1
     ·exact b.out j g
     obtain rfl:j=1:=M;simp at e d;exact⟨e,d⟩
    case measure=>simp[intOf]
   have b:=N a;clear a;go_wp2;go_ret;exact gz.no 1 M (λh=>by simp at d;have:=h.2;omega) (aA f _)
  have b:=N a;clear a;go_wp2;go_ret;exact gz.no 1 M (λh=>by simp at e;have:=h.1;omega) (aA f _)
 ·cases e:decide (c.slots<1)
  ·cases d:decide (8<c.slots)
   ·have b:=N a;clear a;go_wp2;go_roundw
    case rel=>
     refine⟨2+1,M,by go_num,λj n=>?_,aA f _,m.alloc _⟩;by_cases g:j<2
     ·exact b.out j g
     obtain rfl:j=2:=M;simp at e d;exact⟨e,d⟩
    case measure=>simp[intOf]
   have b:=N a;clear a;go_wp2;go_ret;exact gz.no 2 M (λh=>by simp at d;have:=h.2;omega) (aA f _)
  have b:=N a;clear a;go_wp2;go_ret;exact gz.no 2 M (λh=>by simp at e;have:=h.1;omega) (aA f _)
 ·cases e:decide (c.tasks<1)
  ·cases d:decide (64<c.tasks)
   ·have b:=N a;clear a;go_wp2;go_roundw
    case rel=>
     refine⟨3+1,M,by go_num,λj n=>?_,aA f _,m.alloc _⟩;by_cases g:j<3
     ·exact b.out j g
     obtain rfl:j=3:=M;simp at e d;exact⟨e,d⟩
    case measure=>simp[intOf]
   have b:=N a;clear a;go_wp2;go_ret;exact gz.no 3 M (λh=>by simp at d;have:=h.2;omega) (aA f _)
  have b:=N a;clear a;go_wp2;go_ret;exact gz.no 3 M (λh=>by simp at e;have:=h.1;omega) (aA f _)
 ·cases e:decide (c.cells<0)
  ·cases d:decide (16<c.cells)
   ·have b:=N a;clear a;go_wp2;go_roundw
    case rel=>
     refine⟨4+1,M,by go_num,λj n=>?_,aA f _,m.alloc _⟩;by_cases g:j<4
     ·exact b.out j g
     obtain rfl:j=4:=M;simp at e d;exact⟨e,d⟩
    case measure=>simp[intOf]
   have b:=N a;clear a;go_wp2;go_ret;exact gz.no 4 M (λh=>by simp at d;have:=h.2;omega) (aA f _)
  have b:=N a;clear a;go_wp2;go_ret;exact gz.no 4 M (λh=>by simp at e;have:=h.1;omega) (aA f _)
 ·cases e:decide (c.maps<0)
  ·cases d:decide (8<c.maps)
   ·have b:=N a;clear a;go_wp2;go_roundw
    case rel=>
     refine⟨5+1,M,by go_num,λj n=>?_,aA f _,m.alloc _⟩;by_cases g:j<5
     ·exact b.out j g
     obtain rfl:j=5:=M;simp at e d;exact⟨e,d⟩
    case measure=>simp[intOf]
   have b:=N a;clear a;go_wp2;go_ret;exact gz.no 5 M (λh=>by simp at d;have:=h.2;omega) (aA f _)
  have b:=N a;clear a;go_wp2;go_ret;exact gz.no 5 M (λh=>by simp at e;have:=h.1;omega) (aA f _)
 ·cases e:decide (c.stacks<0)
  ·cases d:decide (8<c.stacks)
   ·have b:=N a;clear a;go_wp2;go_roundw
    case rel=>
     refine⟨6+1,M,by go_num,λj n=>?_,aA f _,m.alloc _⟩;by_cases g:j<6
     ·exact b.out j g
     obtain rfl:j=6:=M;simp at e d;exact⟨e,d⟩
    case measure=>simp[intOf]
   have b:=N a;clear a;go_wp2;go_ret;exact gz.no 6 M (λh=>by simp at d;have:=h.2;omega) (aA f _)
  have b:=N a;clear a;go_wp2;go_ret;exact gz.no 6 M (λh=>by simp at e;have:=h.1;omega) (aA f _)
 ·cases e:decide (c.chans<0)
  ·cases d:decide (8<c.chans)
   ·have b:=N a;clear a;go_wp2;go_roundw
    case rel=>
     refine⟨7+1,M,by go_num,λj n=>?_,aA f _,m.alloc _⟩;by_cases g:j<7
     ·exact b.out j g
     obtain rfl:j=7:=M;simp at e d;exact⟨e,d⟩
    case measure=>simp[intOf]
   have b:=N a;clear a;go_wp2;go_ret;exact gz.no 7 M (λh=>by simp at d;have:=h.2;omega) (aA f _)
  have b:=N a;clear a;go_wp2;go_ret;exact gz.no 7 M (λh=>by simp at e;have:=h.1;omega) (aA f _)
 have b:=N a;clear a;have x:=m.cell 2;simp at x;go_wp2;go_ret;have s:1<=c.buckets/\c.buckets<=64:=b.out 1 M;show gz c w (ai (ah (bits BinOp.and IntKind.i64 c.buckets (wrap64 (c.buckets-1))==0))) wr;rw[ON c.buckets s.1 s.2];exact⟨_,Z,⟨λh=>⟨b.out,h⟩,λh=>h.2⟩,f⟩
end
section
open Go.RowKit
attribute [local go_sem ↓] aQ aR
theorem eA{a w:W}(h:D a.heap.size a w){g:Nat}(d:a.heap.size<=g)(b:Array I):D a.heap.size a (w.setRow g b):=
 ⟨h.os,h.tape,h.output,by simpa using h.size,λk c=>(setRow_other w g k b M).trans (h.block k c)⟩
theorem results_cell_tmp{P:J4}{fn:Func}{p t:Tmp}{ty:bM}(h:fn.results=#[.cell p ty,.tmp t])(a:Array I)(w:W)(g:Nat)(c:bM)(b:Array I)(e:Nat × Nat)(d:TypeDesc)(v:I)(i:a.getD p undef=ae (J ⟨g,0,Y⟩))(j:a.getD t undef=v)(f:w.heap[g]? =J (ag b c e))(l:P.underlying ty=J d)(hd:(match d with|.struct _|.array _ _=>O|_=>X)=O)(hi:(P.info? ty).map (·.size)=J b.size):
  (jE fn a).run P w= .ok (.tuple #[.agg b,v]) w:=by
 subst j;have k:a[p]?.getD undef=ae (J ⟨g,0,Y⟩):=by simpa using i
 simp[jE,h,k,asAddr,a7 w g c ty b e d f l hd hi]
structure Upd (g:Nat) (w w':W):Prop where
 aw:∀g' t cs,g'≠g->Bk w g' t cs->Bk w' g' t cs
 below:∀a:W,a.heap.size<=g->D a.heap.size a w->D a.heap.size a w'
 size:w'.heap.size=w.heap.size
theorem Upd.set(w:W)(g i:Nat)(u:I):Upd g w (w.setCell ⟨g,i,Y⟩ u):=
 ⟨λ_ _ _ h k=>k.other h u,λ_ h a=>a.setCell h u,zS⟩
def OV(g:Nat)(a c:Int)(w:W)(e:jK)(b:W):Prop:=e=ai (V H a)/\Bk b g 3 #[V H c]/\Upd g w b
theorem fB(m e a a':Int)(g:Nat)(w:W)(k:Bk w g 3 #[V H a])(h:a+m*e=a')(u:0<=a)(s:a'<=1000000000)(j:0<=m*e):
  U ao 65 #[V H m,V H e,ae (J ⟨g,0,Y⟩)] w (OV g a a' w):=by
 have d:=k.cell 0;simp at d;have q:=k.free 0;have i:=k.stored 0 (V H a');obtain⟨p,b⟩:∃p,p=m*e:=⟨_,Z⟩;have l:IntKind.i64.wrap (m*e)=p:=by rw[<- b];exact dh _ M
 have n:0<=p:=M;have o:p<=1000000000:=M;have t:IntKind.i64.wrap (a+p)=a':=by rw[b,h];exact dh _ M
 have f:=N (al k i);have c:=N (al b h);go_enter func65,ntmps65;go_wp2;go_ret;refine⟨Z,?_,?_⟩
 ·have:=f.out.2;simp at this;first|exact this|(rw[<- c.out.2,<- c.out.1]at this;exact this)
 exact Upd.set _ _ _ _
def yp(c:Cf):Ly:=
 let r:=4+8*c.aO+c.aO*oz (iq c.tasks)
 let ce:=r+c.tasks*4
 let m:=ce+c.cells
 let s:=m+c.maps*(2+c.buckets)
 let ch:=s+c.stacks*(1+c.slots)
 let nd:=ch+c.chans*2
 ⟨c,0,1,2,3,4,4+c.aO,4+2*c.aO,4+5*c.aO,4+8*c.aO,r,ce,m,s,ch,nd,nd+c.nodes*8⟩
def Cf.can(c:Cf):Prop:=c.may/\c.maps+c.chans<=c.nodes/\c.nodes<=1000
theorem yX(t:Int):1<=iq t/\iq t<=5:=by
 unfold iq
 repeat' split
 all_goals omega
theorem Lu(t:Int):0<=oz t/\oz t<=252:=by
 unfold oz
 repeat' split
 all_goals omega
structure LyOk (c:Cf) (l:Ly):Prop where
 owner:4+c.aO*1=l.owner
 resv:l.owner+c.aO*1=l.resv
 deque:l.resv+c.aO*3=l.deque
 ring:l.deque+c.aO*3=l.ring
 task:l.ring+c.aO*oz (iq c.tasks)=l.task
 cell:l.task+c.tasks*4=l.cell
 map:l.cell+c.cells*1=l.map
 stack:l.map+c.maps*(2+c.buckets)=l.stack
 chan:l.stack+c.stacks*(1+c.slots)=l.chan
 node:l.chan+c.chans*2=l.node
 size:l.node+c.nodes*8=l.size
 b0:5<=l.owner/\l.owner<=l.resv/\l.resv<=l.deque/\l.deque<=l.ring/\l.ring<=l.task/\l.task<=l.cell/\l.cell<=l.map/\l.map<=l.stack/\l.stack<=l.chan/\l.chan<=l.node/\l.node<=l.size/\l.size<=1000000
 m0:0<=c.aO*oz (iq c.tasks)
 m1:0<=c.maps*(2+c.buckets)
 m2:0<=c.stacks*(1+c.slots)
theorem AK(a b A B:Int)(f:0<=a)(d:a<=A)(c:0<=b)(e:b<=B):0<=a*b/\a*b<=A*B:=
 ⟨Int.mul_nonneg f c,Int.mul_le_mul d e c M⟩
theorem Jr(c:Cf)(h:c.can):LyOk c (yp c):=by
 obtain⟨⟨a,_⟩,m,o⟩:=h;have k:1<=c.aO/\c.aO<=8:=a 0 M;have f:1<=c.buckets/\c.buckets<=64:=a 1 M;have l:1<=c.slots/\c.slots<=8:=a 2 M;have e:1<=c.tasks/\c.tasks<=64:=a 3 M;have j:0<=c.cells/\c.cells<=16:=a 4 M;have g:0<=c.maps/\c.maps<=8:=a 5 M;have i:0<=c.stacks/\c.stacks<=8:=a 6 M;have n:0<=c.chans/\c.chans<=8:=a 7 M;have q:=Lu (iq c.tasks);have m0:=AK c.aO (oz (iq c.tasks)) 8 252 M M M M;have b:=AK c.maps (2+c.buckets) 8 66 M M M M;have d:=AK c.stacks (1+c.slots) 8 9 M M M M;constructor;all_goals first
  | exact m0.1
  | exact b.1
  | exact d.1
  | (simp only[yp];done)
  | (simp only[yp];omega)
  | (unfold yp;dsimp only;omega)
abbrev Ac:Ly:=⟨⟨0,0,0,0,0,0,0,0,0⟩,0,0,0,0,0,0,0,0,0,0,0,0,0,0,0,0⟩
def OW(l:Ly)(b:Int)(w:W)(e:jK)(a:W):Prop:=e=ai (.tuple #[lyV l,V H b])/\D w.heap.size w a
theorem of_ok(c:Cf)(w:W)(qc:c.can):Calls ao 41 #[cfV c] w (OW (yp c) 0 w):=by
 have N:=Jr c qc;obtain⟨l,O⟩:∃l,l=yp c:=⟨_,Z⟩;rw[<- O]at N ⊢;have HLE:=aj O;have G:=aj N;obtain⟨b0,b1,b2,b3,b4,b5,b6,b7,b8,b9,b10,b11⟩:=N.b0;clear N O;obtain⟨J,n1,n2⟩:=qc;have r0:1<=c.aO/\c.aO<=8:=J.1 0 M;have r1:1<=c.buckets/\c.buckets<=64:=J.1 1 M;have r2:1<=c.slots/\c.slots<=8:=J.1 2 M;have R:1<=c.tasks/\c.tasks<=64:=J.1 3 M;have r4:0<=c.cells/\c.cells<=16:=J.1 4 M;have r5:0<=c.maps/\c.maps<=8:=J.1 5 M;have r6:0<=c.stacks/\c.stacks<=8:=J.1 6 M;have r7:0<=c.chans/\c.chans<=8:=J.1 7 M;have HM:=aj J;clear J;have d1:decide (c.nodes<c.maps+c.chans)=X:=zP;have d2:decide (1000<c.nodes)=X:=zP;go_enter func41,ntmps41;go_wp2_with fail;refine(Dp c _).mono ?_;rintro e L ⟨bb,rfl,T,I⟩;obtain rfl:bb=true:=T.2 HM.out;clear T;have a:=((Bk.made w 32 (cfC c)).alloc (ag (lyC Ac) 34)).aw I;have A:=(Bk.new (w.alloc (ag (cfC c) 32)) (g:=w.heap.size+1) zS 34 (lyC Ac)).aw I;have B:=aE (aA (aA (bR w) (ag (cfC c) 32)) (ag (lyC Ac) 34)) I;have hg:w.heap.size+1<L.heap.size:=A.lt;have hg0:w.heap.size<L.heap.size:=a.lt;clear I;obtain⟨q0,n,u,j,m,q,x,s,k⟩:=cN a;simp at q0 n u j m q x s k;go_wp2_with (refine eg rfl 34 (.tmp 6) (.tmp 28) rfl rfl (L.heap.size+1) _ _ (lyC ⟨c,0,0,0,0,0,0,0,0,0,0,0,0,0,0,0,0⟩) rfl zS rfl rfl zK rfl (by simp[aB]) ?_);have d:=(Bk.made L 3 #[V H 0]).alloc (ag (lyC ⟨c,0,0,0,0,0,0,0,0,0,0,0,0,0,0,0,0⟩) 34);have b:=Bk.new (L.alloc (ag #[V H 0] 3)) (g:=L.heap.size+1) zS 34 (lyC ⟨c,0,0,0,0,0,0,0,0,0,0,0,0,0,0,0,0⟩);replace a:=(a.alloc (ag #[V H 0] 3)).alloc (ag (lyC ⟨c,0,0,0,0,0,0,0,0,0,0,0,0,0,0,0,0⟩) 34);replace A:=(A.alloc (ag #[V H 0] 3)).alloc (ag (lyC ⟨c,0,0,0,0,0,0,0,0,0,0,0,0,0,0,0,0⟩) 34);replace B:=aA (aA B (ag #[V H 0] 3)) (ag (lyC ⟨c,0,0,0,0,0,0,0,0,0,0,0,0,0,0,0,0⟩) 34);clear q0 n u j m q x s k;generalize ((L.alloc (ag #[V H 0] 3)).alloc (ag (lyC ⟨c,0,0,0,0,0,0,0,0,0,0,0,0,0,0,0,0⟩) 34))=v at *;generalize L.heap.size=g at *;clear L;obtain⟨q0,n,u,j,m,q,x,s,k⟩:=cN a;have z:=b.cell 9;have C:=b.free 9;have y:=d.cell 0;simp at q0 n u j m q x s k z y;refine(fB 1 1 0 1 g _ d M M M M).mono ?_;rintro e E ⟨rfl,D,f⟩;replace a:=f.aw _ _ _ M a;replace A:=f.aw _ _ _ M A;replace b:=f.aw _ _ _ M b;replace B:=f.below _ M B;replace d:=D;clear f D q0 n u j m q x s k z C y v;obtain⟨q0,n,u,j,m,q,x,s,k⟩:=cN a;have z:=b.cell 9;have C:=b.free 9;have y:=d.cell 0;simp at q0 n u j m q x s k z y;go_wp2_with fail;replace a:=a.other (p:=⟨g+1,9,Y⟩) zP (V H 0);replace A:=A.other (p:=⟨g+1,9,Y⟩) zP (V H 0);replace d:=d.other (p:=⟨g+1,9,Y⟩) zS (V H 0);replace b:=b.stored 9 (V H 0);replace b:Bk _ _ _ (lyC ⟨c,0,0,0,0,0,0,0,0,0,0,0,0,0,0,0,0⟩):=b;replace B:=bu B (p:=⟨g+1,9,Y⟩) zP (V H 0);clear q0 n u j m q x s k z C y;generalize (E.setCell ⟨g+1,9,Y⟩ (V H 0))=v at *;clear E;obtain⟨q0,n,u,j,m,q,x,s,k⟩:=cN a;have z:=b.cell 10;have C:=b.free 10;have y:=d.cell 0;simp at q0 n u j m q x s k z y;refine(fB 1 1 1 2 g _ d M M M M).mono ?_;rintro e E ⟨rfl,D,f⟩;replace a:=f.aw _ _ _ M a;replace A:=f.aw _ _ _ M A;replace b:=f.aw _ _ _ M b;replace B:=f.below _ M B;replace d:=D;clear f D q0 n u j m q x s k z C y v;obtain⟨q0,n,u,j,m,q,x,s,k⟩:=cN a;have z:=b.cell 10;have C:=b.free 10;have y:=d.cell 0;simp at q0 n u j m q x s k z y;go_wp2_with fail;replace a:=a.other (p:=⟨g+1,10,Y⟩) zP (V H 1);replace A:=A.other (p:=⟨g+1,10,Y⟩) zP (V H 1);replace d:=d.other (p:=⟨g+1,10,Y⟩) zS (V H 1);replace b:=b.stored 10 (V H 1);replace b:Bk _ _ _ (lyC ⟨c,0,1,0,0,0,0,0,0,0,0,0,0,0,0,0,0⟩):=b;replace B:=bu B (p:=⟨g+1,10,Y⟩) zP (V H 1);clear q0 n u j m q x s k z C y;generalize (E.setCell ⟨g+1,10,Y⟩ (V H 1))=v at *;clear E;obtain⟨q0,n,u,j,m,q,x,s,k⟩:=cN a;have z:=b.cell 11;have C:=b.free 11;have y:=d.cell 0;simp at q0 n u j m q x s k z y;refine(fB 1 1 2 3 g _ d M M M M).mono ?_;rintro e E ⟨rfl,D,f⟩;replace a:=f.aw _ _ _ M a;replace A:=f.aw _ _ _ M A;replace b:=f.aw _ _ _ M b;replace B:=f.below _ M B;replace d:=D;clear f D q0 n u j m q x s k z C y v;obtain⟨q0,n,u,j,m,q,x,s,k⟩:=cN a;have z:=b.cell 11;have C:=b.free 11;have y:=d.cell 0;simp at q0 n u j m q x s k z y;go_wp2_with fail;replace a:=a.other (p:=⟨g+1,11,Y⟩) zP (V H 2);replace A:=A.other (p:=⟨g+1,11,Y⟩) zP (V H 2);replace d:=d.other (p:=⟨g+1,11,Y⟩) zS (V H 2);replace b:=b.stored 11 (V H 2);replace b:Bk _ _ _ (lyC ⟨c,0,1,2,0,0,0,0,0,0,0,0,0,0,0,0,0⟩):=b;replace B:=bu B (p:=⟨g+1,11,Y⟩) zP (V H 2);clear q0 n u j m q x s k z C y;generalize (E.setCell ⟨g+1,11,Y⟩ (V H 2))=v at *;clear E;obtain⟨q0,n,u,j,m,q,x,s,k⟩:=cN a;have z:=b.cell 12;have C:=b.free 12;have y:=d.cell 0;simp at q0 n u j m q x s k z y;refine(fB 1 1 3 4 g _ d M M M M).mono ?_;rintro e E ⟨rfl,D,f⟩;replace a:=f.aw _ _ _ M a;replace A:=f.aw _ _ _ M A;replace b:=f.aw _ _ _ M b;replace B:=f.below _ M B;replace d:=D;clear f D q0 n u j m q x s k z C y v;obtain⟨q0,n,u,j,m,q,x,s,k⟩:=cN a;have z:=b.cell 12;have C:=b.free 12;have y:=d.cell 0;simp at q0 n u j m q x s k z y;go_wp2_with fail;replace a:=a.other (p:=⟨g+1,12,Y⟩) zP (V H 3);replace A:=A.other (p:=⟨g+1,12,Y⟩) zP (V H 3);replace d:=d.other (p:=⟨g+1,12,Y⟩) zS (V H 3);replace b:=b.stored 12 (V H 3);replace b:Bk _ _ _ (lyC ⟨c,0,1,2,3,0,0,0,0,0,0,0,0,0,0,0,0⟩):=b;replace B:=bu B (p:=⟨g+1,12,Y⟩) zP (V H 3);clear q0 n u j m q x s k z C y;generalize (E.setCell ⟨g+1,12,Y⟩ (V H 3))=v at *;clear E;obtain⟨q0,n,u,j,m,q,x,s,k⟩:=cN a;have z:=b.cell 13;have C:=b.free 13;have y:=d.cell 0;simp at q0 n u j m q x s k z y;refine(fB c.aO 1 4 l.owner g _ d G.out.owner M M M).mono ?_;rintro e E ⟨rfl,D,f⟩;replace a:=f.aw _ _ _ M a;replace A:=f.aw _ _ _ M A;replace b:=f.aw _ _ _ M b;replace B:=f.below _ M B;replace d:=D;clear f D q0 n u j m q x s k z C y v;obtain⟨q0,n,u,j,m,q,x,s,k⟩:=cN a;have z:=b.cell 13;have C:=b.free 13;have y:=d.cell 0;simp at q0 n u j m q x s k z y;go_wp2_with fail;replace a:=a.other (p:=⟨g+1,13,Y⟩) zP (V H 4);replace A:=A.other (p:=⟨g+1,13,Y⟩) zP (V H 4);replace d:=d.other (p:=⟨g+1,13,Y⟩) zS (V H 4);replace b:=b.stored 13 (V H 4);replace b:Bk _ _ _ (lyC ⟨c,0,1,2,3,4,0,0,0,0,0,0,0,0,0,0,0⟩):=b;replace B:=bu B (p:=⟨g+1,13,Y⟩) zP (V H 4);clear q0 n u j m q x s k z C y;generalize (E.setCell ⟨g+1,13,Y⟩ (V H 4))=v at *;clear E;obtain⟨q0,n,u,j,m,q,x,s,k⟩:=cN a;have z:=b.cell 14;have C:=b.free 14;have y:=d.cell 0;simp at q0 n u j m q x s k z y;refine(fB c.aO 1 l.owner l.resv g _ d G.out.resv M M M).mono ?_;rintro e E ⟨rfl,D,f⟩;replace a:=f.aw _ _ _ M a;replace A:=f.aw _ _ _ M A;replace b:=f.aw _ _ _ M b;replace B:=f.below _ M B;replace d:=D;clear f D q0 n u j m q x s k z C y v;obtain⟨q0,n,u,j,m,q,x,s,k⟩:=cN a;have z:=b.cell 14;have C:=b.free 14;have y:=d.cell 0;simp at q0 n u j m q x s k z y;go_wp2_with fail;replace a:=a.other (p:=⟨g+1,14,Y⟩) zP (V H l.owner);replace A:=A.other (p:=⟨g+1,14,Y⟩) zP (V H l.owner);replace d:=d.other (p:=⟨g+1,14,Y⟩) zS (V H l.owner);replace b:=b.stored 14 (V H l.owner);replace b:Bk _ _ _ (lyC ⟨c,0,1,2,3,4,l.owner,0,0,0,0,0,0,0,0,0,0⟩):=b;replace B:=bu B (p:=⟨g+1,14,Y⟩) zP (V H l.owner);clear q0 n u j m q x s k z C y;generalize (E.setCell ⟨g+1,14,Y⟩ (V H l.owner))=v at *;clear E;obtain⟨q0,n,u,j,m,q,x,s,k⟩:=cN a;have z:=b.cell 15;have C:=b.free 15;have y:=d.cell 0;simp at q0 n u j m q x s k z y;refine(fB c.aO 3 l.resv l.deque g _ d G.out.deque M M M).mono ?_;rintro e E ⟨rfl,D,f⟩;replace a:=f.aw _ _ _ M a;replace A:=f.aw _ _ _ M A;replace b:=f.aw _ _ _ M b;replace B:=f.below _ M B;replace d:=D;clear f D q0 n u j m q x s k z C y v;obtain⟨q0,n,u,j,m,q,x,s,k⟩:=cN a;have z:=b.cell 15;have C:=b.free 15;have y:=d.cell 0;simp at q0 n u j m q x s k z y;go_wp2_with fail;replace a:=a.other (p:=⟨g+1,15,Y⟩) zP (V H l.resv);replace A:=A.other (p:=⟨g+1,15,Y⟩) zP (V H l.resv);replace d:=d.other (p:=⟨g+1,15,Y⟩) zS (V H l.resv);replace b:=b.stored 15 (V H l.resv);replace b:Bk _ _ _ (lyC ⟨c,0,1,2,3,4,l.owner,l.resv,0,0,0,0,0,0,0,0,0⟩):=b;replace B:=bu B (p:=⟨g+1,15,Y⟩) zP (V H l.resv)
 clear q0 n u j m q x s k z C y;generalize (E.setCell ⟨g+1,15,Y⟩ (V H l.resv))=v at *;clear E;obtain⟨q0,n,u,j,m,q,x,s,k⟩:=cN a;have z:=b.cell 16;have C:=b.free 16;have y:=d.cell 0;simp at q0 n u j m q x s k z y;refine(fB c.aO 3 l.deque l.ring g _ d G.out.ring M M M).mono ?_;rintro e E ⟨rfl,D,f⟩;replace a:=f.aw _ _ _ M a;replace A:=f.aw _ _ _ M A;replace b:=f.aw _ _ _ M b;replace B:=f.below _ M B;replace d:=D;clear f D q0 n u j m q x s k z C y v;obtain⟨q0,n,u,j,m,q,x,s,k⟩:=cN a;have z:=b.cell 16;have C:=b.free 16;have y:=d.cell 0;simp at q0 n u j m q x s k z y;go_wp2_with fail;replace a:=a.other (p:=⟨g+1,16,Y⟩) zP (V H l.deque);replace A:=A.other (p:=⟨g+1,16,Y⟩) zP (V H l.deque);replace d:=d.other (p:=⟨g+1,16,Y⟩) zS (V H l.deque);replace b:=b.stored 16 (V H l.deque);replace b:Bk _ _ _ (lyC ⟨c,0,1,2,3,4,l.owner,l.resv,l.deque,0,0,0,0,0,0,0,0⟩):=b;replace B:=bu B (p:=⟨g+1,16,Y⟩) zP (V H l.deque);clear q0 n u j m q x s k z C y;generalize (E.setCell ⟨g+1,16,Y⟩ (V H l.deque))=v at *;clear E;refine wp_region_held_drew (S:=λqb=>Bk qb w.heap.size 32 (cfC c)) zK a.drew (λqg=>?_);replace a:=a.drew;replace A:=A.drew;replace d:=d.drew;replace b:=b.drew;replace B:=B.drew;generalize v.drew=v2 at *;clear v;refine wpAnyH_take (i:=0) (oi:=_) (v:=.func (.func 65) #[] #[ae (some ⟨g,0,Y⟩)]) rfl zK zK zK (λ_ _ _ h=>h) (jI ⟨by rfl,?_⟩) a ?_
 ·intro qb P;go_simp
 simp only[au,an,Act.put,ak,ay,az];refine wpAnyH_take (i:=1) (oi:=_) (v:=ae (some ⟨w.heap.size,0,Y⟩)) Z zK zK zK (λ_ _ _ h=>h) (jI ⟨by rfl,?_⟩) a ?_
 ·intro qb P;go_simp
 simp only[au,ar,an,Act.put,ak,ay,az];refine wpAnyH_take (i:=2) (oi:=_) (v:=V H c.aO) Z zK zK zK (λ_ _ _ h=>h) (jI ⟨by rfl,?_⟩) a ?_
 ·intro qb P;have q0:=P.cell 0;simp at q0;go_simp
 simp only[au,ar,an,Act.put,ak,ay,az];refine wpAnyH_ready (rs:=[3]) zK zS ?_;refine AllReadyH.cons (o:=_) Z (λK F=>?_) AllReadyH.nil;rw[if_pos (by rfl)];refine wp_load_row 34 (.tmp 6) Z (g+1) Z 34 (lyC ⟨c,0,1,2,3,4,l.owner,l.resv,l.deque,0,0,0,0,0,0,0,0⟩) (0,0) _ b aK Z zK ?_;refine F.out _ _ a (λqa=>?_);clear qa F K;(try simp only[au,ar,an,Act.put,ak,ay,az]);refine wpAnyH_ready (rs:=[4]) zK zS ?_;refine AllReadyH.cons (o:=_) Z (λK F=>?_) AllReadyH.nil;(try simp only[au,ar,an]);go_simp;refine(Km ⟨c,0,1,2,3,4,l.owner,l.resv,l.deque,0,0,0,0,0,0,0,0⟩ _ R.1 R.2).mono ?_;rintro e v3 ⟨rfl,I⟩;replace a:=a.aw I;replace A:=A.aw I;replace d:=d.aw I;replace b:=b.aw I;replace B:=aE B I;refine F.out _ _ a (λqa=>?_);clear qa F K I qg;(try simp only[]);refine wpAnyH_ready (rs:=[5]) zK zS ?_;refine AllReadyH.cons (o:=_) rfl (λK F=>?_) AllReadyH.nil;(try simp only[au,ar,an]);go_simp;refine(Lt (iq c.tasks) _ (by have:=yX c.tasks;omega) (by have:=yX c.tasks;omega)).mono ?_;rintro e v4 ⟨rfl,rfl⟩;refine F.out _ _ a (λqa=>?_);clear qa F K;(try simp only[au,ar,an,Act.put,ak,ay,az]);refine wpAnyH_ready (rs:=[6]) zK zS ?_;refine AllReadyH.cons (o:=_) rfl (λK F=>?_) AllReadyH.nil;(try simp only[au,ar,an]);go_simp;refine(fB c.aO (oz (iq c.tasks)) l.ring l.task g _ d G.out.task M M G.out.m0).mono ?_;rintro e E ⟨rfl,D,f⟩;replace a:=f.aw _ _ _ M a;replace A:=f.aw _ _ _ M A;replace b:=f.aw _ _ _ M b;replace B:=f.below _ M B;replace d:=D;refine F.out _ _ a (λqa=>?_);clear qa F K f D;(try simp only[au,ar,an,Act.put,ak,ay,az]);refine wpAnyH_ready (rs:=[7]) zK zS ?_;refine AllReadyH.cons (o:=_) rfl (λK F=>?_) AllReadyH.nil;(try simp only[au,ar,an]);go_simp;refine F.out _ _ a (λqa=>?_);clear qa F K;(try simp only[au,ar,an,Act.put,ak,ay,az]);obtain⟨q0,n,u,j,m,q,x,s,k⟩:=cN a;have z:=b.cell 17;have C:=b.free 17;have y:=d.cell 0;simp at q0 n u j m q x s k z y;refine wpAnyH_ready (rs:=[8]) zK zS ?_;refine AllReadyH.cons (o:=_) rfl (λK F=>?_) AllReadyH.nil;(try simp only[au,ar,an]);go_simp;refine F.out _ _ (a.other (p:=⟨g+1,17,Y⟩) zP _) (λqa=>?_);clear qa F K;(try simp only[au,ar,an,Act.put,ak,ay,az]);refine wpAnyH_done zK ?_ _;go_wp2_with fail;replace a:=a.other (p:=⟨g+1,17,Y⟩) zP (V H l.ring);replace A:=A.other (p:=⟨g+1,17,Y⟩) zP (V H l.ring);replace d:=d.other (p:=⟨g+1,17,Y⟩) zS (V H l.ring);replace b:=b.stored 17 (V H l.ring);replace b:Bk _ _ _ (lyC ⟨c,0,1,2,3,4,l.owner,l.resv,l.deque,l.ring,0,0,0,0,0,0,0⟩):=b;replace B:=bu B (p:=⟨g+1,17,Y⟩) zP (V H l.ring);clear q0 n u j m q x s k z C y;generalize (E.setCell ⟨g+1,17,Y⟩ (V H l.ring))=v at *;clear E;obtain⟨q0,n,u,j,m,q,x,s,k⟩:=cN a;have z:=b.cell 18;have C:=b.free 18;have y:=d.cell 0;simp at q0 n u j m q x s k z y;refine(fB c.tasks 4 l.task l.cell g _ d G.out.cell M M M).mono ?_;rintro e E ⟨rfl,D,f⟩;replace a:=f.aw _ _ _ M a;replace A:=f.aw _ _ _ M A;replace b:=f.aw _ _ _ M b;replace B:=f.below _ M B;replace d:=D;clear f D q0 n u j m q x s k z C y v;obtain⟨q0,n,u,j,m,q,x,s,k⟩:=cN a;have z:=b.cell 18;have C:=b.free 18;have y:=d.cell 0;simp at q0 n u j m q x s k z y;go_wp2_with fail;replace a:=a.other (p:=⟨g+1,18,Y⟩) zP (V H l.task);replace A:=A.other (p:=⟨g+1,18,Y⟩) zP (V H l.task);replace d:=d.other (p:=⟨g+1,18,Y⟩) zS (V H l.task);replace b:=b.stored 18 (V H l.task);replace b:Bk _ _ _ (lyC ⟨c,0,1,2,3,4,l.owner,l.resv,l.deque,l.ring,l.task,0,0,0,0,0,0⟩):=b;replace B:=bu B (p:=⟨g+1,18,Y⟩) zP (V H l.task);clear q0 n u j m q x s k z C y;generalize (E.setCell ⟨g+1,18,Y⟩ (V H l.task))=v at *;clear E;obtain⟨q0,n,u,j,m,q,x,s,k⟩:=cN a;have z:=b.cell 19;have C:=b.free 19;have y:=d.cell 0;simp at q0 n u j m q x s k z y;refine(fB c.cells 1 l.cell l.map g _ d G.out.map M M M).mono ?_;rintro e E ⟨rfl,D,f⟩;replace a:=f.aw _ _ _ M a;replace A:=f.aw _ _ _ M A;replace b:=f.aw _ _ _ M b;replace B:=f.below _ M B;replace d:=D;clear f D q0 n u j m q x s k z C y v;obtain⟨q0,n,u,j,m,q,x,s,k⟩:=cN a;have z:=b.cell 19;have C:=b.free 19;have y:=d.cell 0;simp at q0 n u j m q x s k z y;go_wp2_with fail;replace a:=a.other (p:=⟨g+1,19,Y⟩) zP (V H l.cell);replace A:=A.other (p:=⟨g+1,19,Y⟩) zP (V H l.cell);replace d:=d.other (p:=⟨g+1,19,Y⟩) zS (V H l.cell);replace b:=b.stored 19 (V H l.cell);replace b:Bk _ _ _ (lyC ⟨c,0,1,2,3,4,l.owner,l.resv,l.deque,l.ring,l.task,l.cell,0,0,0,0,0⟩):=b;replace B:=bu B (p:=⟨g+1,19,Y⟩) zP (V H l.cell);clear q0 n u j m q x s k z C y;generalize (E.setCell ⟨g+1,19,Y⟩ (V H l.cell))=v at *;clear E;obtain⟨q0,n,u,j,m,q,x,s,k⟩:=cN a;have z:=b.cell 20;have C:=b.free 20;have y:=d.cell 0;simp at q0 n u j m q x s k z y;refine(fB c.maps (2+c.buckets) l.map l.stack g _ d G.out.stack M M G.out.m1).mono ?_;rintro e E ⟨rfl,D,f⟩;replace a:=f.aw _ _ _ M a;replace A:=f.aw _ _ _ M A;replace b:=f.aw _ _ _ M b;replace B:=f.below _ M B;replace d:=D;clear f D q0 n u j m q x s k z C y v;obtain⟨q0,n,u,j,m,q,x,s,k⟩:=cN a;have z:=b.cell 20;have C:=b.free 20;have y:=d.cell 0;simp at q0 n u j m q x s k z y;go_wp2_with fail;replace a:=a.other (p:=⟨g+1,20,Y⟩) zP (V H l.map);replace A:=A.other (p:=⟨g+1,20,Y⟩) zP (V H l.map);replace d:=d.other (p:=⟨g+1,20,Y⟩) zS (V H l.map);replace b:=b.stored 20 (V H l.map);replace b:Bk _ _ _ (lyC ⟨c,0,1,2,3,4,l.owner,l.resv,l.deque,l.ring,l.task,l.cell,l.map,0,0,0,0⟩):=b;replace B:=bu B (p:=⟨g+1,20,Y⟩) zP (V H l.map);clear q0 n u j m q x s k z C y;generalize (E.setCell ⟨g+1,20,Y⟩ (V H l.map))=v at *;clear E;obtain⟨q0,n,u,j,m,q,x,s,k⟩:=cN a;have z:=b.cell 21;have C:=b.free 21;have y:=d.cell 0;simp at q0 n u j m q x s k z y;refine(fB c.stacks (1+c.slots) l.stack l.chan g _ d G.out.chan M M G.out.m2).mono ?_;rintro e E ⟨rfl,D,f⟩;replace a:=f.aw _ _ _ M a;replace A:=f.aw _ _ _ M A;replace b:=f.aw _ _ _ M b;replace B:=f.below _ M B;replace d:=D;clear f D q0 n u j m q x s k z C y v;obtain⟨q0,n,u,j,m,q,x,s,k⟩:=cN a;have z:=b.cell 21;have C:=b.free 21;have y:=d.cell 0;simp at q0 n u j m q x s k z y;go_wp2_with fail;replace a:=a.other (p:=⟨g+1,21,Y⟩) zP (V H l.stack);replace A:=A.other (p:=⟨g+1,21,Y⟩) zP (V H l.stack);replace d:=d.other (p:=⟨g+1,21,Y⟩) zS (V H l.stack);replace b:=b.stored 21 (V H l.stack);replace b:Bk _ _ _ (lyC ⟨c,0,1,2,3,4,l.owner,l.resv,l.deque,l.ring,l.task,l.cell,l.map,l.stack,0,0,0⟩):=b;replace B:=bu B (p:=⟨g+1,21,Y⟩) zP (V H l.stack);clear q0 n u j m q x s k z C y;generalize (E.setCell ⟨g+1,21,Y⟩ (V H l.stack))=v at *;clear E;obtain⟨q0,n,u,j,m,q,x,s,k⟩:=cN a;have z:=b.cell 22;have C:=b.free 22;have y:=d.cell 0;simp at q0 n u j m q x s k z y;refine(fB c.chans 2 l.chan l.node g _ d G.out.node M M M).mono ?_;rintro e E ⟨rfl,D,f⟩;replace a:=f.aw _ _ _ M a;replace A:=f.aw _ _ _ M A;replace b:=f.aw _ _ _ M b;replace B:=f.below _ M B;replace d:=D;clear f D q0 n u j m q x s k z C y v;obtain⟨q0,n,u,j,m,q,x,s,k⟩:=cN a;have z:=b.cell 22;have C:=b.free 22;have y:=d.cell 0;simp at q0 n u j m q x s k z y;go_wp2_with fail;replace a:=a.other (p:=⟨g+1,22,Y⟩) zP (V H l.chan);replace A:=A.other (p:=⟨g+1,22,Y⟩) zP (V H l.chan);replace d:=d.other (p:=⟨g+1,22,Y⟩) zS (V H l.chan);replace b:=b.stored 22 (V H l.chan);replace b:Bk _ _ _ (lyC ⟨c,0,1,2,3,4,l.owner,l.resv,l.deque,l.ring,l.task,l.cell,l.map,l.stack,l.chan,0,0⟩):=b;replace B:=bu B (p:=⟨g+1,22,Y⟩) zP (V H l.chan);clear q0 n u j m q x s k z C y;generalize (E.setCell ⟨g+1,22,Y⟩ (V H l.chan))=v at *;clear E;obtain⟨q0,n,u,j,m,q,x,s,k⟩:=cN a;have z:=b.cell 23;have C:=b.free 23;have y:=d.cell 0;simp at q0 n u j m q x s k z y;refine(fB c.nodes 8 l.node l.size g _ d G.out.size M M M).mono ?_;rintro e E ⟨rfl,D,f⟩;replace a:=f.aw _ _ _ M a;replace A:=f.aw _ _ _ M A;replace b:=f.aw _ _ _ M b;replace B:=f.below _ M B;replace d:=D;clear f D q0 n u j m q x s k z C y v;obtain⟨q0,n,u,j,m,q,x,s,k⟩:=cN a;have z:=b.cell 23;have C:=b.free 23;have y:=d.cell 0;simp at q0 n u j m q x s k z y;have t3:=b.free 24;have qf:=b.cell 24
 simp at qf;have Q:=aj ((b.stored 23 (V H l.node)).stored 24 (V H l.size));replace Q:Hid (Bk ((E.setCell ⟨g+1,23,Y⟩ (V H l.node)).setCell ⟨g+1,24,Y⟩ (V H l.size)) (g+1) 34 (lyC ⟨c,0,1,2,3,4,l.owner,l.resv,l.deque,l.ring,l.task,l.cell,l.map,l.stack,l.chan,l.node,l.size⟩)):=Q;have qd:=aj ((A.other (p:=⟨g+1,23,Y⟩) zP (V H l.node)).other (p:=⟨g+1,24,Y⟩) zP (V H l.size));have qe:=aj (bu (bu B (p:=⟨g+1,23,Y⟩) zP (V H l.node)) (p:=⟨g+1,24,Y⟩) zP (V H l.size));have U:⟨c,0,1,2,3,4,l.owner,l.resv,l.deque,l.ring,l.task,l.cell,l.map,l.stack,l.chan,l.node,l.size⟩=l:=by rw[HLE.out];rfl
 have HLL:=aj U;clear b A B U;go_wp2_with (first
  | (refine aM Z 34 (.tmp 6) Z (g+1) Z 34 (lyC ⟨c,0,1,2,3,4,l.owner,l.resv,l.deque,l.ring,l.task,l.cell,l.map,l.stack,l.chan,l.node,l.size⟩) (0,0) _ Q.out aK Z zK ?_)
  | (refine aI Z 34 (.tmp 2) (.tmp 107) Z Z (w.heap.size+1) (lyC ⟨c,0,1,2,3,4,l.owner,l.resv,l.deque,l.ring,l.task,l.cell,l.map,l.stack,l.chan,l.node,l.size⟩) Z Z 34 (lyC Ac) qd.out zK Z (by simp[aB]) ?_))
 refine aS (v:=.tuple #[lyV ⟨c,0,1,2,3,4,l.owner,l.resv,l.deque,l.ring,l.task,l.cell,l.map,l.stack,l.chan,l.node,l.size⟩,V H 0]) (results_cell_tmp (p:=2) (t:=3) (ty:=34) Z _ _ (w.heap.size+1) 34 (lyC ⟨c,0,1,2,3,4,l.owner,l.resv,l.deque,l.ring,l.task,l.cell,l.map,l.stack,l.chan,l.node,l.size⟩) (0,0) _ _ Z Z (setRow_heap _ _ _ _ _ _ qd.out) aK Z zK) Z ⟨by rw[HLL.out],eA qe.out M _⟩
structure eu (l:Ly):Prop where
 x1:0<=l.alive/\l.alive<=1000000
 x2:0<=l.owner/\l.owner<=1000000
 x3:0<=l.resv/\l.resv<=1000000
 x4:0<=l.deque/\l.deque<=1000000
 x5:0<=l.task/\l.task<=1000000
 x6:0<=l.cell/\l.cell<=1000000
 x7:0<=l.map/\l.map<=1000000
 x8:0<=l.stack/\l.stack<=1000000
 x9:0<=l.chan/\l.chan<=1000000
 x10:0<=l.node/\l.node<=1000000
 y1:0<=l.c.aO/\l.c.aO<=8
 y2:0<=l.c.tasks/\l.c.tasks<=64
 y3:0<=l.c.cells/\l.c.cells<=16
 y4:0<=l.c.maps/\l.c.maps<=8
 y5:0<=l.c.buckets/\l.c.buckets<=64
 y6:0<=l.c.stacks/\l.c.stacks<=8
 y7:0<=l.c.slots/\l.c.slots<=8
 y8:0<=l.c.chans/\l.c.chans<=8
 y9:0<=l.c.nodes/\l.c.nodes<=1000
theorem zA(c:Cf)(h:c.can):eu (yp c):=by
 have b:=Jr c h;obtain⟨w,g,z,o,s,u,n,v,y,k,q,x⟩:=b.b0;have l:1<=c.aO/\c.aO<=8:=h.1.1 0 M;have B:1<=c.buckets/\c.buckets<=64:=h.1.1 1 M;have f:1<=c.slots/\c.slots<=8:=h.1.1 2 M;have d:1<=c.tasks/\c.tasks<=64:=h.1.1 3 M;have j:0<=c.cells/\c.cells<=16:=h.1.1 4 M;have t:0<=c.maps/\c.maps<=8:=h.1.1 5 M;have i:0<=c.stacks/\c.stacks<=8:=h.1.1 6 M;have m:0<=c.chans/\c.chans<=8:=h.1.1 7 M;have A:=h.2;have e:(yp c).c=c:=Z;have a:(yp c).alive=4:=Z;constructor;all_goals (try rw[e])
 all_goals (try rw[a])
 all_goals omega
def da(f m e r i:Int):Int:=if 0<=r/\r<m/\0<=i/\i<e then f+r*e+i else -1
theorem il(f m e r i:Int)(w:W)(b:0<=f)(g:f<=1000000)(c:m<=1000)(d:e<=1000):U ao 47 #[V H f,V H m,V H e,V H r,V H i] w (oK (da f m e r i) w):=by
 unfold da;split
 ·rename_i h;have a:=AK r e 1000 1000 M M M M;exact J5 f m e r i (r*e) w Z h.1 h.2.1 h.2.2.1 h.2.2.2 a.1 M b M M
 rename_i h;exact Hf f m e r i w h
def vV(l:Ly)(a b:Int):Int:=da (l.resv) (l.c.aO) (3) (a) (b)
theorem Cc(l:Ly)(a b:Int)(w:W)(f:eu l):U ao 173 #[lyV l,V H a,V H b] w (gy (vV l a b) w):=by
 obtain⟨m,h,s,q,k,j,c,C,o,A,u,i,B,n,g,z,y,x,d⟩:=f;unfold vV;go_enter func173,ntmps173;go_wp2_with fail;refine(il (l.resv) (l.c.aO) (3) (a) (b) _ M M M M).mono ?_;rintro e t ⟨rfl,rfl⟩;generalize da (l.resv) (l.c.aO) (3) (a) (b)=v at *;go_wp2;go_ret;exact⟨rfl,aA bS _⟩
def ft(l:Ly)(a b:Int):Int:=if 1<b then -1 else da (l.map) (l.c.maps) (2+l.c.buckets) (a) (b)
theorem pU(l:Ly)(a b:Int)(w:W)(f:eu l):U ao 81 #[lyV l,V H a,V H b] w (gy (ft l a b) w):=by
 obtain⟨o,j,u,t,n,m,d,E,s,C,y,k,D,q,i,B,A,z,g⟩:=f;by_cases h:1<b
 ·have e:ft l a b= -1:=by unfold ft;rw[if_pos h]
  rw[e];have c:decide (1<b)=O:=zP;go_enter func81,ntmps81;go_wp2;go_ret;exact⟨Z,aA bS _⟩
 have e:ft l a b=da (l.map) (l.c.maps) (2+l.c.buckets) (a) (b):=by unfold ft;rw[if_neg h]
 rw[e];have c:decide (1<b)=X:=zP;go_enter func81,ntmps81;go_wp2_with fail;refine(il (l.map) (l.c.maps) (2+l.c.buckets) (a) (b) _ M M M M).mono ?_;rintro e x ⟨rfl,rfl⟩;generalize da (l.map) (l.c.maps) (2+l.c.buckets) (a) (b)=v at *;go_wp2;go_ret;exact⟨rfl,aA bS _⟩
def dM(l:Ly)(a b:Int):Int:=if b<0\/l.c.buckets<=b then -1 else da (l.map) (l.c.maps) (2+l.c.buckets) (a) (2+b)
theorem ox(l:Ly)(a b:Int)(w:W)(f:eu l):U ao 24 #[lyV l,V H a,V H b] w (gy (dM l a b) w):=by
 obtain⟨s,m,y,x,q,o,i,K,u,E,A,n,F,t,k,D,C,B,j⟩:=f;by_cases d:b<0
 ·have e:dM l a b= -1:=by unfold dM;rw[if_pos (.inl d)]
  rw[e];have c:decide (b<0)=O:=zP;go_enter func24,ntmps24;go_wp2;go_ret;exact⟨Z,aA bS _⟩
 have c:decide (b<0)=X:=zP;by_cases g:l.c.buckets<=b
 ·have e:dM l a b= -1:=by unfold dM;rw[if_pos (.inr g)]
  rw[e];have h:decide (l.c.buckets<=b)=O:=zP;go_enter func24,ntmps24;go_wp2;go_ret;exact⟨Z,aA bS _⟩
 have e:dM l a b=da (l.map) (l.c.maps) (2+l.c.buckets) (a) (2+b):=by unfold dM;rw[if_neg M]
 rw[e];have h:decide (l.c.buckets<=b)=X:=zP;go_enter func24,ntmps24;go_wp2_with fail;refine(il (l.map) (l.c.maps) (2+l.c.buckets) (a) (2+b) _ M M M M).mono ?_;rintro e z ⟨rfl,rfl⟩;generalize da (l.map) (l.c.maps) (2+l.c.buckets) (a) (2+b)=v at *;go_wp2;go_ret;exact⟨rfl,aA bS _⟩
def fj(l:Ly)(a:Int):Int:=da (l.stack) (l.c.stacks) (1+l.c.slots) (a) 0
theorem I7(l:Ly)(a:Int)(w:W)(f:eu l):U ao 53 #[lyV l,V H a] w (gy (fj l a) w):=by
 obtain⟨k,g,q,o,j,i,b,B,n,z,t,h,A,m,d,y,x,u,c⟩:=f;unfold fj;go_enter func53,ntmps53;go_wp2_with fail;refine(il (l.stack) (l.c.stacks) (1+l.c.slots) (a) (0) _ M M M M).mono ?_;rintro e s ⟨rfl,rfl⟩;generalize da (l.stack) (l.c.stacks) (1+l.c.slots) (a) (0)=v at *;go_wp2;go_ret;exact⟨rfl,aA bS _⟩
def dQ(l:Ly)(a b:Int):Int:=if b<0\/l.c.slots<=b then -1 else da (l.stack) (l.c.stacks) (1+l.c.slots) (a) (1+b)
theorem Mg(l:Ly)(a b:Int)(w:W)(f:eu l):U ao 127 #[lyV l,V H a,V H b] w (gy (dQ l a b) w):=by
 obtain⟨s,m,y,x,q,o,i,K,u,E,A,n,F,t,k,D,C,B,j⟩:=f;by_cases d:b<0
 ·have e:dQ l a b= -1:=by unfold dQ;rw[if_pos (.inl d)]
  rw[e];have c:decide (b<0)=O:=zP;go_enter func127,ntmps127;go_wp2;go_ret;exact⟨Z,aA bS _⟩
 have c:decide (b<0)=X:=zP;by_cases g:l.c.slots<=b
 ·have e:dQ l a b= -1:=by unfold dQ;rw[if_pos (.inr g)]
  rw[e];have h:decide (l.c.slots<=b)=O:=zP;go_enter func127,ntmps127;go_wp2;go_ret;exact⟨Z,aA bS _⟩
 have e:dQ l a b=da (l.stack) (l.c.stacks) (1+l.c.slots) (a) (1+b):=by unfold dQ;rw[if_neg M]
 rw[e];have h:decide (l.c.slots<=b)=X:=zP;go_enter func127,ntmps127;go_wp2_with fail;refine(il (l.stack) (l.c.stacks) (1+l.c.slots) (a) (1+b) _ M M M M).mono ?_;rintro e z ⟨rfl,rfl⟩;generalize da (l.stack) (l.c.stacks) (1+l.c.slots) (a) (1+b)=v at *;go_wp2;go_ret;exact⟨rfl,aA bS _⟩
def et(l:Ly)(a:Int):Int:=da (l.chan) (l.c.chans) (2) (a) 0
theorem sx(l:Ly)(a:Int)(w:W)(f:eu l):U ao 55 #[lyV l,V H a] w (gy (et l a) w):=by
 obtain⟨k,g,q,o,j,i,b,B,n,z,t,h,A,m,d,y,x,u,c⟩:=f;unfold et;go_enter func55,ntmps55;go_wp2_with fail;refine(il (l.chan) (l.c.chans) (2) (a) (0) _ M M M M).mono ?_;rintro e s ⟨rfl,rfl⟩;generalize da (l.chan) (l.c.chans) (2) (a) (0)=v at *;go_wp2;go_ret;exact⟨rfl,aA bS _⟩
def eN(l:Ly)(a:Int):Int:=da (l.chan) (l.c.chans) (2) (a) 1
theorem BZ(l:Ly)(a:Int)(w:W)(f:eu l):U ao 83 #[lyV l,V H a] w (gy (eN l a) w):=by
 obtain⟨k,g,q,o,j,i,b,B,n,z,t,h,A,m,d,y,x,u,c⟩:=f;unfold eN;go_enter func83,ntmps83;go_wp2_with fail;refine(il (l.chan) (l.c.chans) (2) (a) (1) _ M M M M).mono ?_;rintro e s ⟨rfl,rfl⟩;generalize da (l.chan) (l.c.chans) (2) (a) (1)=v at *;go_wp2;go_ret;exact⟨rfl,aA bS _⟩
def nodeAt(l:Ly)(a b:Int):Int:=if a<1 then -1 else da (l.node) (l.c.nodes) (8) (a-1) (b)
theorem dE(l:Ly)(a b:Int)(w:W)(f:eu l)(m:a<=9223372036854775807):U ao 22 #[lyV l,V H a,V H b] w (gy (nodeAt l a b) w):=by
 obtain⟨q,j,x,u,o,n,d,F,t,D,z,k,E,s,i,C,B,A,g⟩:=f;by_cases h:a<1
 ·have e:nodeAt l a b= -1:=by unfold nodeAt;rw[if_pos h]
  rw[e];have c:decide (a<1)=O:=zP;go_enter func22,ntmps22;go_wp2;go_ret;exact⟨Z,aA bS _⟩
 have e:nodeAt l a b=da (l.node) (l.c.nodes) (8) (a-1) (b):=by unfold nodeAt;rw[if_neg h]
 rw[e];have c:decide (a<1)=X:=zP;go_enter func22,ntmps22;go_wp2_with fail;refine(il (l.node) (l.c.nodes) (8) (a-1) (b) _ M M M M).mono ?_;rintro e y ⟨rfl,rfl⟩;generalize da (l.node) (l.c.nodes) (8) (a-1) (b)=v at *;go_wp2;go_ret;exact⟨rfl,aA bS _⟩
end
inductive Loc where
 | era | free | resv (s i:Int) | msize | mcount | bucket (b:Int) | top | slot | head | tail | nd (n i:Int)
deriving DecidableEq
structure LAc where
 k:Int
 c:Loc
 o:Int
 v:Int
deriving DecidableEq
abbrev cq:=List (Int × Int)
abbrev Log:=List (Int × Bool)
def idxOf(n:Int):Int:=n%65536
def dH(n:Int):Bool:=n / 65536%2==1
def kH(n:Int):Int:=n / 131072%268435456
def dC(x a:Int):Int:=dL (a%65536) X ((kH x+1)%268435456)
def aV(n:Int):Int:=dL n X 0
def eQ(n:Int):Int:=dL n O 0
def ld(v a b:Int):Int:=v%4294967296+a%4*4294967296+b%268435456*17179869184
def mE(n:Int):Int:=n%4294967296
def ji(n:Int):Int:=n / 4294967296%4
def Kw(n:Int):Int:=n / 17179869184%268435456
def rv:Nat->Nat->Nat
 | 0,_=>0
 | i+1,x=>(x%2)*2 ^ i+rv i (x / 2)
def nt(x:Int):Int:=(rv 16 (x%65536).toNat:Nat)
def eY(k:Int):Int:=2*nt k+1
def pw(b:Int):Int:=2*nt b
structure Pz where
 eras:List Int
 gone:cq
 made:Nat
deriving DecidableEq
def Pz.got(s:Pz):Pz:={ s with made:=s.made+1 }
inductive Sub where
 | g1 (i:Nat) (c:Loc) | g2 (i:Nat) (c:Loc) (v:Int) | g3 (i:Nat) (c:Loc) (e:Int)
 | t1 | t2 (fr:Int) | t3 (fr lk:Int) | t4 (n:Int) (p:Nat) | t5 (n b:Int) (p:Nat)
 | v1 (n:Int) | v2 (n fr:Int) | v3 (n fr:Int)
 | cl (i:Nat)
 | r1 (n:Int) | r2 (n e:Int)
deriving DecidableEq
inductive Ret where
 | gd (v:Int) (p:Nat) | tk (n:Int) (p:Nat) (ok:Bool) | un
def Sub.acc(d:Int):Sub->LAc
 | .g1 _ c=>⟨1,c,0,0⟩
 | .g2 _ _ _=>⟨1,.era,0,0⟩
 | .g3 i _ e=>⟨2,.resv d i,0,e⟩
 | .t1=>⟨1,.free,0,0⟩
 | .t2 a=>⟨1,.nd (idxOf a) 7,0,0⟩
 | .t3 a f=>⟨3,.free,a,dC a f⟩
 | .t4 _ _=>⟨1,.era,0,0⟩
 | .t5 n b _=>⟨2,.nd n 6,0,b⟩
 | .v1 _=>⟨1,.free,0,0⟩
 | .v2 n a=>⟨2,.nd n 7,0,idxOf a⟩
 | .v3 n a=>⟨3,.free,a,dC a n⟩
 | .cl i=>⟨2,.resv d i,0,0⟩
 | .r1 _=>⟨1,.era,0,0⟩
 | .r2 _ _=>⟨4,.era,0,1⟩
inductive SX where
 | go (x:Sub) (s:Pz) | ret (r:Ret) (s:Pz) | stuck
def qN(a:List Int):Nat->Nat->Option Nat
 | 0,_=>Y
 | f+1,i=>if a.getD i 0≠0 then J i else qN a f (i+1)
def df(s:Pz)(i:Nat):SX:=match qN s.eras (3-i) i with
 | some j=>.go (.cl j) s
 | none=>.ret .un s
def Sub.stp(th:Int)(s:Pz):Sub->Int × Bool->SX
 | .g1 i c,r=>.go (.g2 i c r.1) s.got
 | .g2 i c v,r=>if r.1=s.eras.getD i 0 then .ret (.gd v (s.made-1)) s.got else .go (.g3 i c r.1) s.got
 | .g3 i c e,_=>.go (.g1 i c) { s.got with eras:=s.eras.set i e }
 | .t1,r=>if idxOf r.1=0 then .ret (.tk 0 s.made X) s.got else .go (.t2 r.1) s.got
 | .t2 fr,r=>.go (.t3 fr r.1) s.got
 | .t3 fr _,r=>if r.2 then .go (.t4 (idxOf fr) s.made) s.got else .go .t1 s.got
 | .t4 n p,r=>.go (.t5 n r.1 p) s.got
 | .t5 n _ p,_=>.ret (.tk n p O) s.got
 | .v1 n,r=>.go (.v2 n r.1) s.got
 | .v2 n fr,_=>.go (.v3 n fr) s.got
 | .v3 n _,r=>if r.2 then .ret .un s.got else .go (.v1 n) s.got
 | .cl i,_=>df { s.got with eras:=s.eras.set i 0 } (i+1)
 | .r1 n,r=>.go (.r2 n r.1) s.got
 | .r2 n e,_=>if (s.gone.length:Int)+1<th then .ret .un { s.got with gone:=s.gone++[(n,e)] } else .stuck
structure LOp where
 kind:Int
 h:Int
 o:Int
 v:Int
deriving DecidableEq
inductive FK where
 | get | put (n:Int) | del | fin (p:Nat)
deriving DecidableEq
structure dx where
 val:Int
 is:Bool
 bc:Nat
 node:Int
deriving DecidableEq
structure Fp where
 a:Nat
 b:Nat
 c:Nat
 prev:Int
 cur:Int
 pt:Nat
deriving DecidableEq
inductive LK where
 | fh (k:FK) | fn (k:FK) (f:Fp) | fr (k:FK) (f:Fp) | out (o:dx) | clr (o:dx) | pt (prev cur:Int) | dc (n:Int) (o:dx)
deriving DecidableEq
inductive LPh where
 | sub (x:Sub) (k:LK)
 | fs (k:FK) (f:Fp) (next:Int) (told:Nat)
 | fo (k:FK) (f:Fp) (next:Int) (told:Nat)
 | fc (k:FK) (f:Fp) (nx:Int)
 | gv (n:Int) (p:Nat)
 | p1 (n prev cur:Int) | p2 (n prev cur:Int) | p0 (n prev cur:Int) | pc (n prev cur:Int)
 | dm (prev cur next:Int) | du (prev cur next:Int) (p:Nat)
deriving DecidableEq
inductive LX where
 | go (x:LPh) (s:Pz) | out (o:dx) (s:Pz) | stuck
def LPh.acc(c:Int)(op:LOp):LPh->LAc
 | .sub x _=>x.acc c
 | .fs _ f _ _=>⟨1,.nd f.prev 0,0,0⟩
 | .fo _ f _ _=>⟨1,.nd f.cur 1,0,0⟩
 | .fc _ f d=>⟨3,.nd f.prev 0,aV f.cur,aV d⟩
 | .gv n _=>⟨1,.nd n 2,0,0⟩
 | .p1 n _ _=>⟨2,.nd n 1,0,op.o⟩
 | .p2 n _ _=>⟨2,.nd n 2,0,op.v⟩
 | .p0 n _ a=>⟨2,.nd n 0,0,aV a⟩
 | .pc n b a=>⟨3,.nd b 0,aV a,aV n⟩
 | .dm _ a next=>⟨3,.nd a 0,next,eQ (idxOf next)⟩
 | .du b a next _=>⟨3,.nd b 0,aV a,aV (idxOf next)⟩
def SX.lS(k:LK)(f:Ret->Pz->LX):SX->LX
 | .go x s=>.go (.sub x k) s
 | .ret r s=>f r s
 | .stuck=>.stuck
def fF(o:dx)(s:Pz):LX:=(df s 0).lS (.out o) λ_ s=>.out o s
def retL(n:Int)(o:dx)(s:Pz):LX:=.go (.sub (.r1 n) (.out o)) s
def fa(n:Int)(o:dx)(s:Pz):LX:=(df s 0).lS (.dc n o) λ_ s=>retL n o s
def iI(op:LOp)(k:FK)(s:Pz):LX:=.go (.sub (.g1 0 (.nd op.h 0)) (.fh k)) s
def iJ(op:LOp)(k:FK)(b:Bool)(c a next:Int)(pt:Nat)(s:Pz):LX:=match k with
 | .get=>if b then .go (.gv a pt) s else fF ⟨0,X,pt,0⟩ s
 | .put n=>if b then(if n≠0 then .go (.sub (.v1 n) (.clr ⟨0,X,pt,a⟩)) s else fF ⟨0,X,pt,a⟩ s)
   else if n=0 then .go (.sub .t1 (.pt c a)) s else .go (.p0 n c a) s
 | .del=>if b then .go (.dm c a next) s else fF ⟨0,X,pt,0⟩ s
 | .fin p=>fF ⟨0,O,p,0⟩ s
def eR(op:LOp)(k:FK)(f:Fp)(s:Pz):LX:=
 if f.cur=0 then iJ op k X f.prev 0 0 f.pt s else .go (.sub (.g1 f.b (.nd f.cur 0)) (.fn k f)) s
def ic(op:LOp)(r:Ret)(s:Pz):LK->LX
 | .fh k=>match r with
  | .gd v p=>eR op k ⟨0,1,2,op.h,idxOf v,p⟩ s
  | _=>.stuck
 | .fn k f=>match r with
  | .gd v p=>.go (.fs k f v p) s
  | _=>.stuck
 | .fr k f=>eR op k f s
 | .out o=>.out o s
 | .clr o=>fF o s
 | .pt a b=>match r with
  | .tk n _ O=>.go (.p1 n a b) s
  | _=>.stuck
 | .dc n o=>retL n o s
def LPh.stp(th:Int)(op:LOp)(s:Pz):LPh->Int × Bool->LX
 | .sub x k,r=>(x.stp th s r).lS k λt s=>ic op t s k
 | .fs k f next told,r=>if r.1≠aV f.cur then iI op k s.got else .go (.fo k f next told) s.got
 | .fo k f next told,r=>
  if dH next then .go (.fc k f (idxOf next)) s.got
  else if r.1<op.o then eR op k ⟨f.b,f.c,f.a,f.cur,idxOf next,told⟩ s.got
  else if r.1=op.o then iJ op k O f.prev f.cur next told s.got
  else iJ op k X f.prev f.cur 0 (s.made-1) s.got
 | .fc k f nx,r=>if r.2 then .go (.sub (.r1 f.cur) (.fr k ⟨f.b,f.a,f.c,f.prev,nx,s.made⟩)) s.got else iI op k s.got
 | .gv n p,r=>fF ⟨r.1,O,p,n⟩ s.got
 | .p1 n prev cur,_=>.go (.p2 n prev cur) s.got
 | .p2 n prev cur,_=>.go (.p0 n prev cur) s.got
 | .p0 n prev cur,_=>.go (.pc n prev cur) s.got
 | .pc n prev cur,r=>if r.2 then fF ⟨0,O,s.made,n⟩ s.got else iI op (.put n) s.got
 | .dm prev cur next,r=>if r.2 then .go (.du prev cur next s.made) s.got else iI op .del s.got
 | .du prev cur next p,r=>if r.2 then fa cur ⟨0,O,p,0⟩ s.got else iI op (.fin p) s.got
def cW(op:LOp)(g:cq):LX:=match op.kind with
 | 1=>iI op .get ⟨[0,0,0],g,0⟩
 | 2=>iI op (.put 0) ⟨[0,0,0],g,0⟩
 | 3=>iI op .del ⟨[0,0,0],g,0⟩
 | _=>.stuck
structure MOp where
 kind:Int
 a:Int
 b:Int
deriving DecidableEq
inductive MPh where
 | m1
 | m2 (sz b:Int)
 | m3 (sz:Int)
 | ml (dm:Bool) (sz:Int) (m:Nat) (lo:LOp) (x:LPh) (s:Pz)
 | m4 (sz n:Int)
 | m5 (sz:Int) (o:dx)
 | m6 (sz:Int) (o:dx)
 | m7 (o:dx)
deriving DecidableEq
structure Out where
 val:Int
 is:Bool
 bc:Int
 gone:cq
deriving DecidableEq
inductive MX where
 | go (x:MPh) (made:Nat) (g:cq) | out (o:Out) | stuck
def MPh.acc(d:Int):MPh->LAc
 | .m1=>⟨1,.msize,0,0⟩
 | .m2 _ b=>⟨1,.bucket b,0,0⟩
 | .m3 _=>⟨1,.bucket 0,0,0⟩
 | .ml _ _ _ c x _=>x.acc d c
 | .m4 _ n=>⟨3,.bucket 1,0,aV n⟩
 | .m5 _ _=>⟨4,.mcount,0,1⟩
 | .m6 a _=>⟨3,.msize,a,2*a⟩
 | .m7 _=>⟨4,.mcount,0,-1⟩
def LX.inM(dm:Bool)(sz:Int)(m:Nat)(lo:LOp)(f:dx->Pz->MX):LX->MX
 | .go x s=>.go (.ml dm sz m lo x s) (m+s.made) s.gone
 | .out o s=>f o s
 | .stuck=>.stuck
def yn(o:dx)(g:cq):MX:=.out ⟨o.val,o.is,o.bc,g⟩
def gB(op:MOp)(sz:Int)(o:dx)(made:Nat)(g:cq):MX:=
 if o.is=X then yn o g
 else if op.kind=2 then .go (.m5 sz o) made g
 else if op.kind=3 then .go (.m7 o) made g
 else yn o g
def iH(op:MOp)(sz n:Int)(made:Nat)(g:cq):MX:=
 if 1<=n/\n<=40 then
  (cW ⟨op.kind,n,eY op.a,op.b⟩ g).inM X sz made ⟨op.kind,n,eY op.a,op.b⟩ λ_ _=>.stuck
 else .stuck
def MPh.stp(th bk:Int)(op:MOp)(made:Nat)(g:cq):MPh->Int × Bool->MX
 | .m1,r=>if r.1=1\/r.1=2/\bk=2 then .go (.m2 r.1 (op.a%r.1)) (made+1) g else .stuck
 | .m2 sz b,r=>if idxOf r.1≠0 then iH op sz (idxOf r.1) (made+1) g else if b=1 then .go (.m3 sz) (made+1) g else .stuck
 | .m3 sz,r=>if idxOf r.1=0\/40<idxOf r.1 then .stuck else
   let lo:LOp:=⟨2,idxOf r.1,pw 1,0⟩
   (cW lo g).inM O sz (made+1) lo λ_ _=>.stuck
 | .ml dm sz m lo x s,r=>(x.stp th lo s r).inM dm sz m lo λo a=>
   if dm then .go (.m4 sz o.node) (m+a.made) a.gone
   else gB op sz { o with bc:=m+o.bc } (m+a.made) a.gone
 | .m4 sz n,_=>iH op sz n (made+1) g
 | .m5 sz o,r=>if r.1>=2*sz/\sz<bk then .go (.m6 sz o) (made+1) g else yn o g
 | .m6 _ o,_=>yn o g
 | .m7 o,_=>yn o g
inductive EK where
 | ut | ug (p:Nat) | og | oc (o:Out) | orr (n:Int) (o:Out) | od (o:Out)
deriving DecidableEq
inductive EPh where
 | sub (x:Sub) (k:EK)
 | u1 (n:Int) | u2 (n:Int) | u3 (n dq:Int) | u4 (n dq:Int) | u5 (n:Int) | u6 (n w:Int)
 | u7 (j:Nat) (n w:Int) (p:Nat) | u8 (n w:Int) (p:Nat) | u9 (n w:Int) (p:Nat)
 | o2 (dq:Int) | o3 (dq below:Int) | o4 (n:Int) (p:Nat) | o5 | o6 (w:Int)
deriving DecidableEq
inductive EX where
 | go (x:EPh) (s:Pz) | out (o:Out) | stuck
def fS(a w:Int):Int:=ld a 1 (Kw w+1)
def noW(w:Int):Int:=ld 0 0 (Kw w+1)
def kX(w:Int):Int:=ld (mE w) 2 (Kw w)
def EPh.acc(c a:Int):EPh->LAc
 | .sub x _=>x.acc c
 | .u1 n=>⟨2,.nd n 1,0,a⟩
 | .u2 _=>⟨1,.top,0,0⟩
 | .u3 n b=>⟨2,.nd n 0,0,idxOf b⟩
 | .u4 n b=>⟨3,.top,b,dC b n⟩
 | .u5 _=>⟨1,.slot,0,0⟩
 | .u6 _ w=>⟨3,.slot,w,fS a w⟩
 | .u7 _ _ _ _=>⟨1,.slot,0,0⟩
 | .u8 _ w _=>⟨3,.slot,fS a w,noW w⟩
 | .u9 _ w _=>⟨2,.slot,0,noW w⟩
 | .o2 b=>⟨1,.nd (idxOf b) 0,0,0⟩
 | .o3 b below=>⟨3,.top,b,dC b below⟩
 | .o4 n _=>⟨1,.nd n 1,0,0⟩
 | .o5=>⟨1,.slot,0,0⟩
 | .o6 w=>⟨3,.slot,w,kX w⟩
def SX.jc(k:EK)(f:Ret->Pz->EX):SX->EX
 | .go x s=>.go (.sub x k) s
 | .ret r s=>f r s
 | .stuck=>.stuck
def Ie(val:Int)(is:Bool)(a:Int)(s:Pz):EX:=.out ⟨val,is,a,s.gone⟩
def oT(val:Int)(is:Bool)(a:Int)(s:Pz):EX:=(df s 0).jc (.oc ⟨val,is,a,[]⟩) λ_ s=>Ie val is a s
def AF(s:Pz):EX:=.go (.sub (.g1 0 .top) .og) s
def nu(r:Ret)(s:Pz):EK->EX
 | .ut=>match r with
  | .tk n _ O=>.go (.u1 n) s
  | _=>.stuck
 | .ug p=>Ie 0 O (-(p:Int)-2) s
 | .og=>match r with
  | .gd a p=>if idxOf a=0 then oT 0 X p s else .go (.o2 a) s
  | _=>.stuck
 | .oc o=>Ie o.val o.is o.bc s
 | .orr n o=>.go (.sub (.r1 n) (.od o)) s
 | .od o=>Ie o.val o.is o.bc s
def EPh.stp(th a:Int)(s:Pz):EPh->Int × Bool->EX
 | .sub x k,r=>(x.stp th s r).jc k λt s=>nu t s k
 | .u1 n,_=>.go (.u2 n) s.got
 | .u2 n,r=>.go (.u3 n r.1) s.got
 | .u3 n dq,_=>.go (.u4 n dq) s.got
 | .u4 n _,r=>if r.2 then Ie 0 O s.made s.got else .go (.u5 n) s.got
 | .u5 n,r=>if ji r.1≠0 then .go (.u2 n) s.got else .go (.u6 n r.1) s.got
 | .u6 n w,r=>if r.2 then .go (.u7 0 n w s.made) s.got else .go (.u2 n) s.got
 | .u7 j n w p,r=>if r.1≠fS a w then .go (.u9 n w p) s.got else if j=0 then .go (.u7 1 n w p) s.got else .go (.u8 n w p) s.got
 | .u8 n w p,r=>if r.2 then .go (.u2 n) s.got else .go (.u9 n w p) s.got
 | .u9 n _ p,_=>.go (.sub (.v1 n) (.ug p)) s.got
 | .o2 dq,r=>.go (.o3 dq r.1) s.got
 | .o3 dq _,r=>if r.2 then .go (.o4 (idxOf dq) s.made) s.got else .go .o5 s.got
 | .o4 n p,r=>(df s.got 0).jc (.orr n ⟨r.1,O,p,[]⟩) λ_ s=>.go (.sub (.r1 n) (.od ⟨r.1,O,p,[]⟩)) s
 | .o5,r=>if ji r.1≠1 then AF s.got else .go (.o6 r.1) s.got
 | .o6 w,r=>if r.2 then oT (mE w) O s.made s.got else AF s.got
def te(a:Int)(g:cq):EX:=match a with
 | 4=>.go (.sub .t1 .ut) ⟨[0,0,0],g,0⟩
 | 5=>AF ⟨[0,0,0],g,0⟩
 | _=>.stuck
inductive CK where
 | sg (bq:Int) | st (dq:Int) | sv (p:Nat) | rg | oc (o:Out)
deriving DecidableEq
inductive CPh where
 | sub (x:Sub) (k:CK)
 | s2 (bq dq:Int) (i:Nat) | s3 (bq dq:Int) (i:Nat) | s4 (bq dq:Int) | s5 (bq dq next:Int)
 | fl (n dq:Int) (j:Nat) | s6 (bq dq:Int) | s7 (bq dq:Int) (p:Nat)
 | r2 (dq:Int) (i:Nat) | r3 (dq:Int) (i:Nat) (has:Int) | r4 (dq:Int)
deriving DecidableEq
inductive CX where
 | go (x:CPh) (s:Pz) | out (o:Out) | stuck
def CPh.acc(d a:Int):CPh->LAc
 | .sub x _=>x.acc d
 | .s2 _ b i=>⟨1,.nd (idxOf b) (1+i),0,0⟩
 | .s3 _ b i=>⟨3,.nd (idxOf b) (1+i),0,a+2⟩
 | .s4 _ b=>⟨1,.nd (idxOf b) 0,0,0⟩
 | .s5 _ b next=>⟨3,.tail,b,dC b next⟩
 | .fl n _ j=>⟨2,.nd n j,0,if j=1 then a+2 else 0⟩
 | .s6 bq b=>⟨3,.nd (idxOf b) 0,0,bq⟩
 | .s7 bq b _=>⟨3,.tail,b,dC b bq⟩
 | .r2 b i=>⟨1,.nd (idxOf b) (1+i),0,0⟩
 | .r3 b i c=>⟨3,.nd (idxOf b) (1+i),c,1⟩
 | .r4 b=>⟨1,.nd (idxOf b) 0,0,0⟩
def SX.oM(k:CK)(f:Ret->Pz->CX):SX->CX
 | .go x s=>.go (.sub x k) s
 | .ret r s=>f r s
 | .stuck=>.stuck
def outC2(val:Int)(is:Bool)(a:Int)(s:Pz):CX:=.out ⟨val,is,a,s.gone⟩
def iY(val:Int)(is:Bool)(a:Int)(s:Pz):CX:=(df s 0).oM (.oc ⟨val,is,a,[]⟩) λ_ s=>outC2 val is a s
def oN(bq:Int)(s:Pz):CX:=.go (.sub (.g1 0 .tail) (.sg bq)) s
def Jk(s:Pz):CX:=.go (.sub (.g1 0 .head) .rg) s
def oS(r:Ret)(s:Pz):CK->CX
 | .sg bq=>match r with
  | .gd a _=>.go (.s2 bq a 0) s
  | _=>.stuck
 | .st a=>match r with
  | .tk n _ O=>.go (.fl n a 0) s
  | _=>.stuck
 | .sv p=>iY 0 O p s
 | .rg=>match r with
  | .gd a _=>.go (.r2 a 0) s
  | _=>.stuck
 | .oc o=>outC2 o.val o.is o.bc s
def jN(bq a:Int)(i:Nat)(s:Pz):CX:=if i<4 then .go (.s2 bq a (i+1)) s else .go (.s4 bq a) s
def jO(a:Int)(i:Nat)(s:Pz):CX:=if i<4 then .go (.r2 a (i+1)) s else .go (.r4 a) s
def CPh.stp(th a:Int)(s:Pz):CPh->Int × Bool->CX
 | .sub x k,r=>(x.stp th s r).oM k λt s=>oS t s k
 | .s2 bq dq i,r=>if r.1=0 then .go (.s3 bq dq i) s.got else jN bq dq i s.got
 | .s3 bq dq i,r=>if r.2 then(if bq≠0 then .go (.sub (.v1 bq) (.sv s.made)) s.got else iY 0 O s.made s.got)else jN bq dq i s.got
 | .s4 bq dq,r=>if r.1≠0 then .go (.s5 bq dq r.1) s.got else if bq=0 then .go (.sub .t1 (.st dq)) s.got else .go (.s6 bq dq) s.got
 | .s5 bq _ _,_=>oN bq s.got
 | .fl n dq j,_=>if j<5 then .go (.fl n dq (j+1)) s.got else .go (.s6 n dq) s.got
 | .s6 bq dq,r=>if r.2 then .go (.s7 bq dq s.made) s.got else oN bq s.got
 | .s7 _ _ p,_=>iY 0 O p s.got
 | .r2 dq i,r=>if r.1=0 then iY 0 X s.made s.got else if r.1=1 then jO dq i s.got else .go (.r3 dq i r.1) s.got
 | .r3 dq i has,r=>if r.2 then iY (has-2) O s.made s.got else jO dq i s.got
 | .r4 _,r=>if r.1=0 then iY 0 X s.made s.got else .stuck
def tf(a:Int)(g:cq):CX:=match a with
 | 6=>oN 0 ⟨[0,0,0],g,0⟩
 | 7=>Jk ⟨[0,0,0],g,0⟩
 | _=>.stuck
structure Opr where
 kind:Int
 obj:Int
 a:Int
 b:Int
deriving DecidableEq
abbrev di(o:Opr):Array I:=#[V H o.kind,V H o.obj,V H o.a,V H o.b]
inductive Ph where
 | m (x:MPh) (made:Nat) (g:cq) | e (x:EPh) (s:Pz) | c (x:CPh) (s:Pz)
deriving DecidableEq
inductive PX where
 | go (x:Ph) | out (o:Out) | stuck
def MX.p:MX->PX
 | .go x n g=>.go (.m x n g)
 | .out o=>.out o
 | .stuck=>.stuck
def EX.p:EX->PX
 | .go x s=>.go (.e x s)
 | .out o=>.out o
 | .stuck=>.stuck
def CX.p:CX->PX
 | .go x s=>.go (.c x s)
 | .out o=>.out o
 | .stuck=>.stuck
def Ph.acc(b a:Int):Ph->LAc
 | .m x _ _=>x.acc b
 | .e x _=>x.acc b a
 | .c x _=>x.acc b a
def Ph.stp(th bk:Int)(op:Opr):Ph->Int × Bool->PX
 | .m x n g,r=>(x.stp th bk ⟨op.kind,op.a,op.b⟩ n g r).p
 | .e x s,r=>(x.stp th op.a s r).p
 | .c x s,r=>(x.stp th op.a s r).p
def ee(op:Opr)(g:cq):PX:=
 if 1<=op.kind/\op.kind<=3 then .go (.m .m1 0 g)
 else if 4<=op.kind/\op.kind<=5 then(te op.kind g).p
 else if 6<=op.kind/\op.kind<=7 then(tf op.kind g).p
 else .stuck
section
variable {α β:Type} {i j:Nat} {z:Pz}
def adr(l:Ly):Loc->Int
 | .era=>l.era
 | .free=>l.free
 | .resv s i=>vV l s i
 | .msize=>ft l 0 0
 | .mcount=>ft l 0 1
 | .bucket b=>dM l 0 b
 | .top=>fj l 0
 | .slot=>dQ l 0 0
 | .head=>et l 0
 | .tail=>eN l 0
 | .nd n i=>nodeAt l n i
inductive An (β:Type) where
 | ask (a:LAc) | fin (b:β) | stuck
def js{β:Type}(th b:Int)(F:Ret->Pz->Log->An β):Sub->Pz->Log->An β
 | x,_,[]=>.ask (x.acc b)
 | x,z,r :: l=>match x.stp th z r with
  | .go c a=>js th b F c a l
  | .ret t a=>F t a l
  | .stuck=>.stuck
def fx{β:Type}(th a:Int)(F:Ret->Pz->Log->An β):SX->Log->An β
 | .go x z,l=>js th a F x z l
 | .ret t z,l=>F t z l
 | .stuck,_=>.stuck
theorem pP(th a:Int)(F:Ret->Pz->Log->An β)(x:Sub)(z:Pz)(r:Int × Bool)(l:Log):js th a F x z (r :: l)=fx th a F (x.stp th z r) l:=by
 cases h:x.stp th z r<;>simp[js,fx,h]
def doR{β:Type}(a:LAc)(z:Pz)(F:Int × Bool->Pz->Log->An β):Log->An β
 | []=>.ask a
 | r :: l=>F r z.got l
theorem h8(th a:Int)(F:Ret->Pz->Log->An β)(x:Sub)(z:Pz)(l:Log):js th a F x z l=doR (x.acc a) z (λr _ b=>fx th a F (x.stp th z r) b) l:=by
 cases l with
 | nil=>rfl
 | cons r l=>exact pP th a F x z r l
def fp(th b:Int)(op:LOp):LPh->Pz->Log->An (dx × Pz)
 | x,_,[]=>.ask (x.acc b op)
 | x,z,r :: l=>match x.stp th op z r with
  | .go c a=>fp th b op c a l
  | .out o a=>.fin (o,a)
  | .stuck=>.stuck
def cK(th a:Int)(op:LOp):LX->Log->An (dx × Pz)
 | .go x z,l=>fp th a op x z l
 | .out o z,_=>.fin (o,z)
 | .stuck,_=>.stuck
theorem eH(th a:Int)(op:LOp)(x:LPh)(z:Pz)(r:Int × Bool)(l:Log):fp th a op x z (r :: l)=cK th a op (x.stp th op z r) l:=by
 cases h:x.stp th op z r<;>simp[fp,cK,h]
theorem kB(th a:Int)(op:LOp)(k:LK):∀(l:Log) (x:Sub) (z:Pz),fp th a op (.sub x k) z l=js th a (λt z l=>cK th a op (ic op t z k) l) x z l
 | [],_,_=>rfl
 | r :: l,x,z=>by
  rw[eH,pP];show cK th a op ((x.stp th z r).lS k λt s=>ic op t s k) l=_;cases x.stp th z r with
  | go c b=>exact kB th a op k l c b
  | ret t b=>rfl
  | stuck=>rfl
def hH(th b a:Int):EPh->Pz->Log->An Out
 | x,_,[]=>.ask (x.acc b a)
 | x,z,r :: l=>match x.stp th a z r with
  | .go d c=>hH th b a d c l
  | .out o=>.fin o
  | .stuck=>.stuck
def eX(th b a:Int):EX->Log->An Out
 | .go x z,l=>hH th b a x z l
 | .out o,_=>.fin o
 | .stuck,_=>.stuck
theorem tu(th b a:Int)(x:EPh)(z:Pz)(r:Int × Bool)(l:Log):hH th b a x z (r :: l)=eX th b a (x.stp th a z r) l:=by
 cases h:x.stp th a z r<;>simp[hH,eX,h]
theorem nj(th b a:Int)(k:EK):∀(l:Log) (x:Sub) (z:Pz),hH th b a (.sub x k) z l=js th b (λt z l=>eX th b a (nu t z k) l) x z l
 | [],_,_=>rfl
 | r :: l,x,z=>by
  rw[tu,pP];show eX th b a ((x.stp th z r).jc k λt s=>nu t s k) l=_;cases x.stp th z r with
  | go d c=>exact nj th b a k l d c
  | ret t c=>rfl
  | stuck=>rfl
def fU(th b a:Int):CPh->Pz->Log->An Out
 | x,_,[]=>.ask (x.acc b a)
 | x,z,r :: l=>match x.stp th a z r with
  | .go d c=>fU th b a d c l
  | .out o=>.fin o
  | .stuck=>.stuck
def ez(th b a:Int):CX->Log->An Out
 | .go x z,l=>fU th b a x z l
 | .out o,_=>.fin o
 | .stuck,_=>.stuck
theorem tw(th b a:Int)(x:CPh)(z:Pz)(r:Int × Bool)(l:Log):fU th b a x z (r :: l)=ez th b a (x.stp th a z r) l:=by
 cases h:x.stp th a z r<;>simp[fU,ez,h]
theorem nm(th b a:Int)(k:CK):∀(l:Log) (x:Sub) (z:Pz),fU th b a (.sub x k) z l=js th b (λt z l=>ez th b a (oS t z k) l) x z l
 | [],_,_=>rfl
 | r :: l,x,z=>by
  rw[tw,pP];show ez th b a ((x.stp th z r).oM k λt s=>oS t s k) l=_;cases x.stp th z r with
  | go d c=>exact nm th b a k l d c
  | ret t c=>rfl
  | stuck=>rfl
theorem sB{l:List α}{x:α}(h:l[i]? =J x):l.drop i=x :: l.drop (i+1):=by
 obtain⟨hi,rfl⟩:=aC.1 h;exact List.drop_eq_getElem_cons hi
theorem C7{l:List α}(h:l[i]? =Y):l.drop i=[]:=List.drop_eq_nil_of_le (List.getElem?_eq_none_iff.1 h)
theorem Ld(a:j<3)(h:z.eras.getD j 0=0):df z j=df z (j+1):=by
 unfold df;rw[show 3-j=(3-(j+1))+1 by omega];show (match (if z.eras.getD j 0≠0 then J j else qN z.eras (3-(j+1)) (j+1))with|some j=>SX.go (.cl j) z|none=>.ret .un z)=_;rw[if_neg (by simp only[h];decide)]<;>rfl
theorem Ox(a:j<3)(h:z.eras.getD j 0≠0):df z j= .go (.cl j) z:=by
 unfold df;rw[show 3-j=(3-(j+1))+1 by omega];show (match (if z.eras.getD j 0≠0 then J j else qN z.eras (3-(j+1)) (j+1))with|some j=>SX.go (.cl j) z|none=>.ret .un z)=_;rw[if_pos h]
end
section
open Go.RowKit
variable {B gp:Nat} {v:I} {A:Option Addr} {l:cq} {P:J4}
abbrev ptr(g:Nat):I:=ae (J ⟨g,0,Y⟩)
theorem bZ{a w:W}(h:D a.heap.size a w):D a.heap.size a w.drew:=⟨h.os,h.tape,h.output,h.size,h.block⟩
def gH(w:W)(B:Nat)(A:Option Addr)(l:List (Int × Bool)):Prop:=
 0<l.length->∃b o,A=J ⟨b,o,Y⟩/\b<B/\∀k r,l[k]? =J r->w.cell? ⟨b,o+k*2,Y⟩=J (V H r.1)/\w.cell? ⟨b,o+k*2+1,Y⟩=J (.bool r.2)
theorem gH.below{w w':W}{l:List (Int × Bool)}(h:gH w B A l)(d:D B w w'):gH w' B A l:=by
 intro f;obtain⟨b,o,e,c,g⟩:=h f;refine⟨b,o,e,c,λk a i=>?_⟩;obtain⟨j,m⟩:=g k a i;exact⟨(d.cell (p:=⟨b,_,Y⟩) c).trans j,(d.cell (p:=⟨b,_,Y⟩) c).trans m⟩
theorem gH.more{w:W}{a:Nat}{l:List (Int × Bool)}(h:gH w B A l)(d:B<=a):gH w a A l:=by
 intro c;obtain⟨b,o,e,g,f⟩:=h c;exact⟨b,o,e,aZ g d,f⟩
structure Stp (gm:Nat) (w w':W):Prop where
 os:w'.os=w.os
 tape:w'.tape=w.tape
 output:w'.output=w.output
 size:w.heap.size<=w'.heap.size
 block:∀b,b<w.heap.size->b≠gm->w'.heap[b]? =w.heap[b]?
section
variable {gm:Nat} {w w' w2:W}
theorem Stp.refl(gm:Nat)(w:W):Stp gm w w:=⟨Z,Z,Z,aq _,λ_ _ _=>Z⟩
theorem Stp.trans(h:Stp gm w w')(k:Stp gm w' w2):Stp gm w w2:=
 ⟨k.os.trans h.os,k.tape.trans h.tape,k.output.trans h.output,aF h.size k.size,λb a c=>(k.block b (aZ a h.size) c).trans (h.block b a c)⟩
theorem Stp.aT(gm:Nat)(h:D w.heap.size w w'):Stp gm w w':=⟨h.os,h.tape,h.output,h.size,λb a _=>h.block b a⟩
theorem Stp.set(w:W)(gm i:Nat)(u:I):Stp gm w (w.setCell ⟨gm,i,Y⟩ u):=
 ⟨Z,Z,Z,zS,λb _ a=>jL w _ u b a⟩
theorem Stp.alloc(h:Stp gm w w')(o:Obj):Stp gm w (w'.alloc o):=h.trans (.aT gm (aA bS o))
theorem Stp.aw(h:Stp gm w w'){g:Nat}{t:bM}{cs:Array I}(k:Bk w g t cs)(a:g≠gm):Bk w' g t cs:=(h.block g k.lt a).trans k
theorem Stp.part(h:Stp gm w w')(a:B<=gm)(c:B<=w.heap.size):D B w w':=
 ⟨h.os,h.tape,h.output,h.size,λb d=>h.block b M M⟩
theorem Stp.drewN(h:Stp gm w w')(n:Nat):Stp gm w (w'.drewN n):=⟨h.os,h.tape,h.output,h.size,h.block⟩
theorem Stp.drew(h:Stp gm w w'):Stp gm w w'.drew:=⟨h.os,h.tape,h.output,h.size,h.block⟩
theorem B1{w w':W}(h:Stp gp w w'){b o:Nat}(a:b<w.heap.size)(c:b≠gp)(d:w.cell? ⟨b,o,Y⟩=J v):w'.cell? ⟨b,o,Y⟩=J v:=by
 rw[<- d];unfold W.cell?;rw[h.block b a c]
end
structure Pk where
 l:Ly
 me:Nat
 A:Option Addr
 cap:Nat
 B:Nat
 gp:Nat
 gv:Nat
 gl:Nat
def GnV(w:W)(gp:Nat)(v:I)(l:cq):Prop:=
 ∃G n c,v= .slice G n c/\n=l.length/\(G=Y->n=0/\c=0)/\(0<l.length->∃b o a,G=J ⟨b,o,Y⟩/\Bk w b 52 a/\b≠gp/\∀k r,l[k]? =J r->w.cell? ⟨b,o+k*2,Y⟩=J (V H r.1)/\w.cell? ⟨b,o+k*2+1,Y⟩=J (V H r.2))
theorem GnV.stp{w w':W}(h:GnV w gp v l)(s:Stp gp w w'):GnV w' gp v l:=by
 obtain⟨G,n,c,m,t,u,j⟩:=h;refine⟨G,n,c,m,t,u,λi=>?_⟩;obtain⟨b,o,q,e,d,a,g⟩:=j i;exact⟨b,o,q,e,s.aw d a,a,λk r f=>⟨B1 s d.lt a (g k r f).1,B1 s d.lt a (g k r f).2⟩⟩
theorem GnV.aw{w w':W}(h:GnV w gp v l)(s:D w.heap.size w w'):GnV w' gp v l:=h.stp (.aT gp s)
theorem de(w:W)(g o:Nat)(ty:bM)(a:Array I)(d:TypeDesc)(l:∀(j:Nat) (v:I),a[j]? =J v->w.cell? ⟨g,o+j,Y⟩=J v)(k:P.underlying ty=J d)(hd:(match d with|.struct _|.array _ _=>O|_=>X)=O)(hi:(P.info? ty).map (·.size)=J a.size):
  (cL ty ⟨g,o,Y⟩).run P w= .ok (.agg a) w:=by
 have c:(loadCells ⟨g,o,Y⟩ a.toList.length).run P w= .ok a.toList.toArray w:=
  run_loadCells_list (P:=P) w ⟨g,o,Y⟩ a.toList (λj v e=>by
   rw[gZ];exact l j v (by simpa using e))
 cases b:P.info? ty with
 | none=>simp[b]at hi
 | some i=>
  have h:i.size=a.size:=by simpa[b] using hi
  have f:(isAgg ty).run P w= .ok O w:=by
   unfold isAgg;rw[cD,run_underlying k w];cases d<;>simp_all
  simp only[Array.length_toList,Array.toArray_toList]at c;simp[cL,cD,f,sizeOf,typeInfo,b,h,c]
theorem fG{c:Array Oper}{rest:List Oper}{o:Oper}{a:Act}{w:W}{Q:Exit->Act->W->Prop}(f:o.guard=Y)(ty:bM)(x:vn)(ho:o.op= .load ty x)(g of:Nat)(e:a.eval x=ae (J ⟨g,of,Y⟩))(b:Array I)(d:TypeDesc)(l:∀(j:Nat) (v:I),b[j]? =J v->w.cell? ⟨g,of+j,Y⟩=J v)(i:P.underlying ty=J d)(hd:(match d with|.struct _|.array _ _=>O|_=>X)=O)(hi:(P.info? ty).map (·.size)=J b.size)(h:wpList P c Q rest (a.put o.dst (.agg b)) w):wpList P c Q (o :: rest) a w:=
 wpList_plain f λ_ k=>by
  unfold Oper.wp nO;simp only[ho,e,Instr.loadAt,uS,cD,dF,bC,de w g of ty b d l i hd hi];exact k _ _ h
theorem jY(a:Int)(b:Bool)(w:W):(Instr.field 75 (.agg #[V H a,.bool b]) 0).run ao w= .ok (V H a) w:=zK
theorem vX(a:Int)(b:Bool)(w:W):(Instr.field 75 (.agg #[V H a,.bool b]) 1).run ao w= .ok (.bool b) w:=zK
end
section
open Go.RowKit
theorem bA(w:W)(o:Obj):D w.heap.size w (w.alloc o):=aA (D.refl _ w) o
theorem bD(w:W):D w.heap.size w w.drew:=bZ (D.refl _ w)
theorem zT{p:Prop}(h:p:=by(repeat' (first|exact bd|refine al ⟨_,Z,.inl ⟨Z,?_⟩⟩ ?_));all_goals exact zG):p:=h
section
variable {P:J4} {ops:Array Oper} {Q:Exit->Act->W->Prop} {md:Region.Mode} {S:W->Prop} {E:Nat->Bool}
theorem wTq(n:Nat)(L:List (Nat × Nat × I)){fuel:Nat}{listed:Array Bool}{a a':Act}{w:W}(hy:∀w',S w'->Ai P ops w' L a)(hS:S w)(h:dV P md ops Q S E fuel (Aj L listed) a' w)(e:kY L a=a':=by simp only[kY,Act.put,ak,ay,az];exact Z)(hs:Region.noSelect ops=O:=by kernel_rfl)(hQ:∀d v c a w,Q (.panic c) (Act.put a (J d) v) w->Q (.panic c) a w:=by exact λ_ _ _ _ _ h=>h)(hn:L.length=n:=by rfl)(fC:rQ md ops E L listed=O:=by kernel_rfl):dV P md ops Q S E (fuel+n) listed a w:=
 eL hs hQ n L hn fC hy hS (e ▸ h)
theorem wOq(i:Nat){o:Oper}{fuel:Nat}{listed:Array Bool}{a:Act}{w:W}(h:∀K':Act->W->Prop,Shut (∀a w,(E i=X->S w)->dV P md ops Q S E fuel (listed.setIfInBounds i O) a w->K' a w)->if sZ o (yielded ops a.tmps)=O then Oper.wp P o a w K' Q else K' (a.put o.dst undef) w)(ho:ops[i]? =J o:=by(try simp only[List.getElem?_toArray,List.getElem?_cons_succ,List.getElem?_cons_zero]);exact Z)(hr:lJ md ops listed=[i]:=by kernel_rfl):dV P md ops Q S E (fuel+1) listed a w:=
 eG hr ho h
end
theorem sO{K:Act->World->Prop}{T:World->Prop}{W:Act->World->Prop}(hK:Shut (∀a w,T w->W a w->K a w)){a a':Act}{w:World}(hT:T w)(h:W a' w)(e:a=a':=by(try simp only[Act.put,ak,ay,az]);exact Z):K a w:=by
 subst e;exact hK.out a w hT h
end
section
open Go.RowKit
attribute [local go_sem ↓] aQ aR
variable {w w':W} {A:Option Addr} {l:List Acc} {B c:Nat} {zs:List Int} {v:I}
def bV(l:List Acc):List I:=l.flatMap λa=>[V H a.kind,V H a.cell,V H a.rl,V H a.new]
def gh(l:List (Int × Bool)):List I:=l.flatMap λr=>[V H r.1,.bool r.2]
def iz:List Int->List Acc->Int
 | _,[]=>0
 | zs,a :: l=>if a.err zs.length=0 then iz (a.make zs) l else a.err zs.length
def eE:List Int->List Acc->List Int
 | zs,[]=>zs
 | zs,a :: l=>eE (a.make zs) l
def iG:List Int->List Acc->List (Int × Bool)
 | _,[]=>[]
 | zs,a :: l=>(a.had zs,a.ok (a.had zs)) :: iG (a.make zs) l
theorem uP(l:List Acc):∀b,(eE b l).length=b.length:=by
 induction l with
 | nil=>intro b;rfl
 | cons a l c=>intro b;rw[eE,c,Acc.kC]
theorem xN(l:List Acc):∀b,(iG b l).length=l.length:=by
 induction l with
 | nil=>intro b;rfl
 | cons a l c=>intro b;simp[iG,c]
theorem OO(l:List Acc)(a:Acc):∀c,eE c (l++[a])=a.make (eE c l)/\iG c (l++[a])=iG c l++[(a.had (eE c l),a.ok (a.had (eE c l)))]/\
  (iz c l=0->iz c (l++[a])=a.err c.length):=by
 induction l with
 | nil=>
  intro c;refine⟨Z,Z,λ_=>?_⟩;simp only[List.nil_append,iz];split<;>simp_all
 | cons b l g=>
  intro c;obtain⟨i,e,d⟩:=g (b.make c);refine⟨by simp only[List.cons_append,eE];exact i,by simp only[List.cons_append,iG,eE];rw[e],λh=>?_⟩;simp only[List.cons_append,iz]at h ⊢;split at h
  ·rename_i f;rw[if_pos f,d h,Acc.kC]
  contradiction
theorem IS(l f:List Acc)(a:Acc):∀c,iz c l=0->a.err c.length≠0->iz c (l++a :: f)=a.err c.length:=by
 induction l with
 | nil=>intro c _ h;simp[iz,h]
 | cons b l e=>
  intro c h g;simp only[List.cons_append,iz]at h ⊢;split at h
  ·rename_i d;rw[if_pos d,e (b.make c) h (by rwa [Acc.kC]),Acc.kC]
  contradiction
theorem Ce:(Tryz.prog.info? 75).map (λi=>(i.zero,i.size,i.bytes))=J (J (.agg #[V H 0,ah X]),2,16):=zK
def jP(w:W)(B:Nat)(A:Option Addr)(l:List Acc):Prop:=
 0<l.length->∃b o,A=J ⟨b,o,Y⟩/\b<B/\∀k a,l[k]? =J a->w.cell? ⟨b,o+k*4,Y⟩=J (V H a.kind)/\w.cell? ⟨b,o+k*4+1,Y⟩=J (V H a.cell)/\
  w.cell? ⟨b,o+k*4+2,Y⟩=J (V H a.rl)/\w.cell? ⟨b,o+k*4+3,Y⟩=J (V H a.new)
theorem jP.below{f:W}(h:jP w B A l)(d:D B w f):jP f B A l:=by
 intro g;obtain⟨b,o,e,c,m⟩:=h g;refine⟨b,o,e,c,λk a n=>?_⟩;obtain⟨q,s,i,j⟩:=m k a n;exact⟨(d.cell (p:=⟨b,_,Y⟩) c).trans q,(d.cell (p:=⟨b,_,Y⟩) c).trans s,(d.cell (p:=⟨b,_,Y⟩) c).trans i,(d.cell (p:=⟨b,_,Y⟩) c).trans j⟩
theorem jP.more{a:Nat}(h:jP w B A l)(d:B<=a):jP w a A l:=by
 intro c;obtain⟨b,o,e,g,f⟩:=h c;exact⟨b,o,e,aZ g d,f⟩
theorem jP.keepb{a:W}(h:jP w w.heap.size A l)(b:D w.heap.size w a):jP a a.heap.size A l:=(h.below b).more b.size
def jD(w:W)(base:Nat)(v:I)(rs:List (Int × Bool)):Prop:=w.ownsRow base 75 2 v rs.length (gh rs)
def AllRel(w:W)(A:Option Addr)(c:Nat)(zs:List Int)(l:List Acc)(b:I)(a i:I)(wr:W):Prop:=
 ∃k:Nat,k<=l.length/\i=V H k/\D w.heap.size w wr/\Bk wr w.heap.size 37 #[.slice A zs.length c]/\Bk wr (w.heap.size+1) 37 #[af Y 0 0]/\
  aX wr (w.heap.size+1+1) b (eE zs (l.take k))/\jD wr (w.heap.size+1+1) a (iG zs (l.take k))/\iz zs (l.take k)=0
def jf(zs:List Int)(l:List Acc):List Int:=if iz zs l=0 then eE zs l else zs
def ja(zs:List Int)(l:List Acc):List (Int × Bool):=if iz zs l=0 then iG zs l else []
def By(B:Nat)(zs:List Int)(l:List Acc)(w:W)(e:jK)(a:W):Prop:=
 ∃A c b d,e=ai (.tuple #[pj A zs.length c,.slice b (ja zs l).length d,V H (iz zs l)])/\my a B A zs.length c (jf zs l)/\jD a w.heap.size (.slice b (ja zs l).length d) (ja zs l)/\D w.heap.size w a
theorem IQ{a:Int}(f:iz zs l=a)(b:a≠0)(g:B<=w.heap.size)(h:my w B A zs.length c zs)(d:D w.heap.size w w'):
  By B zs l w (ai (.tuple #[pj A zs.length c,af Y 0 0,V H a])) w':=by
 subst f;have e:ja zs l=[]:=by simp[ja,b]
 have i:jf zs l=zs:=by simp[jf,b]
 exact⟨A,c,Y,0,by rw[e];rfl,by rw[i];exact h.aw g d,by rw[e];exact bW _ _ _ _,d⟩
theorem Lq(a:iz zs l=0)(h:my w' B A zs.length c (eE zs l))(b:jD w' w.heap.size v (iG zs l))(f:D w.heap.size w w'):
  By B zs l w (ai (.tuple #[pj A zs.length c,v,V H 0])) w':=by
 have e:ja zs l=iG zs l:=by simp[ja,a]
 have g:jf zs l=eE zs l:=by simp[jf,a]
 obtain⟨R,d,rfl⟩:=bJ b;exact⟨A,c,R,d,by rw[e,a],by rw[g];exact h,by rw[e];exact b,f⟩
theorem A9{α:Type}{l:List α}{k:Nat}{a:α}(h:l[k]? =J a):l.drop k=a :: l.drop (k+1):=by
 obtain⟨b,rfl⟩:=aC.1 h;exact List.drop_eq_getElem_cons b
theorem zj{b j n s m':Nat}{e f:bM}{sz i g cap:Nat}{o k:List I}(h:w.ownsRow b e sz v n o)(m:w.ownsRow j f i (af (J ⟨g,0,Y⟩) m' cap) s k)(l:e≠f):
  v.ownBlock=Y\/v.ownBlock≠J g:=by
 rcases h.2 with⟨rfl,_⟩|⟨A,x,y,rfl,_,q,_⟩
 ·exact .inl Z
 right;intro d;simp[I.ownBlock]at d;subst d;rcases m.2 with⟨a,_⟩|⟨t,u,z,a,_,c,_⟩
 ·simp at a
 injection a with a;injection a with a;injection a with a;subst a;rw[q]at c;injection c with c;injection c with _ c;exact l c
theorem turn_n(a:Acc)(base g cap n:Nat)(zs:List Int)(w:W)(h:aX w base (af (J ⟨g,0,Y⟩) n cap) zs)(d:a.right=O)(i:a.cell<n)(f:zs.length=n)(c:g<w.heap.size):
  U ao 50 #[af (J ⟨g,0,Y⟩) n cap,OQ a] w λe b=>e=ai (pd (a.had zs) (a.ok (a.had zs)))/\aX b base (af (J ⟨g,0,Y⟩) n cap) (a.make zs)/\w.grownBy b (J g):=by
 subst f;exact BU a base g cap zs w h d i c
theorem MF(w:W)(had:Int)(ok:Bool):∀(j:Nat) (u:I),[LD .i64 had,.bool ok][j]? =J u->(w.alloc (ag #[V H had,.bool ok] 75)).cell? ((⟨w.heap.size,0,Y⟩:Addr).add j)=J u:=by
 intro j u a;rw[gZ,ea,(Bk.made w 75 #[V H had,.bool ok]).cell j]
 simpa using a
theorem res_one(had:Int)(ok:Bool):∀u∈[LD .i64 had,.bool ok],u.oneCell'=O:=by
 intro u a;simp at a;rcases a with rfl|rfl<;>rfl
theorem all_any(A B:Option Addr)(M c d:Nat)(zs:List Int)(l:List Acc)(w:W)(L:M<=w.heap.size)(qe:my w M A zs.length c zs)(qa:jP w w.heap.size B l)(hm:zs.length<=1000000)(hm2:l.length<=1000000):
  U ao 42 #[pj A zs.length c,.slice B l.length d] w (By M zs l w):=by
 have h:=qe.sl L;have HMM:=N qe;clear qe;obtain⟨i0,yx,sf,tP,sW⟩:=info_parts Ce;go_enter func42,ntmps42;go_wp2_with fail;have X:=aA (aA (bR w) (ag #[.slice A zs.length c] 37)) (ag #[af Y 0 0] 37);refine(tZ A c zs _ (h.keepb X) hm).mono ?_;rintro e w1 ⟨v7,rfl,n,qc⟩;have q:=((Bk.made w 37 #[.slice A zs.length c]).alloc (ag #[af Y 0 0] 37)).aw qc;have f:=((Bk.new (w.alloc (ag #[.slice A zs.length c] 37)) (g:=w.heap.size+1) zS 37 #[af Y 0 0])).aw qc;have s:=aE X qc;simp only[W.size_alloc]at n;obtain⟨G,u,rfl⟩:=bJ n;clear X qc;go_wp2_with fail;go_loopw [8,17] (λv8 i wr=>AllRel w A c zs l (.slice G zs.length u) v8 i wr) (λ_ i _=>l.length-(intOf i).toNat)
 case atStart=>exact⟨0,aN _,Z,s,q,f,by simpa[eE] using n,bW _ _ _ _,Z⟩
 clear s q f n;obtain⟨k,hk,rfl,s,q,f,n,E,z⟩:=hrel;have F:=uP (l.take k) zs;by_cases fH:k<l.length;rotate_left
 ·obtain rfl:k=l.length:=zO;rw[nP]at n E z F;have C:=f.cell 0;have f1:=f.free 0;simp at C;have P:=N z;have S:=N F;have x:=N (al n E);have HA:=N (al h qa);have hkl:=f.lt;clear z F n E h qa;go_wp2;have qf:=bu s (p:=⟨w.heap.size+1,0,Y⟩) zS (.slice G zs.length u);have sj:=x.out.1.uZ (p:=⟨w.heap.size+1,0,Y⟩) zS (.slice G zs.length u);have hr3:=Cn x.out.2 (p:=⟨w.heap.size+1,0,Y⟩) zS (.slice G zs.length u);refine aS (v:=.tuple #[pj G zs.length u,u8,V H 0]) (by simp[jE,results42,go_sem,C]) Z (Lq P.out (my.M0 sj S.out zO) (zi hr3 zO) qf)
 obtain⟨b,o,L,CV,qh⟩:=(qa.below s) zO;subst L;obtain⟨a,Q⟩:∃a,l[k]? =some a:=⟨_,aD fH⟩;obtain⟨d0,d1,d2,d3⟩:=qh k a Q;have i1:(k:Int)<l.length:=zO;have qg:=OO (l.take k) a zs;have sh:l.take (k+1)=l.take k++[a]:=by rw[qy,Q];rfl
 rw[<- sh]at qg;have hS:=N qg;have hT:=N (show l=l.take k++a :: l.drop (k+1)by rw[<- A9 Q,List.take_append_drop]);have P:=N z;have S:=N F;have x:=N (al n E);have HA:=N (al h qa);clear qg sh qh z F Q n E h qa;by_cases t:a.err zs.length=0;rotate_left
 ·have hn:(a.err zs.length != 0)=true:=by simpa using t
  go_wp2_with fail;refine(tU zs.length a _).mono ?_;rintro e w2 ⟨rfl,m⟩;have K:=(q.alloc _).aw m;have I:=(f.alloc _).aw m;have c0:=K.cell 0;have C:=I.cell 0;have f1:=I.free 0;simp at c0 C;clear d0 d1 d2 d3;go_wp2;have qf:=bu (aE (aA s _) m) (p:=⟨w.heap.size+1,0,Y⟩) zS (.slice A zs.length c);have hbad:iz zs l=a.err zs.length:=by
   have:=IS (l.take k) (l.drop (k+1)) a zs P.out t
   rwa [<- hT.out]at this
  refine aS (v:=.tuple #[pj A zs.length c,af Y 0 0,V H (a.err zs.length)]) (by simp[jE,results42,go_sem,C]) Z (IQ hbad t L HMM.out qf)
 obtain⟨hr,CU,DH⟩:=Acc.Oo t;have su:0<zs.length:=zO;have HO:=N t;go_wp2_with fail;refine(tU zs.length a _).mono ?_;rintro e w2 ⟨rfl,m⟩;rw[t];clear t;have T:=aE (aA s _) m;have K:=(q.alloc _).aw m;have I:=(f.alloc _).aw m;have J:=(Bk.made wr 67 #[V H a.kind,V H a.cell,V H a.rl,V H a.new]).aw m;have qb:aX w2 (w.heap.size+1+1) (.slice G zs.length u) (eE zs (l.take k)):=j7 (x.out.1.alloc (ag #[V H a.kind,V H a.cell,V H a.rl,V H a.new] 67)) m;have qd:=j7 (W.ownsRow.alloc x.out.2 (ag #[V H a.kind,V H a.cell,V H a.rl,V H a.new] 67)) m;have q0:=J.cell 0;have q1:=J.cell 1;have q2:=J.cell 2;have q3:=J.cell 3;simp at q0 q1 q2 q3;obtain⟨g,cap',hv,hg1,hg2⟩:=W.ownsRow.form qb (by rw[S.out];exact su);injection hv with hG hn ID;subst hG;clear d0 d1 d2 d3 m q f s hn ID;go_wp2_with fail;refine(turn_n a _ g u zs.length _ _ qb hr DH S.out hg2).mono ?_;rintro e w3 ⟨rfl,zQ,y⟩;clear q0 q1 q2 q3 J;generalize NX:a.had (eE zs (l.take k))=had at *;generalize fC:a.ok had=ok at *;have HHO:=N (al NX fC);clear NX fC;have hres3:jD w3 (w.heap.size+1+1) u8 (iG zs (l.take k)):=W.ownsRow.kept qd y (zj qd qb zD);have hres4:=W.ownsRow.alloc hres3 (ag #[V H had,.bool ok] 75);have N7:Below w.heap.size w w3:=T.grown y T.size (λk hk=>by injection hk;omega);have q:=K.grown y (λe=>by injection e;omega);have f:=I.grown y (λe=>by injection e;omega);have hlen:(iG zs (l.take k)).length=k:=by rw[xN,dg];omega
 have D:(w3.alloc (ag #[V H had,.bool ok] 75)).ownsRow (w.heap.size+1+1) 75 2 u8 k (gh (iG zs (l.take k))):=by have h':=hres4;rw[hlen]at h';exact h'
 have hsz3:w.heap.size+1+1<=w3.heap.size:=by have:=f.lt;omega
 clear K I qd hres3 hres4 qb y T;go_wp2_with (at_builtin;go_must (refine dI _ Z (.tmp 29) (.tmp 33) _ Z (w.heap.size+1+1) 75 i0 _ 2 16 underlying43 yx sf tP sW Z zO u8 k _ Z D ⟨w3.heap.size,0,Y⟩ 1 1 [V H had,.bool ok] Z Z (MF w3 had ok) (res_one had ok) (by simp only[sV];omega) zO zP ?_;intro v9 w4 hrow4 O _ _));go_roundw
 case rel=>
  obtain⟨e1,e2,e3⟩:=hS.out;have hbl4:=(aA N7 (ag #[V H had,.bool ok] 75)).grown O zP (λj hj=>by have:=(W.ownsRow.lt D _ hj).1;omega);have j0:=(q.alloc (ag #[V H had,.bool ok] 75)).grown O (λe=>by have:=(W.ownsRow.lt D _ e.symm).1;omega);have j1:=(f.alloc (ag #[V H had,.bool ok] 75)).grown O (λe=>by have:=(W.ownsRow.lt D _ e.symm).1;omega);refine⟨k+1,zO,by go_num,hbl4,j0,j1,?_,?_,by rw[e3 P.out];exact HO.out⟩
  ·rw[e1];exact W.ownsRow.kept (zQ.alloc _) O (.inr (λe=>by rcases zj D (zQ.alloc _) zD with h|h<;>simp_all [Value.ownBlock]))
  rw[e2];unfold jD;rw[bE,hlen]
  simpa[gh] using hrow4
 case measure=>simp[intOf];omega
end
abbrev Sm:=Loc->Int
def bz(m:Sm)(c:Loc)(v:Int):Sm:=λx=>if x=c then v else m x
theorem bU(m:Sm)(c:Loc)(v:Int):bz m c v c=v:=by simp[bz]
theorem eV(m:Sm){c x:Loc}(v:Int)(h:x≠c):bz m c v x=m x:=by simp[bz,h]
def LAc.res(a:LAc)(m:Sm):Int × Bool:=if a.k=3/\m a.c≠a.o then(m a.c,X)else(m a.c,O)
def LAc.mem(a:LAc)(m:Sm):Sm:=
 if a.k=2 then bz m a.c a.v
 else if a.k=3 then(if m a.c=a.o then bz m a.c a.v else m)
 else if a.k=4 then bz m a.c (m a.c+a.v)
 else m
theorem dv(a:LAc)(m:Sm):(a.res m).1=m a.c:=by unfold LAc.res;split<;>rfl
theorem a8{a:LAc}(h:a.k=1)(m:Sm):a.mem m=m:=by simp[LAc.mem,h]
theorem bF{a:LAc}(h:a.k=2)(m:Sm):a.mem m=bz m a.c a.v:=by simp[LAc.mem,h]
theorem bP{a:LAc}(h:a.k=3){m:Sm}(c:(a.res m).2=O):m a.c=a.o/\a.mem m=bz m a.c a.v:=by
 have:m a.c=a.o:=by
  by_cases b:m a.c=a.o
  ·exact b
  simp[LAc.res,h,b]at c
 exact⟨this,by simp[LAc.mem,h,this]⟩
theorem bx{a:LAc}(h:a.k=3){m:Sm}(b:(a.res m).2=X):a.mem m=m:=by
 have:m a.c≠a.o:=by
  intro c;simp[LAc.res,c]at b
 simp[LAc.mem,h,this]
theorem iR{a:LAc}(h:a.k=4)(m:Sm):a.mem m=bz m a.c (m a.c+a.v):=by simp[LAc.mem,h]
theorem gw(i:Int)(b:Bool)(c:Int)(d:0<=i)(a:i<65536):idxOf (dL i b c)=i:=by
 unfold idxOf dL;cases b<;>simp<;>omega
theorem Cu(i:Int)(b:Bool)(c:Int):dH (dL i b c)=b:=by
 unfold dH dL;cases b
 ·have:(i%65536+(if X=O then(1:Int)else 0)%2*65536+c%268435456*131072) / 65536%2=0:=zP;rw[this];rfl
 have:(i%65536+(if O=O then(1:Int)else 0)%2*65536+c%268435456*131072) / 65536%2=1:=zP;rw[this];rfl
theorem xG(i:Int)(b:Bool)(c:Int)(d:0<=c)(a:c<268435456):kH (dL i b c)=c:=by
 unfold kH dL;cases b<;>simp<;>omega
theorem Nz(n:Int):0<=idxOf n/\idxOf n<65536:=by unfold idxOf;omega
theorem gY{n:Int}(a:0<=n)(b:n<=40):idxOf (aV n)=n:=gw n X 0 a M
theorem jx{n:Int}(a:0<=n)(b:n<=40):idxOf (eQ n)=n:=gw n O 0 a M
theorem cP(n:Int):dH (aV n)=X:=Cu n X 0
theorem gu(n:Int):dH (eQ n)=O:=Cu n O 0
theorem zd{a b:Int}(c:0<=a)(e:a<=40)(d:0<=b)(f:b<=40)(h:aV a=aV b):a=b:=by
 rw[<- gY c e,h,gY d f]
theorem Ny{w n:Int}(a:0<=n)(b:n<=40):idxOf (dC w n)=n:=by
 unfold dC;rw[show n%65536=n by omega];exact gw n X _ a M
inductive Pl where
 | fr | ow (s:Nat) | li | dli (s:Nat) | sk | dsk (s:Nat) | sg
deriving DecidableEq
structure Gh where
 st:Int->Pl
 fl:List Int
 fc:Nat
 ls:List Int
 sk:List Int
 sg:List Int
 dd:Nat->List Int
 dl:Nat
 ds:Nat
 n:Nat
 tk:Nat
def Pl.isL:Pl->Bool
 | .li | .dli _=>O
 | _=>X
def Pl.isS:Pl->Bool
 | .sk | .dsk _=>O
 | _=>X
def dO{α:Type}(f:Int->α)(n:Int)(v:α):Int->α:=λx=>if x=n then v else f x
def fD{α:Type}(f:Nat->α)(n:Nat)(v:α):Nat->α:=λx=>if x=n then v else f x
theorem bn{α:Type}(f:Int->α)(n:Int)(v:α):dO f n v n=v:=by simp[dO]
theorem br{α:Type}(f:Int->α){n x:Int}(v:α)(h:x≠n):dO f n v x=f x:=by simp[dO,h]
theorem bL{α:Type}(f:Nat->α)(n:Nat)(v:α):fD f n v n=v:=by simp[fD]
theorem cQ{α:Type}(f:Nat->α){n x:Nat}(v:α)(h:x≠n):fD f n v x=f x:=by simp[fD,h]
def Chn(f:Int->Int):List Int->Prop
 | []=>True
 | [a]=>f a=0
 | a :: b :: r=>f a=b/\Chn f (b :: r)
theorem Chn.congr{f c:Int->Int}:∀ {l:List Int},(∀n∈l,c n=f n)->Chn f l->Chn c l
 | [],_,_=>trivial
 | [a],h,hc=>(h a zS).trans hc
 | a :: b :: r,h,hc=>⟨(h a zS).trans hc.1,Chn.congr (l:=b :: r) (λn d=>h n (cM _ d)) hc.2⟩
theorem Chn.tail{f:Int->Int}{a:Int}{l:List Int}(h:Chn f (a :: l)):Chn f l:=by
 cases l with
 | nil=>trivial
 | cons b r=>exact h.2
theorem Chn.head{f:Int->Int}{a:Int}{l:List Int}(h:Chn f (a :: l)):f a=l.headD 0:=by
 cases l with
 | nil=>exact h
 | cons b r=>exact h.1
theorem Chn.cons{f:Int->Int}{a:Int}{l:List Int}(h:Chn f l)(c:f a=l.headD 0):Chn f (a :: l):=by
 cases l with
 | nil=>exact c
 | cons b r=>exact⟨c,h⟩
def bT(m:Sm)(n:Int):Int:=m (.nd n 1)
def nzP(m:Sm)(n:Int)(i:Int):Nat:=if m (.nd n i)≠0 then 1 else 0
def rcP(m:Sm)(n:Int)(i:Int):Nat:=if m (.nd n i)=1 then 1 else 0
def mV(m:Sm)(n:Int):Nat:=nzP m n 1+nzP m n 2+nzP m n 3+nzP m n 4+nzP m n 5+(rcP m n 1+rcP m n 2+rcP m n 3+rcP m n 4+rcP m n 5)
def fJ(m:Sm)(l:List Int):Nat:=(l.map (mV m)).sum
def oa(m:Sm)(l:List Int):Nat:=l.countP λn=>bT m n%2==1
def ny(m:Sm)(l:List Int):Nat:=l.countP λn=>dH (m (.nd n 0))
structure Gl (m:Sm) (g:Gh):Prop where
 rng:∀n,g.st n≠ .fr->1<=n/\n<=40
 fw:m .free=dL (g.fl.headD 0) X g.fc
 fch:Chn (λn=>m (.nd n 7)) g.fl
 fmem:∀n,n∈g.fl ↔ (1<=n/\n<=40/\g.st n= .fr)
 fnd:g.fl.Nodup
 ftk:38<=g.fl.length+g.tk
 fcb:g.fc<268435456
 lhd:∃r,g.ls=1 :: r
 sa:Chn (λn=>idxOf (m (.nd n 0))) g.ls
 iu:∀n,n∈g.ls ↔ g.st n= .li
 iX:g.ls.Pairwise λa b=>bT m a<bT m b
 lwrd:∀n,(g.st n).isL=O->∃x,0<=x/\x<=40/\(m (.nd n 0)=aV x\/m (.nd n 0)=eQ x)/\(x=0\/(g.st x).isL=O/\bT m n<bT m x)
 lded:∀n s,g.st n= .dli s->dH (m (.nd n 0))=O
 lmrk:∀n,(g.st n).isL=O->dH (m (.nd n 0))=O->bT m n%2=1
 lkey:∀n,(g.st n).isL=O->0<=bT m n/\bT m n<131072/\(bT m n%2=0->bT m n=0\/bT m n=65536)
 l1:bT m 1=0
 b0:m (.bucket 0)=aV 1
 b1:m (.bucket 1)=0\/∃d,(g.st d).isL=O/\bT m d=65536/\m (.bucket 1)=aV d
 msz:m .msize=1\/m .msize=2
 tpw:∃c,m .top=dL (g.sk.headD 0) X c
 sch:Chn (λn=>m (.nd n 0)) g.sk
 smem:∀n,n∈g.sk ↔ g.st n= .sk
 snd:g.sk.Nodup
 snx:∀n,(g.st n).isS=O->m (.nd n 0)=0\/(g.st (m (.nd n 0))).isS=O
 chd:∃c,m .head=dL 2 X c
 c2:∃r,g.sg=2 :: r
 qS:∃x c,x∈g.sg/\m .tail=dL x X c
 cch:Chn (λn=>m (.nd n 0)) g.sg
 cmem:∀n,n∈g.sg ↔ g.st n= .sg
 cnd:g.sg.Nodup
 cfst:∀n∈g.sg,n≠2->m (.nd n 1)≠0
 cful:∀n∈g.sg,m (.nd n 0)≠0->∀i,1<=i->i<=5->m (.nd n i)≠0
 cval:∀n∈g.sg,∀i,1<=i->i<=5->0<=m (.nd n i)/\m (.nd n i)<=4294967297
 dmem:∀s n,n∈g.dd s ↔ (g.st n= .dli s\/g.st n= .dsk s)
 dnd:∀s,(g.dd s).Nodup
 dlen:∀s,(g.dd s).length<=g.dl+g.ds
 cnt:oa m g.ls+g.dl+(ny m g.ls+g.dl)+(g.sk.length+g.ds)+g.ds+fJ m g.sg<=g.n
structure Env (s:Nat) (m:Sm) (g:Gh) (m':Sm) (g':Gh):Prop where
 isL:∀n,(g.st n).isL=O->(g'.st n).isL=O/\m' (.nd n 1)=m (.nd n 1)/\m' (.nd n 2)=m (.nd n 2)
 mrk:∀n,(g.st n).isL=O->dH (m (.nd n 0))=O->m' (.nd n 0)=m (.nd n 0)
 isS:∀n,(g.st n).isS=O->(g'.st n).isS=O/\m' (.nd n 0)=m (.nd n 0)/\m' (.nd n 1)=m (.nd n 1)
 isC:∀n,g.st n= .sg->g'.st n= .sg/\(m (.nd n 0)≠0->m' (.nd n 0)=m (.nd n 0))/\∀i,1<=i->i<=5->(m (.nd n i)≠0->m' (.nd n i)=m (.nd n i)\/m' (.nd n i)=1)
 own:∀n t,g.st n= .ow t->t≠s->g'.st n= .ow t/\∀i,m' (.nd n i)=m (.nd n i)
 got:∀n t,g'.st n= .ow t->t≠s->g.st n= .ow t
 fcl:g.fc<=g'.fc
 fcu:g'.fc<=g.fc+1
 fce:g'.fc=g.fc->m' .free=m .free/\g'.fl=g.fl/\∀n∈g.fl,m' (.nd n 7)=m (.nd n 7)
 ddo:∀t,t≠s->g'.dd t=g.dd t
section
open Go.RowKit
theorem IF{o:Oper}{a:Act}{x:vn}{w:W}{ty:bM}{g:Nat}{v:I}(ho:o.op= .load ty x)(hx:a.eval x=ptr g)(hl:(cL ty ⟨g,0,Y⟩).run ao w= .ok v w):(nO a.eval o).run ao w= .ok (.value v) w:=by
 unfold nO;simp only[ho,hx,ptr,Instr.loadAt,uS,cD,dF,bC,hl]
theorem zL{p:Prop}(h:p:=by(repeat' (first|exact bd|refine al ⟨_,Z,.inl ⟨Z,?_⟩⟩ ?_));all_goals first|exact IF Z Z (by assumption)|((try simp only[au,ar,an,Act.put,ak,ay,az]);go_simp;done)):p:=h
variable {tmp:Nat->Nat} {i:Nat} {d:Nat->Bool} {v:I}
section
variable {P:J4} {ops:Array Oper} {Q:Exit->Act->W->Prop} {md:Region.Mode} {S:W->Prop} {E:Nat->Bool}
def ba(tmp:Nat->Nat)(val:Nat->Option I):List Nat->Act->Act
 | [],a=>a
 | i :: U,a=>ba tmp val U (match val i with | some v=>a.put (J (tmp i)) v | none=>a)
def dj(d:Nat->Bool):List Nat->Array Bool->Array Bool
 | [],l=>l
 | i :: U,l=>dj d U (if d i then l.setIfInBounds i O else l)
def upd(val:Nat->Option I)(i:Nat)(v:I):Nat->Option I:=λj=>if j=i then J v else val j
theorem Kp(a:Act)(x y:Nat)(v u:I)(c:x≠y):(a.put (J x) v).put (J y) u=(a.put (J y) u).put (J x) v:=Act.put_comm a v u (λd hd b=>by injection hd with hd;injection b with b;omega)
theorem Lv{val:Nat->Option I}{t:Nat}:∀(U:List Nat) (a:Act),(∀i∈U,tmp i≠t)->(ba tmp val U a).put (J t) v=ba tmp val U (a.put (J t) v):=by
 intro U;induction U with
 | nil=>intro a _;rfl
 | cons i U b=>
  intro a h;simp only[ba];rw[b _ (λj c=>h j (by simp[c]))];congr 1;cases val i with
  | none=>rfl
  | some u=>exact Kp a (tmp i) t u v (h i zS)
theorem Dw{val b:Nat->Option I}:∀(U:List Nat) (a:Act),(∀i∈U,val i=b i)->ba tmp val U a=ba tmp b U a:=by
 intro U;induction U with
 | nil=>intro a _;rfl
 | cons i U c=>intro a h;simp only[ba];rw[h i zS];exact c _ (λj d=>h j (by simp[d]))
theorem Aa{val:Nat->Option I}:∀(U:List Nat) (a:Act),U.Nodup->(∀j∈U,j≠i->tmp j≠tmp i)->i∈U->val i=Y->(ba tmp val U a).put (J (tmp i)) v=ba tmp (upd val i v) U a:=by
 intro U;induction U with
 | nil=>intro a _ _ hi;cases hi
 | cons k U l=>
  intro a c f hi d;obtain⟨g,c⟩:=cS.1 c;by_cases e:k=i
  ·subst e;simp only[ba,d];rw[Lv U a (λj b=>f j (by simp[b]) (λe=>g (e ▸ b)))];rw[show upd val k v k=J v from by simp[upd]];exact Dw U _ (λj b=>by simp[upd,show j≠k from λe=>g (e ▸ b)])
  have m:i∈U:=by rcases aL.1 hi with h|h;exact absurd h.symm e;exact h
  simp only[ba];rw[l _ c (λj b=>f j (by simp[b])) m d,show upd val i v k=val k from by simp[upd,e]]
theorem KC:∀(U:List Nat) (l:Array Bool),(∀j∈U,j≠i)->(dj d U l).setIfInBounds i O=dj d U (l.setIfInBounds i O):=by
 intro U;induction U with
 | nil=>intro l _;rfl
 | cons k U a=>
  intro l h;simp only[dj];rw[a _ (λj b=>h j (by simp[b]))];congr 1;split
  ·exact Array.setIfInBounds_comm _ _ (h k zS)
  rfl
theorem pn{a:Nat->Bool}:∀(U:List Nat) (l:Array Bool),(∀i∈U,d i=a i)->dj d U l=dj a U l:=by
 intro U;induction U with
 | nil=>intro l _;rfl
 | cons i U b=>intro l h;simp only[dj];rw[h i zS];exact b _ (λj c=>h j (by simp[c]))
theorem pV:∀(U:List Nat) (l:Array Bool),U.Nodup->i∈U->d i=X->(dj d U l).setIfInBounds i O=dj (λj=>j==i||d j) U l:=by
 intro U;induction U with
 | nil=>intro l _ hi;cases hi
 | cons k U f=>
  intro l a hi hd;obtain⟨c,a⟩:=cS.1 a;by_cases e:k=i
  ·subst e;simp only[dj,hd];rw[if_neg zS,KC (i:=k) U l (λj b (e:j=k)=>c (e ▸ b)),if_pos zS];exact pn U _ (λj b=>by simp[show j≠k from λe=>c (e ▸ b)])
  have g:i∈U:=by rcases aL.1 hi with h|h;exact absurd h.symm e;exact h
  simp only[dj];rw[f _ a g hd];congr 1;simp[e]
end
end
section
open Go.RowKit
variable {a:Act} {w:W} {i t:Nat} {tmp:Nat->Nat} {o:Oper} {K:Act->W->Prop} {c:Array Bool} {d:Nat->Bool} {v:I}
section
variable {P:J4} {ops:Array Oper} {Q:Exit->Act->W->Prop} {md:Region.Mode} {S:W->Prop} {E:Nat->Bool}
theorem BK(A:∀B b,o.op≠ .select B b){m:Act}(l:∀x∈o.op.operands,m.eval x=a.eval x){y:I->W->Prop}(s:∀t,o.dst=J t->t<a.tmps.size)(h:o.wp P a w (λb q=>∃v,b=a.put o.dst v/\y v q) (λ_ _ _=>False)){Q:Exit->Act->W->Prop}(i:∀v q,y v q->K (m.put o.dst v) q):o.wp P m w K Q:=by
 unfold Oper.wp at *;rw[execOp_congr o A l];have D:∀v,a.put o.dst undef=a.put o.dst v->m.put o.dst undef=m.put o.dst v:=by
  intro v g;cases hd:o.dst with
  | none=>rfl
  | some t=>
   rw[hd]at g;have j:=s t hd;have:(a.put (J t) undef).tmps[t]? =(a.put (J t) v).tmps[t]?:=by rw[g]
   simp only[Act.put]at this;rw[bK j,bK j]at this;injection this with this;rw[this]
 generalize (nO a.eval o).run P w=r at *;cases r with
 | ok n z=>
  cases n<;>simp only[Oper.upon]at h ⊢
  case value u=>
   obtain⟨v,g,k⟩:=h;cases hd:o.dst with
   | none=>rw[hd]at i;exact i v _ k
   | some t=>
    rw[hd]at g i;have j:=s t hd;have:(a.put (J t) u).tmps[t]? =(a.put (J t) v).tmps[t]?:=by rw[g]
    simp only[Act.put]at this;rw[bK j,bK j]at this;injection this with this;rw[this];exact i v _ k
  case skip=>
   obtain⟨v,g,k⟩:=h;rw[D v g];exact i v _ k
  case defer d=>
   obtain⟨v,g,k⟩:=h;have:(({ a with defers:=d :: a.defers }:Act).put o.dst undef).defers=(a.put o.dst v).defers:=by rw[g]
   exfalso;cases hd:o.dst with
   | none=>rw[hd]at this;simp only[Act.put]at this;have:=congrArg List.length this;simp at this
   | some t=>rw[hd]at this;simp only[Act.put]at this;have:=congrArg List.length this;simp at this
  case enter f args=>
   refine U.mono h λe C l=>?_;cases e with
   | returned u=>
    obtain⟨v,g,k⟩:=l;cases hd:o.dst with
    | none=>rw[hd]at i;exact i v _ k
    | some t=>
     rw[hd]at g i;have j:=s t hd;have:(a.put (J t) u).tmps[t]? =(a.put (J t) v).tmps[t]?:=by rw[g]
     simp only[Act.put]at this;rw[bK j,bK j]at this;injection this with this;rw[this];exact i v _ k
   | panicked c=>exact l.elim
   | outgrown=>exact absurd l (by simp[LetsOut])
  refine Rows.mono h λu C l=>?_;obtain⟨v,g,k⟩:=l;cases hd:o.dst with
  | none=>rw[hd]at i;exact i v _ k
  | some t=>
   rw[hd]at g i;have j:=s t hd;have:(a.put (J t) u).tmps[t]? =(a.put (J t) v).tmps[t]?:=by rw[g]
   simp only[Act.put]at this;rw[bK j,bK j]at this;injection this with this;rw[this];exact i v _ k
 | halt x z=>cases x<;>simp only[Oper.upon]at h ⊢<;>first|exact h | exact h.elim
def uF(md:Region.Mode)(ops:Array Oper)(i j:Nat):Bool:=((ops[i]?).map λo=>o.after.any λe=>Region.binds md e&&e.on==j).getD X
def tA(md:Region.Mode)(ops:Array Oper):Nat->Nat->Nat->Bool
 | 0,i,j=>uF md ops i j
 | k+1,i,j=>uF md ops i j||(eF ops.size).any λu=>uF md ops i u&&tA md ops k u j
def selB:Op->Bool
 | .select ..=>O
 | _=>X
def B8(U:List Nat)(tmp:Nat->Nat)(a:List Nat):vn->Bool
 | .tmp t=>a.any (λj=>tmp j==t)||U.all (λj=>tmp j != t)
 | _=>O
def Bo(ops:Array Oper)(U:List Nat)(tmp:Nat->Nat):Option (Nat × Bool)->Bool
 | none=>O
 | some (g,_)=>U.all λj=>decide ((ops[g]?).bind (·.dst)≠J (tmp j))
def C9(md:Region.Mode)(ops:Array Oper)(a:Array Bool)(U:List Nat)(tmp:Nat->Nat)(pre:Nat->List Nat)(b:Array I):Bool:=
 a.size==ops.size&&
 ((eF ops.size).all λi=>!a.getD i O||((ops[i]?).map λo=>o.after.all λe=>!Region.binds md e||a.getD e.on X).getD O)&&
 ((eF ops.size).all λi=>a.getD i O||U.contains i||U.all λu=>tA md ops 8 i u)&&
 (U.all λi=>!a.getD i O&&(((ops[i]?).map λo=>(sZ o (yielded ops b)&&Bo ops U tmp o.guard)&&!selB o.op&&(decide (o.dst=J (tmp i)/\tmp i<b.size)||decide (o.dst=Y/\b.size<=tmp i))&&(o.after.all λe=>!Region.binds md e||a.getD e.on X||(U.contains e.on&&decide (e.on<i)))
  &&o.op.operands.all (B8 U tmp (pre i))).getD X)&&((pre i).all λj=>U.contains j&&uF md ops i j)&&decide (pre i).Nodup&&decide (∀j∈pre i,j≠i))&&
 (U.all λi=>U.all λj=>i==j||tmp i != tmp j)&&decide U.Nodup
theorem mq{j:Nat}(h:uF md ops i j=O):∃o,ops[i]? =J o/\∃e∈o.after,Region.binds md e=O/\e.on=j:=by
 unfold uF at h;cases ho:ops[i]? with
 | none=>rw[ho]at h;cases h
 | some o=>
  rw[ho]at h;simp only[Option.map_some,Option.getD_some]at h;obtain⟨k,b,a⟩:=Array.any_eq_true.1 h;simp only[bN,beq_iff_eq]at a;exact⟨o,Z,o.after[k],Array.getElem_mem b,a.1,a.2⟩
def xX(md:Region.Mode)(ops:Array Oper)(a:Array Bool):Prop:=∀i o,ops[i]? =J o->a.getD i O=O->∀e∈o.after,Region.binds md e=O->a.getD e.on X=O
theorem nD(h:i<c.size)(a b:Bool):c.getD i a=c.getD i b:=by simp[Array.getD,h]
theorem vZ(t:c.size=ops.size)(g:xX md ops c):∀(k i j:Nat),tA md ops k i j=O->(∀o,ops[i]? =J o->∀e∈o.after,Region.binds md e=O->c.getD e.on X=O)->c.getD j X=O:=by
 intro k;induction k with
 | zero=>
  intro i j h hi;obtain⟨o,ho,e,a,b,rfl⟩:=mq h;exact hi o ho e a b
 | succ k l=>
  intro i j h hi;simp only[tA,Bool.or_eq_true,List.any_eq_true,lK,bN]at h;rcases h with h|⟨u,s,m,q⟩
  ·obtain⟨o,ho,e,a,b,rfl⟩:=mq h;exact hi o ho e a b
  obtain⟨o,ho,e,a,b,rfl⟩:=mq m;have d:=hi o ho e a b;exact l e.on j q (λn f=>g e.on n f (by rw[nD M O X];exact d))
theorem wX:∀(U:List Nat) (l:Array Bool),(dj d U l).size=l.size:=by
 intro U;induction U with
 | nil=>intro l;rfl
 | cons i U a=>intro l;simp only[dj];rw[a];split<;>simp
theorem zB(x:Bool)(j:Nat):∀(U:List Nat) (l:Array Bool),j<l.size->(dj d U l).getD j x=(l.getD j x||(U.contains j&&d j)):=by
 intro U;induction U with
 | nil=>intro l _;simp[dj]
 | cons i U c=>
  intro l a;simp only[dj];rw[c _ (by split<;>simpa using a)];by_cases e:j=i
  ·subst e;cases hd:d j with
   | true=>simp[Array.getD,a]
   | false=>simp
  have b:i≠j:=λq=>e q.symm;have f:(j==i)=X:=by simp[e]
  have g:(if d i=O then l.setIfInBounds i O else l).getD j x=l.getD j x:=by
   cases d i with
   | true=>exact getD_set_ne x b
   | false=>rfl
  rw[g,List.contains_cons,f,Bool.false_or]
theorem gQ{val:Nat->Option I}{x:vn}:∀(U:List Nat) (a:Act),(∀j∈U,x≠ .tmp (tmp j))->(ba tmp val U a).eval x=a.eval x:=by
 intro U;induction U with
 | nil=>intro a _;rfl
 | cons i U b=>
  intro a h;simp only[ba];rw[b _ (λj c=>h j (by simp[c]))];cases val i with
  | none=>rfl
  | some v=>exact Act.eval_put (λd hd=>by injection hd with hd;subst hd;exact h i zS)
theorem fP{val:Nat->Option I}:∀(U:List Nat) (a:Act),(ba tmp val U a).tmps.size=a.tmps.size:=by
 intro U;induction U with
 | nil=>intro a;rfl
 | cons i U b=>
  intro a;simp only[ba];rw[b];cases val i with
  | none=>rfl
  | some v=>simp[Act.put]
theorem sA(h:a.tmps.size<=t):a.eval (.tmp t)=undef:=by
 simp[Act.eval,Array.getD,Nat.not_lt.2 h]
theorem yD(h:t<a.tmps.size):(a.put (J t) v).eval (.tmp t)=v:=by
 simp[Act.put,Act.eval,h]
theorem sN{val:Nat->Option I}:∀(U:List Nat) (a:Act),U.Nodup->(∀j∈U,j≠i->tmp j≠tmp i)->i∈U->val i=J v->tmp i<a.tmps.size->(ba tmp val U a).eval (.tmp (tmp i))=v:=by
 intro U;induction U with
 | nil=>intro a _ _ hi;cases hi
 | cons k U l=>
  intro a c g hi f d;obtain⟨n,c⟩:=cS.1 c;by_cases e:k=i
  ·subst e;simp only[ba,f];rw[gQ U _ (λj b q=>g j (by simp[b]) (λe=>n (e ▸ b)) (by injection q with q;exact q.symm))];exact yD d
  have m:i∈U:=by rcases aL.1 hi with h|h;exact absurd h.symm e;exact h
  simp only[ba];refine l _ c (λj b=>g j (by simp[b])) m f ?_;cases val k with
  | none=>exact d
  | some u=>simpa[Act.put] using d
theorem BL(ho:ops[i]? =J o)(b:sZ o (yielded ops a.tmps)=O)(h:o.wp P a w K Q):wpOp P ops Q i K a w:=by
 unfold wpOp;simp only[ho];rw[if_pos b];exact .inl h
theorem rN{U:List Nat}{val:Nat->Option I}(h:Bo ops U tmp o.guard=O):sZ o (yielded ops (ba tmp val U a).tmps)=sZ o (yielded ops a.tmps):=by
 unfold sZ;cases d:o.guard with
 | none=>rfl
 | some n=>
  obtain⟨g,s⟩:=n;rw[d]at h;have f:∀j∈U,(ops[g]?).bind (·.dst)≠J (tmp j):=λj b=>of_decide_eq_true (cJ.1 h j b);have l:∀(V:List Nat) (a:Act),(∀j∈V,(ops[g]?).bind (·.dst)≠J (tmp j))->yielded ops (ba tmp val V a).tmps g=yielded ops a.tmps g:=by
   intro V;induction V with
   | nil=>intro a _;rfl
   | cons i V m=>
    intro a c;simp only[ba];rw[m _ (λj b=>c j (by simp[b]))];cases val i with
    | none=>rfl
    | some v=>
     unfold yielded;cases q:(ops[g]?).bind (·.dst)with
     | none=>rfl
     | some t=>
      have k:tmp i≠t:=λe=>c i zS (by rw[q,e]);simp[Act.put,Array.getElem?_setIfInBounds_ne k]
  simp only[l U a f]
theorem jR{listed:Array Bool}(U:List Nat)(tmp:Nat->Nat)(pre:Nat->List Nat)(T:World->Prop)(N:Nat->World->Prop)(G:Nat->World->World->Prop)(R:Nat->(Nat->Option I)->I->World->Prop)(fC:C9 md ops listed U tmp pre a.tmps=O)(hE:∀i∈U,E i=X)(hS:∀w1,T w1->S w1)(hT0:T w)(hT:∀i∈U,∀w1 f,T w1->G i w1 f->T f)(hN0:∀i∈U,N i w)(hN:∀i∈U,∀j∈U,i≠j->∀w1 f,T w1->N i w1->G j w1 f->N i f)(hR:∀i∈U,∀j∈U,i≠j->∀val v u w1 f,T w1->val i=J v->val j=Y->(∀p∈pre j,∃x,val p=J x)->R i val v w1->G j w1 f->R i (upd val j u) v f)(NO:∀i∈U,∀o,ops[i]? =J o->∀(val:Nat->Option I) (w1:World) (K:Act->World->Prop),val i=Y->T w1->N i w1->(∀j∈pre i,∃v,val j=J v/\R j val v w1)->
   (∀v f,R i (upd val i v) v f->G i w1 f->K ((ba tmp val (pre i) a).put (J (tmp i)) v) f)->o.wp P (ba tmp val (pre i) a) w1 K (λ_ _ _=>False))(fuel:Nat)(h:∀val w',(∀i∈U,∃v,val i=J v/\R i val v w')->T w'->dV P md ops Q S E fuel (dj (λi=>(val i).isSome) U listed) (ba tmp val U a) w'):
  dV P md ops Q S E (fuel+U.length) listed a w:=by
 simp only[C9,bN]at fC;obtain⟨⟨⟨⟨⟨o1,o2⟩,o3⟩,o4⟩,o5⟩,o6⟩:=fC;have rI:listed.size=ops.size:=by simpa using o1
 have B:U.Nodup:=of_decide_eq_true o6;have IA:∀i∈U,∀j∈U,j≠i->tmp j≠tmp i:=by
  intro i hi j d M e;have:=cJ.1 (cJ.1 o5 i hi) j d;simp only[Bool.or_eq_true,beq_iff_eq,bne_iff_ne]at this;rcases this with h|h
  ·exact M h.symm
  exact h e.symm
 have F:∀i∈U,listed.getD i O=X/\∃o,ops[i]? =J o/\(sZ o (yielded ops a.tmps)=O/\Bo ops U tmp o.guard=O)/\(∀cs b,o.op≠ .select cs b)/\((o.dst=J (tmp i)/\tmp i<a.tmps.size)\/(o.dst=Y/\a.tmps.size<=tmp i))/\(∀e∈o.after,Region.binds md e=O->listed.getD e.on X=O\/(e.on∈U/\e.on<i))/\
   (∀x∈o.op.operands,∀t,x= .tmp t->(∃j∈pre i,tmp j=t)\/∀j∈U,tmp j≠t)/\(∀j∈pre i,j∈U/\uF md ops i j=O)/\(pre i).Nodup/\∀j∈pre i,j≠i:=by
  intro i hi;have h:=cJ.1 o4 i hi;simp only[bN,Bool.not_eq_true',decide_eq_true_eq]at h;obtain⟨⟨⟨⟨g,z⟩,h3⟩,h4⟩,h5⟩:=h;cases ho:ops[i]? with
  | none=>rw[ho]at z;cases z
  | some o=>
   rw[ho]at z;simp only[Option.map_some,Option.getD_some,bN,Bool.or_eq_true,Bool.not_eq_true',decide_eq_true_eq]at z;obtain⟨⟨⟨⟨g1,g2⟩,g3⟩,g5⟩,g6⟩:=z;refine⟨g,o,Z,g1,(λcs b e=>by rw[e]at g2;cases g2),g3,λe y n=>?_,λx qc t L=>?_,λj d=>?_,h4,h5⟩
   ·have:=(Array.all_eq_true_iff_forall_mem.1 g5) e y;simp only[n,Bool.not_true,Bool.false_or,Bool.or_eq_true,bN,decide_eq_true_eq,List.contains_iff_mem]at this;exact this
   ·have u0:B8 U tmp (pre i) x=O:=by
     first|exact(cJ.1 g6) x qc|exact(Array.all_eq_true_iff_forall_mem.1 g6) x qc
    subst L;simp only[B8,Bool.or_eq_true,List.any_eq_true,beq_iff_eq,cJ,bne_iff_ne]at u0;exact u0
   have:=cJ.1 h3 j d;simp only[bN,List.contains_iff_mem]at this;exact this
 have CU:xX md ops listed:=by
  intro i o ho A e y n;have V:i<ops.size:=(a9.1 ho).1;have h:=cJ.1 o2 i (lK.2 V);rw[A,ho]at h;simp only[Bool.not_true,Bool.false_or,Option.map_some,Option.getD_some]at h;have:=(Array.all_eq_true_iff_forall_mem.1 h) e y
  simpa[n] using this
 have uB:∀i,i<ops.size->listed.getD i O=X->i∉U->∀u∈U,tA md ops 8 i u=O:=by
  intro i hi A qf u F;have h:=cJ.1 o3 i (lK.2 hi);rw[A]at h;simp only[Bool.false_or,Bool.or_eq_true,List.contains_iff_mem,cJ]at h;rcases h with h|h
  ·exact absurd h qf
  exact h u F
 have main:∀(k:Nat) (val:Nat->Option I) (w1:World),(U.filter λi=>(val i).isNone).length=k->T w1->xX md ops (dj (λi=>(val i).isSome) U listed)->(∀i∈U,∀v,val i=J v->R i val v w1)->(∀i∈U,val i=Y->N i w1)->dV P md ops Q S E (fuel+k) (dj (λi=>(val i).isSome) U listed) (ba tmp val U a) w1:=by
  intro k;induction k with
  | zero=>
   intro val w1 hk qd tR hv qf;refine h val w1 (λi hi=>?_) qd;cases e:val i with
   | some v=>exact⟨v,Z,hv i hi v e⟩
   | none=>
    have:=List.length_eq_zero_iff.1 hk;have hm:i∈U.filter λi=>(val i).isNone:=jF.2 ⟨hi,by simp[e]⟩;rw[this]at hm;cases hm
  | succ k ih=>
   intro val w1 hk qd tR hv qf;have hls:(dj (λi=>(val i).isSome) U listed).size=ops.size:=by rw[wX,rI]
   have qe:∀x j,j<ops.size->(dj (λi=>(val i).isSome) U listed).getD j x=(listed.getD j x||(U.contains j&&(val j).isSome)):=λx j d=>zB x j U listed zO;refine⟨λh0=>?_,λi hi=>?_⟩
   ·-- the least that is not done is ready
    exfalso;have hex:∀(m:Nat) (i:Nat),i<m->i∈U->val i=Y->False:=by
     intro m;induction m with
     | zero=>intro i hi;omega
     | succ m ihm=>
      intro i hi hU C;obtain⟨u1,o,ho,u2,u3,u4,u6,u7,u8⟩:=F i hU;have V:i<ops.size:=(a9.1 ho).1;have NG:i∈lJ md ops (dj (λi=>(val i).isSome) U listed):=by
       refine mem_ready.2 ⟨by rw[qe O i V,u1,C];simp,o,ho,λe y n=>?_⟩;rcases u6 e y n with g|⟨g,z⟩
       ·have qb:e.on<ops.size:=by
         rcases Nat.lt_or_ge e.on listed.size with q|q
         ·omega
         simp[Array.getD,Nat.not_lt.2 q]at g
        rw[qe X e.on qb,g];rfl
       obtain⟨v1,o',D,_⟩:=F e.on g;have qb:e.on<ops.size:=(a9.1 D).1;rw[qe X e.on qb];cases hve:val e.on with
       | none=>exact(ihm e.on zO g hve).elim
       | some v=>simp[g]
      rw[h0]at NG;cases NG
    have su:0<(U.filter λi=>(val i).isNone).length:=zO;obtain⟨i,hi⟩:=List.exists_mem_of_length_pos su;obtain⟨g,z⟩:=jF.1 hi;exact hex (i+1) i zO g (by simpa using z)
   obtain⟨hun,oi,Iv,eI⟩:=mem_ready.1 hi;have V:i<ops.size:=(a9.1 Iv).1;rw[qe O i V,Bool.or_eq_false_iff]at hun;have s:i∈U:=by
    refine db λva=>?_;have su:0<(U.filter λi=>(val i).isNone).length:=zO;obtain⟨u,hu1⟩:=List.exists_mem_of_length_pos su;obtain⟨g,z⟩:=jF.1 hu1;have hrb:=uB i V hun.1 va u g;have:=vZ hls tR 8 i u hrb (λo ho e y n=>by
     rw[Iv]at ho;injection ho with ho;subst ho;exact eI e y n)
    obtain⟨v1,o',D,_⟩:=F u g;have qb:u<ops.size:=(a9.1 D).1;rw[qe X u qb,nD zO X O,v1]at this;simp only[Bool.false_or,bN]at this;cases hvu:val u with
    | none=>rw[hvu]at this;simp at this
    | some v=>rw[hvu]at z;simp at z
   have C:val i=Y:=by
    cases e:val i with
    | none=>rfl
    | some v=>rw[e]at hun;simp[s]at hun
   obtain⟨u1,o,ho,u2,u3,u4,u6,u7,u8,u9,u10⟩:=F i s;have fA:∀j∈pre i,∃v,val j=J v/\R j val v w1:=by
    intro j d;obtain⟨j1,j2⟩:=u8 j d;obtain⟨o',D,e,y,n,hon⟩:=mq j2;rw[Iv]at D;injection D with D;subst D;have A:=eI e y n;obtain⟨v1,o'',ho'',_⟩:=F j j1;have qb:j<ops.size:=(a9.1 ho'').1;rw[hon,qe X j qb,nD zO X O,v1]at A;cases AV:val j with
    | none=>rw[AV]at A;simp at A
    | some v=>exact⟨v,Z,hv j j1 v AV⟩
   have N2:∀x∈o.op.operands,(ba tmp val U a).eval x=(ba tmp val (pre i) a).eval x:=by
    intro x qc;by_cases hxt:∃t,x= .tmp t
    ·obtain⟨t,rfl⟩:=hxt;rcases u7 _ qc t rfl with⟨j,d,rfl⟩|tQ
     ·obtain⟨v,AV,_⟩:=fA j d;have hjU:=(u8 j d).1;obtain⟨_,_,_,_,_,H,_⟩:=F j hjU;rcases H with⟨_,H⟩|⟨_,H⟩
      ·rw[sN U a B (λq hq M=>IA j hjU q hq M) hjU AV H,sN (pre i) a u9 (λq hq M=>IA j hjU q (u8 q hq).1 M) d AV H]
      rw[sA (by rw[fP];exact H),sA (by rw[fP];exact H)]
     rw[gQ U a (λj d q=>tQ j d (by injection q with q;exact q.symm)),gQ (pre i) a (λj d q=>tQ j (u8 j d).1 (by injection q with q;exact q.symm))]
    rw[gQ U a (λj d q=>hxt ⟨_,q⟩),gQ (pre i) a (λj d q=>hxt ⟨_,q⟩)]
   have NI:∀(b:Act),b.tmps.size=a.tmps.size->∀v,b.put o.dst v=b.put (J (tmp i)) v:=by
    intro b n v;rcases u4 with⟨e,_⟩|⟨e,BG⟩
    ·rw[e]
    rw[e];have:b.tmps.setIfInBounds (tmp i) v=b.tmps:=Array.setIfInBounds_eq_of_size_le zO;simp only[Act.put,this]
   have hwp:=NO i s o ho val w1 (λb f=>∃v,b=(ba tmp val (pre i) a).put o.dst v/\(R i (upd val i v) v f/\G i w1 f)) C qd (qf i s C) fA (λv f hr hg=>⟨v,(NI _ (fP _ _) v).symm,hr,hg⟩);refine BL ho (by rw[rN u2.2];exact u2.1) (BK u3 N2 (λt L=>by rw[fP];rcases u4 with⟨e,h5⟩|⟨e,_⟩<;>(rw[e]at L;first|(injection L with L;exact L ▸ h5)|cases L)) hwp λv f ⟨hRv,hGv⟩=>?_);have hT2:=hT i s w1 f qd hGv;refine⟨λ_ _=>hS _ hT2,?_⟩;have A:dj (λj=>j==i||(val j).isSome) U listed=dj (λj=>(upd val i v j).isSome) U listed:=pn U _ (λj _=>by by_cases e:j=i<;>simp[upd,e]);rw[NI _ (fP _ _) v,Aa U a B (λj d M=>IA i s j d M) s C,pV U listed B s (by simp[C]),A];refine ih (upd val i v) f ?_ hT2 ?_ (λj d u qa=>?_) (λj d KS=>?_)
   ·have IC:∀(U:List Nat),U.Nodup->i∈U->(U.filter λj=>(upd val i v j).isNone).length+1=(U.filter λj=>(val j).isNone).length:=by
     intro U;induction U with
     | nil=>intro _ hi;cases hi
     | cons c U ih2=>
      intro B hi;obtain⟨hc,B⟩:=cS.1 B;by_cases e:c=i
      ·subst e;have hs:U.filter (λj=>(upd val c v j).isNone)=U.filter (λj=>(val j).isNone):=List.filter_congr (λj d=>by simp[upd,show j≠c from λe=>hc (e ▸ d)]);simp[upd,C];rw[<- hs];rfl
      have NW:i∈U:=by rcases aL.1 hi with h|h;exact absurd h.symm e;exact h
      have:=ih2 B NW;simp only[List.filter_cons,show upd val i v c=val c from by simp[upd,e]];split<;>simp_all
    have:=IC U B s;omega
   ·rw[<- A,<- pV U listed B s (by simp[C])];intro j oj W hlj e y n;have hltj:j<ops.size:=(a9.1 W).1;by_cases ej:i=j
    ·subst ej;rw[Iv]at W;injection W with W;subst W;exact getD_set_true (eI e y n)
    rw[getD_set_ne O ej]at hlj;exact getD_set_true (tR j oj W hlj e y n)
   ·by_cases e:j=i
    ·subst e;rw[show upd val j v j=J v from by simp[upd]]at qa;injection qa with qa;subst qa;exact hRv
    rw[show upd val i v j=val j from by simp[upd,e]]at qa;exact hR j d i s e val u v w1 f qd qa C (λp hp=>let ⟨x,qc,_⟩:=fA p hp;⟨x,qc⟩) (hv j d u qa) hGv
   have e:j≠i:=by rintro rfl;simp[upd]at KS
   rw[show upd val i v j=val j from by simp[upd,e]]at KS;exact hN j d i s e w1 f qd (qf j d KS) hGv
 have xh:∀(U:List Nat) (l:Array Bool),dj (λi=>((λ_=>Y:Nat->Option I) i).isSome) U l=l:=by
  intro U;induction U with
  | nil=>intro l;rfl
  | cons i U ih=>intro l;simp only[dj];exact ih l
 have AW:∀(U:List Nat) (a:Act),ba tmp (λ_=>Y) U a=a:=by
  intro U;induction U with
  | nil=>intro a;rfl
  | cons i U ih=>intro a;simp only[ba];exact ih a
 have hlen:(U.filter λi=>((λ_=>Y:Nat->Option I) i).isNone).length=U.length:=congrArg List.length (List.filter_eq_self.2 λi _=>Z);have:=main U.length (λ_=>Y) w hlen hT0 (by rw[xh];exact CU) (λi _ v e=>by cases e) (λi hi _=>hN0 i hi);rw[xh,AW]at this;exact this
theorem eh{k:Array Bool}(U:List Nat)(tmp:Nat->Nat)(pre:Nat->List Nat)(R:Nat->(Nat->Option I)->I->W->Prop)(F:C9 md ops k U tmp pre a.tmps=O)(hE:∀i∈U,E i=X)(qc:∀b,D w.heap.size w b->S b)(s:∀i val n v b c,(∀j u,val j=J u->n j=J u)->D b.heap.size b c->R i val v b->R i n v c)(C:∀i∈U,∃o,ops[i]? =J o/\∀(val:Nat->Option I) (b:W) (K:Act->W->Prop),D w.heap.size w b->(∀j∈pre i,∃v,val j=J v/\R j val v b)->
   (∀v c,R i val v c->D b.heap.size b c->K ((ba tmp val (pre i) a).put (J (tmp i)) v) c)->o.wp P (ba tmp val (pre i) a) b K (λ_ _ _=>False))(fuel:Nat)(h:∀val f,(∀i∈U,∃v,val i=J v/\R i val v f)->D w.heap.size w f->dV P md ops Q S E fuel (dj (λi=>(val i).isSome) U k) (ba tmp val U a) f):
  dV P md ops Q S E (fuel+U.length) k a w:=by
 have q:∀(val:Nat->Option I) i u,val i=Y->∀j x,val j=J x->upd val i u j=J x:=by
  intro val i u qb j x g;simp only[upd];split
  ·rename_i e;subst e;rw[qb]at g;cases g
  exact g
 refine jR U tmp pre (λb=>D w.heap.size w b) (λ_ _=>True) (λ_ b c=>D b.heap.size b c) R F hE qc bS (λi _ b c A B=>aE A B) (λ_ _=>trivial) (λ_ _ _ _ _ _ _ _ _ _=>trivial)
  (λi _ j _ _ val v u b c _ _ t _ l m=>s i val _ v b c (q val j u t) m l) (λi hi o ho val b K qa H _ G z=>?_) fuel h
 obtain⟨L,d,y⟩:=C i hi;rw[ho]at d;injection d with d;subst d;exact y val b K H G λv c l m=>z v c (s i val _ v c c (q val i v qa) bS l) m
end
end
section
open Go.RowKit
variable {a:Act} {w:W}
section
variable {P:J4} {ops:Array Oper} {Q:Exit->Act->W->Prop} {md:Region.Mode} {S:W->Prop} {E:Nat->Bool}
theorem oE{tmp:Nat->Nat}{val:Nat->Option I}:∀(U:List Nat) (a:Act),(ba tmp val U a).defers=a.defers
 | [],a=>rfl
 | i :: U,a=>by
  simp only[ba];cases val i with
  | none=>exact oE U a
  | some v=>exact(oE U _).trans Z
theorem Ag{QP:List PanicEntry->W->Prop}{o:Oper}(G:∀H b,o.op≠ .select H b){s:Act}(m:∀x∈o.op.operands,s.eval x=a.eval x){C:I->W->Prop}(z:∀t,o.dst=J t->t<a.tmps.size)(h:o.wp P a w (λb y=>∃v,b=a.put o.dst v/\C v y) (λe _ q=>∃c,e= .panic c/\QP c q)){K:Act->W->Prop}{Q:Exit->Act->W->Prop}(B:∀c q,QP c q->Q (.panic c) s q)(i:∀v y,C v y->K (s.put o.dst v) y):o.wp P s w K Q:=by
 unfold Oper.wp at *;rw[execOp_congr o G m];have F:∀v,a.put o.dst undef=a.put o.dst v->s.put o.dst undef=s.put o.dst v:=by
  intro v g;cases hd:o.dst with
  | none=>rfl
  | some t=>
   rw[hd]at g;have j:=z t hd;have:(a.put (J t) undef).tmps[t]? =(a.put (J t) v).tmps[t]?:=by rw[g]
   simp only[Act.put]at this;rw[bK j,bK j]at this;injection this with this;rw[this]
 generalize (nO a.eval o).run P w=r at *;cases r with
 | ok n q=>
  cases n<;>simp only[Oper.upon]at h ⊢
  case value u=>
   obtain⟨v,g,k⟩:=h;cases hd:o.dst with
   | none=>rw[hd]at i;exact i v _ k
   | some t=>
    rw[hd]at g i;have j:=z t hd;have:(a.put (J t) u).tmps[t]? =(a.put (J t) v).tmps[t]?:=by rw[g]
    simp only[Act.put]at this;rw[bK j,bK j]at this;injection this with this;rw[this];exact i v _ k
  case skip=>
   obtain⟨v,g,k⟩:=h;rw[F v g];exact i v _ k
  case defer d=>
   obtain⟨v,g,k⟩:=h;have:(({ a with defers:=d :: a.defers }:Act).put o.dst undef).defers=(a.put o.dst v).defers:=by rw[g]
   exfalso;cases hd:o.dst with
   | none=>rw[hd]at this;simp only[Act.put]at this;have:=congrArg List.length this;simp at this
   | some t=>rw[hd]at this;simp only[Act.put]at this;have:=congrArg List.length this;simp at this
  case enter f args=>
   refine U.mono h λe L m=>?_;cases e with
   | returned u=>
    obtain⟨v,g,k⟩:=m;cases hd:o.dst with
    | none=>rw[hd]at i;exact i v _ k
    | some t=>
     rw[hd]at g i;have j:=z t hd;have:(a.put (J t) u).tmps[t]? =(a.put (J t) v).tmps[t]?:=by rw[g]
     simp only[Act.put]at this;rw[bK j,bK j]at this;injection this with this;rw[this];exact i v _ k
   | panicked c=>
    obtain⟨D,l,A⟩:=m;injection l with l;subst l;exact B _ _ A
   | outgrown=>exact absurd m (by simp[LetsOut])
  refine Rows.mono h λu L m=>?_;obtain⟨v,g,k⟩:=m;cases hd:o.dst with
  | none=>rw[hd]at i;exact i v _ k
  | some t=>
   rw[hd]at g i;have j:=z t hd;have:(a.put (J t) u).tmps[t]? =(a.put (J t) v).tmps[t]?:=by rw[g]
   simp only[Act.put]at this;rw[bK j,bK j]at this;injection this with this;rw[this];exact i v _ k
 | halt x q=>
  cases x<;>simp only[Oper.upon]at h ⊢;all_goals first
   | exact h
   | exact h.elim
   | (obtain⟨D,l,A⟩:=h;injection l with l;subst l;exact B _ _ A)
theorem oX(QP:List PanicEntry->World->Prop){listed:Array Bool}(U:List Nat)(tmp:Nat->Nat)(pre:Nat->List Nat)(T:World->Prop)(N:Nat->World->Prop)(G:Nat->World->World->Prop)(R:Nat->(Nat->Option I)->I->World->Prop)(fC:C9 md ops listed U tmp pre a.tmps=O)(hE:∀i∈U,E i=X)(hS:∀w1,T w1->S w1)(hT0:T w)(hT:∀i∈U,∀w1 f,T w1->G i w1 f->T f)(hN0:∀i∈U,N i w)(hN:∀i∈U,∀j∈U,i≠j->∀w1 f,T w1->N i w1->G j w1 f->N i f)(hR:∀i∈U,∀j∈U,i≠j->∀val v u w1 f,T w1->val i=J v->val j=Y->(∀p∈pre j,∃x,val p=J x)->R i val v w1->G j w1 f->R i (upd val j u) v f)(NO:∀i∈U,∀o,ops[i]? =J o->∀(val:Nat->Option I) (w1:World) (K:Act->World->Prop),val i=Y->T w1->N i w1->(∀j∈pre i,∃v,val j=J v/\R j val v w1)->
   (∀v f,R i (upd val i v) v f->G i w1 f->K ((ba tmp val (pre i) a).put (J (tmp i)) v) f)->o.wp P (ba tmp val (pre i) a) w1 K (λe _ B=>∃c,e= .panic c/\QP c B))(hQP:∀c a' B,QP c B->a'.defers=a.defers->Q (.panic c) a' B)(fuel:Nat)(h:∀val B,(∀i∈U,∃v,val i=J v/\R i val v B)->T B->dV P md ops Q S E fuel (dj (λi=>(val i).isSome) U listed) (ba tmp val U a) B):
  dV P md ops Q S E (fuel+U.length) listed a w:=by
 simp only[C9,bN]at fC;obtain⟨⟨⟨⟨⟨o1,o2⟩,o3⟩,o4⟩,o5⟩,o6⟩:=fC;have rI:listed.size=ops.size:=by simpa using o1
 have C:U.Nodup:=of_decide_eq_true o6;have IA:∀i∈U,∀j∈U,j≠i->tmp j≠tmp i:=by
  intro i hi j d qc e;have:=cJ.1 (cJ.1 o5 i hi) j d;simp only[Bool.or_eq_true,beq_iff_eq,bne_iff_ne]at this;rcases this with h|h
  ·exact qc h.symm
  exact h e.symm
 have H:∀i∈U,listed.getD i O=X/\∃o,ops[i]? =J o/\(sZ o (yielded ops a.tmps)=O/\Bo ops U tmp o.guard=O)/\(∀cs b,o.op≠ .select cs b)/\((o.dst=J (tmp i)/\tmp i<a.tmps.size)\/(o.dst=Y/\a.tmps.size<=tmp i))/\(∀e∈o.after,Region.binds md e=O->listed.getD e.on X=O\/(e.on∈U/\e.on<i))/\
   (∀x∈o.op.operands,∀t,x= .tmp t->(∃j∈pre i,tmp j=t)\/∀j∈U,tmp j≠t)/\(∀j∈pre i,j∈U/\uF md ops i j=O)/\(pre i).Nodup/\∀j∈pre i,j≠i:=by
  intro i hi;have h:=cJ.1 o4 i hi;simp only[bN,Bool.not_eq_true',decide_eq_true_eq]at h;obtain⟨⟨⟨⟨g,z⟩,h3⟩,h4⟩,h5⟩:=h;cases ho:ops[i]? with
  | none=>rw[ho]at z;cases z
  | some o=>
   rw[ho]at z;simp only[Option.map_some,Option.getD_some,bN,Bool.or_eq_true,Bool.not_eq_true',decide_eq_true_eq]at z;obtain⟨⟨⟨⟨g1,g2⟩,g3⟩,g5⟩,g6⟩:=z;refine⟨g,o,Z,g1,(λcs b e=>by rw[e]at g2;cases g2),g3,λe y n=>?_,λx qe t M=>?_,λj d=>?_,h4,h5⟩
   ·have:=(Array.all_eq_true_iff_forall_mem.1 g5) e y;simp only[n,Bool.not_true,Bool.false_or,Bool.or_eq_true,bN,decide_eq_true_eq,List.contains_iff_mem]at this;exact this
   ·have u0:B8 U tmp (pre i) x=O:=by
     first|exact(cJ.1 g6) x qe|exact(Array.all_eq_true_iff_forall_mem.1 g6) x qe
    subst M;simp only[B8,Bool.or_eq_true,List.any_eq_true,beq_iff_eq,cJ,bne_iff_ne]at u0;exact u0
   have:=cJ.1 h3 j d;simp only[bN,List.contains_iff_mem]at this;exact this
 have CU:xX md ops listed:=by
  intro i o ho A e y n;have W:i<ops.size:=(a9.1 ho).1;have h:=cJ.1 o2 i (lK.2 W);rw[A,ho]at h;simp only[Bool.not_true,Bool.false_or,Option.map_some,Option.getD_some]at h;have:=(Array.all_eq_true_iff_forall_mem.1 h) e y
  simpa[n] using this
 have uB:∀i,i<ops.size->listed.getD i O=X->i∉U->∀u∈U,tA md ops 8 i u=O:=by
  intro i hi A hn u H;have h:=cJ.1 o3 i (lK.2 hi);rw[A]at h;simp only[Bool.false_or,Bool.or_eq_true,List.contains_iff_mem,cJ]at h;rcases h with h|h
  ·exact absurd h hn
  exact h u H
 have main:∀(k:Nat) (val:Nat->Option I) (w1:World),(U.filter λi=>(val i).isNone).length=k->T w1->xX md ops (dj (λi=>(val i).isSome) U listed)->(∀i∈U,∀v,val i=J v->R i val v w1)->(∀i∈U,val i=Y->N i w1)->dV P md ops Q S E (fuel+k) (dj (λi=>(val i).isSome) U listed) (ba tmp val U a) w1:=by
  intro k;induction k with
  | zero=>
   intro val w1 hk qf tR hv hn;refine h val w1 (λi hi=>?_) qf;cases e:val i with
   | some v=>exact⟨v,Z,hv i hi v e⟩
   | none=>
    have:=List.length_eq_zero_iff.1 hk;have hm:i∈U.filter λi=>(val i).isNone:=jF.2 ⟨hi,by simp[e]⟩;rw[this]at hm;cases hm
  | succ k ih=>
   intro val w1 hk qf tR hv hn;have hls:(dj (λi=>(val i).isSome) U listed).size=ops.size:=by rw[wX,rI]
   have V:∀x j,j<ops.size->(dj (λi=>(val i).isSome) U listed).getD j x=(listed.getD j x||(U.contains j&&(val j).isSome)):=λx j d=>zB x j U listed zO;refine⟨λh0=>?_,λi hi=>?_⟩
   ·-- the least that is not done is ready
    exfalso;have hex:∀(m:Nat) (i:Nat),i<m->i∈U->val i=Y->False:=by
     intro m;induction m with
     | zero=>intro i hi;omega
     | succ m ihm=>
      intro i hi hU D;obtain⟨u1,o,ho,u2,u3,u4,u6,u7,u8⟩:=H i hU;have W:i<ops.size:=(a9.1 ho).1;have NG:i∈lJ md ops (dj (λi=>(val i).isSome) U listed):=by
       refine mem_ready.2 ⟨by rw[V O i W,u1,D];simp,o,ho,λe y n=>?_⟩;rcases u6 e y n with g|⟨g,z⟩
       ·have L:e.on<ops.size:=by
         rcases Nat.lt_or_ge e.on listed.size with q|q
         ·omega
         simp[Array.getD,Nat.not_lt.2 q]at g
        rw[V X e.on L,g];rfl
       obtain⟨v1,o',F,_⟩:=H e.on g;have L:e.on<ops.size:=(a9.1 F).1;rw[V X e.on L];cases hve:val e.on with
       | none=>exact(ihm e.on zO g hve).elim
       | some v=>simp[g]
      rw[h0]at NG;cases NG
    have su:0<(U.filter λi=>(val i).isNone).length:=zO;obtain⟨i,hi⟩:=List.exists_mem_of_length_pos su;obtain⟨g,z⟩:=jF.1 hi;exact hex (i+1) i zO g (by simpa using z)
   obtain⟨hun,oi,Iv,eI⟩:=mem_ready.1 hi;have W:i<ops.size:=(a9.1 Iv).1;rw[V O i W,Bool.or_eq_false_iff]at hun;have s:i∈U:=by
    refine db λva=>?_;have su:0<(U.filter λi=>(val i).isNone).length:=zO;obtain⟨u,hu1⟩:=List.exists_mem_of_length_pos su;obtain⟨g,z⟩:=jF.1 hu1;have hrb:=uB i W hun.1 va u g;have:=vZ hls tR 8 i u hrb (λo ho e y n=>by
     rw[Iv]at ho;injection ho with ho;subst ho;exact eI e y n)
    obtain⟨v1,o',F,_⟩:=H u g;have L:u<ops.size:=(a9.1 F).1;rw[V X u L,nD zO X O,v1]at this;simp only[Bool.false_or,bN]at this;cases hvu:val u with
    | none=>rw[hvu]at this;simp at this
    | some v=>rw[hvu]at z;simp at z
   have D:val i=Y:=by
    cases e:val i with
    | none=>rfl
    | some v=>rw[e]at hun;simp[s]at hun
   obtain⟨u1,o,ho,u2,u3,u4,u6,u7,u8,u9,u10⟩:=H i s;have fA:∀j∈pre i,∃v,val j=J v/\R j val v w1:=by
    intro j d;obtain⟨j1,j2⟩:=u8 j d;obtain⟨o',F,e,y,n,hon⟩:=mq j2;rw[Iv]at F;injection F with F;subst F;have A:=eI e y n;obtain⟨v1,o'',ho'',_⟩:=H j j1;have L:j<ops.size:=(a9.1 ho'').1;rw[hon,V X j L,nD zO X O,v1]at A;cases AV:val j with
    | none=>rw[AV]at A;simp at A
    | some v=>exact⟨v,Z,hv j j1 v AV⟩
   have N2:∀x∈o.op.operands,(ba tmp val U a).eval x=(ba tmp val (pre i) a).eval x:=by
    intro x qe;by_cases hxt:∃t,x= .tmp t
    ·obtain⟨t,rfl⟩:=hxt;rcases u7 _ qe t rfl with⟨j,d,rfl⟩|tQ
     ·obtain⟨v,AV,_⟩:=fA j d;have hjU:=(u8 j d).1;obtain⟨_,_,_,_,_,qa,_⟩:=H j hjU;rcases qa with⟨_,qa⟩|⟨_,qa⟩
      ·rw[sN U a C (λq hq qc=>IA j hjU q hq qc) hjU AV qa,sN (pre i) a u9 (λq hq qc=>IA j hjU q (u8 q hq).1 qc) d AV qa]
      rw[sA (by rw[fP];exact qa),sA (by rw[fP];exact qa)]
     rw[gQ U a (λj d q=>tQ j d (by injection q with q;exact q.symm)),gQ (pre i) a (λj d q=>tQ j (u8 j d).1 (by injection q with q;exact q.symm))]
    rw[gQ U a (λj d q=>hxt ⟨_,q⟩),gQ (pre i) a (λj d q=>hxt ⟨_,q⟩)]
   have NI:∀(b:Act),b.tmps.size=a.tmps.size->∀v,b.put o.dst v=b.put (J (tmp i)) v:=by
    intro b n v;rcases u4 with⟨e,_⟩|⟨e,BG⟩
    ·rw[e]
    rw[e];have:b.tmps.setIfInBounds (tmp i) v=b.tmps:=Array.setIfInBounds_eq_of_size_le zO;simp only[Act.put,this]
   have hwp:=NO i s o ho val w1 (λb f=>∃v,b=(ba tmp val (pre i) a).put o.dst v/\(R i (upd val i v) v f/\G i w1 f)) D qf (hn i s D) fA (λv f hr hg=>⟨v,(NI _ (fP _ _) v).symm,hr,hg⟩);refine BL ho (by rw[rN u2.2];exact u2.1) (Ag u3 N2 (λt M=>by rw[fP];rcases u4 with⟨e,h5⟩|⟨e,_⟩<;>(rw[e]at M;first|(injection M with M;exact M ▸ h5)|cases M)) hwp (λc B hq=>hQP c _ B hq (oE _ _)) λv f ⟨hRv,hGv⟩=>?_);have hT2:=hT i s w1 f qf hGv;refine⟨λ_ _=>hS _ hT2,?_⟩;have A:dj (λj=>j==i||(val j).isSome) U listed=dj (λj=>(upd val i v j).isSome) U listed:=pn U _ (λj _=>by by_cases e:j=i<;>simp[upd,e]);rw[NI _ (fP _ _) v,Aa U a C (λj d qc=>IA i s j d qc) s D,pV U listed C s (by simp[D]),A];refine ih (upd val i v) f ?_ hT2 ?_ (λj d u qb=>?_) (λj d KS=>?_)
   ·have IC:∀(U:List Nat),U.Nodup->i∈U->(U.filter λj=>(upd val i v j).isNone).length+1=(U.filter λj=>(val j).isNone).length:=by
     intro U;induction U with
     | nil=>intro _ hi;cases hi
     | cons c U ih2=>
      intro C hi;obtain⟨hc,C⟩:=cS.1 C;by_cases e:c=i
      ·subst e;have hs:U.filter (λj=>(upd val c v j).isNone)=U.filter (λj=>(val j).isNone):=List.filter_congr (λj d=>by simp[upd,show j≠c from λe=>hc (e ▸ d)]);simp[upd,D];rw[<- hs];rfl
      have NW:i∈U:=by rcases aL.1 hi with h|h;exact absurd h.symm e;exact h
      have:=ih2 C NW;simp only[List.filter_cons,show upd val i v c=val c from by simp[upd,e]];split<;>simp_all
    have:=IC U C s;omega
   ·rw[<- A,<- pV U listed C s (by simp[D])];intro j oj qd hlj e y n;have hltj:j<ops.size:=(a9.1 qd).1;by_cases ej:i=j
    ·subst ej;rw[Iv]at qd;injection qd with qd;subst qd;exact getD_set_true (eI e y n)
    rw[getD_set_ne O ej]at hlj;exact getD_set_true (tR j oj qd hlj e y n)
   ·by_cases e:j=i
    ·subst e;rw[show upd val j v j=J v from by simp[upd]]at qb;injection qb with qb;subst qb;exact hRv
    rw[show upd val i v j=val j from by simp[upd,e]]at qb;exact hR j d i s e val u v w1 f qf qb D (λp hp=>let ⟨x,qe,_⟩:=fA p hp;⟨x,qe⟩) (hv j d u qb) hGv
   have e:j≠i:=by rintro rfl;simp[upd]at KS
   rw[show upd val i v j=val j from by simp[upd,e]]at KS;exact hN j d i s e w1 f qf (hn j d KS) hGv
 have xh:∀(U:List Nat) (l:Array Bool),dj (λi=>((λ_=>Y:Nat->Option I) i).isSome) U l=l:=by
  intro U;induction U with
  | nil=>intro l;rfl
  | cons i U ih=>intro l;simp only[dj];exact ih l
 have AW:∀(U:List Nat) (a:Act),ba tmp (λ_=>Y) U a=a:=by
  intro U;induction U with
  | nil=>intro a;rfl
  | cons i U ih=>intro a;simp only[ba];exact ih a
 have hlen:(U.filter λi=>((λ_=>Y:Nat->Option I) i).isNone).length=U.length:=congrArg List.length (List.filter_eq_self.2 λi _=>Z);have:=main U.length (λ_=>Y) w hlen hT0 (by rw[xh];exact CU) (λi _ v e=>by cases e) (λi hi _=>hN0 i hi);rw[xh,AW]at this;exact this
end
end
section
open Go.RowKit
attribute [local go_sem ↓] aQ aR
variable {w:W} {base cap gp n:Nat} {G:Option Addr} {log:cq}
def ue(w:W)(B:Nat)(A:Option Addr)(l:cq):Prop:=
 0<l.length->∃b o a,A=J ⟨b,o,Y⟩/\b<B/\Bk w b 52 a/\∀k r,l[k]? =J r->w.cell? ⟨b,o+k*2,Y⟩=J (V H r.1)/\w.cell? ⟨b,o+k*2+1,Y⟩=J (V H r.2)
theorem ue.below{f:W}{B:Nat}{A:Option Addr}{l:cq}(h:ue w B A l)(d:D B w f):ue f B A l:=by
 intro g;obtain⟨b,o,i,e,c,s,j⟩:=h g;refine⟨b,o,i,e,c,(d.block b c).trans s,λk a m=>?_⟩;obtain⟨n,q⟩:=j k a m;exact⟨(d.cell (p:=⟨b,_,Y⟩) c).trans n,(d.cell (p:=⟨b,_,Y⟩) c).trans q⟩
def JW(G:Option Addr)(n c:Nat):Prop:=G=Y->n=0/\c=0
def cT(l:cq):List I:=l.flatMap λr=>[V H r.1,V H r.2]
def iT(w:W)(base:Nat)(v:I)(l:cq):Prop:=w.ownsRow base 52 2 v l.length (cT l)
theorem tC:(Tryz.prog.info? 52).map (λi=>(i.zero,i.size,i.bytes))=J (J (.agg #[V H 0,V H 0]),2,16):=zK
theorem zh:∃i,oH ao 44 52 i (.agg #[V H 0,V H 0]) 2 16:=oH.of underlying44 tC zK zD
theorem qM(l:cq):∀(k:Nat) (r:Int × Int),l[k]? =J r->(cT l)[k*2]? =J (V H r.1)/\(cT l)[k*2+1]? =J (V H r.2):=by
 induction l with
 | nil=>intro k r h;simp at h
 | cons a l b=>
  intro k r h;have e:cT (a :: l)=[V H a.1,V H a.2]++cT l:=Z;cases k with
  | zero=>simp at h;subst h;simp[e]
  | succ k=>
   obtain⟨c,d⟩:=b k r (by simpa using h);rw[e,show (k+1)*2=2+k*2 by omega];refine⟨?_,?_⟩
   ·rw[List.getElem?_append_right zS];simpa using c
   rw[show 2+k*2+1=2+(k*2+1)by omega,List.getElem?_append_right zS];simpa using d
theorem AG(l:cq):∀(j:Nat) (u:I),(cT l)[j]? =J u->∃(k:Nat) (r:Int × Int),l[k]? =J r/\((j=k*2/\u=V H r.1)\/(j=k*2+1/\u=V H r.2)):=by
 induction l with
 | nil=>intro j u h;simp[cT]at h
 | cons a l d=>
  intro j u h;have e:cT (a :: l)=V H a.1 :: V H a.2 :: cT l:=Z;rw[e]at h
  match j,h with
  | 0,h=>exact⟨0,a,Z,.inl ⟨Z,by simpa using h.symm⟩⟩
  | 1,h=>exact⟨0,a,Z,.inr ⟨Z,by simpa using h.symm⟩⟩
  | j+2,h=>
   obtain⟨k,r,f,b⟩:=d j u (by simpa using h);refine⟨k+1,r,by simpa using f,?_⟩;rcases b with⟨b,c⟩|⟨b,c⟩
   ·exact .inl ⟨M,c⟩
   exact .inr ⟨M,c⟩
theorem qL(l:cq):(cT l).length=2*l.length:=by
 induction l with
 | nil=>rfl
 | cons a l b=>show ([LD .i64 a.1,V H a.2]++cT l).length=_;rw[bE,b];simp;omega
theorem ym(l:cq):∀v∈cT l,v.oneCell'=O:=by
 intro v b;simp only[cT,List.mem_flatMap]at b;obtain⟨r,_,a⟩:=b;simp at a;rcases a with rfl|rfl<;>rfl
theorem mf(l:cq)(r:Int × Int):cT (l++[r])=cT l++[V H r.1,V H r.2]:=by simp[cT]
theorem rh(h:iT w base (.slice G n cap) log)(m:n=log.length):ue w w.heap.size G log:=by
 subst m;intro s;obtain⟨v,o⟩:=Src.own h (aq w.heap.size);rcases o with⟨_,t,_⟩|⟨g,of,rfl,f,d⟩
 ·omega
 rcases h.2 with⟨a,e⟩|⟨g',u,l,a,_,i,_⟩
 ·cases a
 have j:g=g':=by injection a with a _ _;injection a with a;injection a
 subst j;refine⟨g,of,l,Z,f,i,λk r q=>?_⟩;obtain⟨a,e⟩:=qM log k r q;have c:=d _ _ a;have b:=d _ _ e;first
  | exact⟨c,b⟩
  | (rw[gZ]at c b;exact⟨c,b⟩)
theorem own_gnV(h:iT w base (.slice G n cap) log)(c:n=log.length)(u:gp<base):GnV w gp (.slice G n cap) log:=by
 refine⟨G,n,cap,Z,c,λl=>?_,λf=>?_⟩
 ·rcases h.2 with⟨a,d⟩|⟨s,i,j,a,_⟩
  ·injection a with _ a k;exact⟨M,k⟩
  subst l;cases a
 obtain⟨b,o,m,e,t,g,q⟩:=rh h c f;refine⟨b,o,m,e,g,?_,q⟩;rcases h.2 with⟨a,d⟩|⟨s,i,j,a,d,_⟩
 ·rw[e]at a;cases a
 rw[e]at a;injection a with a _ _;injection a with a;injection a with a _;omega
def JZ(g:cq)(w:W)(e:jK)(a:W):Prop:=∃G n c,e=ai (.slice G n c)/\n=g.length/\JW G n c/\iT a w.heap.size (.slice G n c) g/\D w.heap.size w a
theorem IM(A:Option Addr)(n c:Nat)(g:cq)(w:World)(K:n=g.length)(s:JW A n c)(h:ue w w.heap.size A g)(V:g.length<=1000):
  U ao 46 #[.slice A n c] w (JZ g w):=by
 subst K;obtain⟨E,L,v,q,D⟩:=info_parts tC;cases A with
 | none=>
  obtain⟨t,rfl⟩:=s Z;have B:g=[]:=List.eq_nil_of_length_eq_zero t;subst B;have S:=λ(W:World)=>Lib.run_eql_slice_nil (P:=ao) W 44 52 Y 0 0 0 0 underlying44;go_enter func46,ntmps46;go_wp2;go_ret;exact⟨Y,0,0,Z,Z,λ_=>⟨Z,Z⟩,bW _ _ _ _,bS⟩
 | some e=>
  have N:=λ(W:World)=>Lib.run_eql_slice_nil (P:=ao) W 44 52 (J e) g.length c 0 0 underlying44;have I:(w.alloc (ag #[] 52)).ownsRow w.heap.size 52 2 (af (J ⟨w.heap.size,0,Y⟩) 0 0) 0 []:=
   ⟨Z,.inr ⟨w.heap.size,0,#[],Z,aq _,Bk.made w 52 #[],aq _,by simp[sV],Z,Z⟩⟩
  have H:=h.below (bA w (ag #[] 52));have x:∀j u,(cT g)[j]? =J u->(w.alloc (ag #[] 52)).cell? (e.add j)=J u:=by
   intro j u l;have M:=(aC.1 l).1;rw[qL]at M;obtain⟨b,o,Q,i,qb,-,m⟩:=H zO;injection i with i;subst i;rw[gZ];obtain⟨k,r,a,d⟩:=AG g j u l;rcases d with⟨rfl,rfl⟩|⟨rfl,rfl⟩
   ·exact(m k r a).1
   exact(m k r a).2
  go_enter func46,ntmps46;go_wp2_with (at_builtin;refine dI _ Z (.tmp 5) (.tmp 6) _ Z w.heap.size 52 E _ 2 16 underlying44 L v q D Z zO (af (J ⟨w.heap.size,0,Y⟩) 0 0) 0 [] Z I e g.length c (cT g) Z (by rw[qL];omega) x (ym g) (by simp only[sV];omega) zO (by simp[];try omega) ?_;intro qa O f y _ qd);go_ret;rw[ea]at f;have C:∃G c',qa= .slice G g.length c'/\JW G g.length c':=by
   rcases f.2 with⟨a,d⟩|⟨qc,T,X,a,_⟩
   ·exact⟨Y,0,by rw[a,d],λ_=>⟨d,Z⟩⟩
   exact⟨_,_,a,λh=>by cases h⟩
  obtain⟨G,c',rfl,F⟩:=C;refine⟨G,g.length,c',Z,Z,F,by simpa[iT] using f,(aA bS _).grown y zS ?_⟩;intro k z;simp[Value.ownBlock]at z;omega
theorem GnV.clone{v:I}{g:cq}(h:GnV w gp v g)(f:g.length<=1000):U ao 46 #[v] w (JZ g w):=by
 obtain⟨G,n,c,rfl,i,j,l⟩:=h;exact IM G n c g w i j (λd=>by obtain⟨b,o,k,e,a,_,m⟩:=l d;exact⟨b,o,k,e,a.lt,a,m⟩) f
end
section
open Go.RowKit
variable {v:I} {fn:Func} {P:J4} {p q:Tmp} {t1 t2 t3:bM} {l:cq} {R:jK->W->Prop} {a:W}
abbrev bj(k c o v:Int):Array I:=#[V H k,V H c,V H o,V H v]
abbrev cG:Array I:=bj 0 0 0 0
abbrev bg(val:Int)(is:Bool)(err a:Int)(g:I):Array I:=#[V H val,.bool is,V H err,V H a,g]
abbrev bh(val:Int)(is:Bool)(err a:Int):Array I:=bg val is err a (af Y 0 0)
abbrev aW:Array I:=bh 0 X 0 0
theorem mL{t:Tmp}(h:fn.results=#[.cell p t1,.cell q t2,.cell t t3])(a:Array I)(w:W)(e d k:Nat)(c f:Array I)(l m:Nat × Nat)(i j:TypeDesc)(v:I)(o:a.getD p undef=ae (J ⟨e,0,Y⟩))(n:a.getD q undef=ae (J ⟨d,0,Y⟩))(E:a.getD t undef=ae (J ⟨k,0,Y⟩))(y:w.heap[e]? =J (ag c t1 l))(B:w.heap[d]? =J (ag f t2 m))(s:P.underlying t1=J i)(H:(match i with|.struct _|.array _ _=>O|_=>X)=O)(z:(P.info? t1).map (·.size)=J c.size)(G:P.underlying t2=J j)(hd2:(match j with|.struct _|.array _ _=>O|_=>X)=O)(A:(P.info? t2).map (·.size)=J f.size)(D:(cL t3 ⟨k,0,Y⟩).run P w= .ok v w):
  (jE fn a).run P w= .ok (.tuple #[.agg c,.agg f,v]) w:=by
 have x:a[p]?.getD undef=ae (J ⟨e,0,Y⟩):=by simpa using o
 have C:a[q]?.getD undef=ae (J ⟨d,0,Y⟩):=by simpa using n
 have F:a[t]?.getD undef=ae (J ⟨k,0,Y⟩):=by simpa using E
 simp[jE,h,x,C,F,asAddr,a7 w e t1 t1 c l i y s H z,a7 w d t2 t2 f m j B G hd2 A,D]
theorem pW(w:W)(g:Nat)(b:Bool)(k:Bk w g 4 #[.bool b]):(cL 4 ⟨g,0,Y⟩).run ao w= .ok (.bool b) w:=by
 have c:=k.cell 0;simp at c;simp[go_sem,c]
theorem AO{t m:Array I}(h:jE fn t=jE fn m):∀(i:List Deferred) (u:FrameMode) (w:W),Leaves P fn t R i u w->Leaves P fn m R i u w:=by
 intro i;induction i with
 | nil=>
  intro u w a;cases u with
  | returning=>
   obtain⟨v,k,l⟩:=a;exact⟨v,by rw[<- h];exact k,l⟩
  | panicking c=>exact a
  | run=>exact a.elim
 | cons d i n=>
  intro u w a;obtain⟨s,x,y,f,o,k,l,q⟩:=a;refine⟨s,x,y,f,o,k,l,q.mono (λe z w' j=>?_)⟩;cases e with
  | returned v=>exact n _ _ j
  | panicked c=>exact n _ _ j
  | outgrown=>exact j
theorem mi{t:Tmp}(f:fn.results=#[.cell p t1,.cell q t2,.cell t t3]){K:Act->W->Prop}{c:List PanicEntry}{a:Act}{w:W}{d:Nat}(hd:d≠p/\d≠q/\d≠t)(h:Exit.then K (bodyPostD ao fn R) (Exit.panic c) (a.put (J d) v) w):Exit.then K (bodyPostD ao fn R) (Exit.panic c) a w:=by
 have e:jE fn (a.put (J d) v).tmps=jE fn a.tmps:=by
  simp[jE,f,Act.put,Array.getElem?_setIfInBounds,hd.1,hd.2.1,hd.2.2]
 exact AO e _ _ _ h
def bI(w:W)(v:I)(g:cq):Prop:=∃G c,v= .slice G g.length c/\JW G g.length c/\ue w w.heap.size G g
theorem bI.aw{w w':W}{g:cq}(h:bI w v g)(a:D w.heap.size w w'):bI w' v g:=by
 obtain⟨G,c,k,l,i⟩:=h;refine⟨G,c,k,l,?_⟩;intro d;obtain⟨b,o,cs,e,f,m,j⟩:=i.below a d;exact⟨b,o,cs,e,aZ f a.size,m,j⟩
theorem bI.gnV{w:W}{g:cq}(h:bI w v g){gp:Nat}(l:w.heap.size<=gp):GnV w gp v g:=by
 obtain⟨G,c,i,j,d⟩:=h;refine⟨G,_,c,i,Z,j,λa=>?_⟩;obtain⟨b,o,cs,e,m,k,f⟩:=d a;exact⟨b,o,cs,e,k,M,f⟩
theorem kI(w:W)(g b o:Nat)(cs:Array I)(a:b≠g):(w.setRow g cs).cell? ⟨b,o,Y⟩=w.cell? ⟨b,o,Y⟩:=by
 unfold W.cell?;rw[setRow_other w g b cs a]
section
variable {w w':W} {g b gp:Nat} {t u:bM} {cs cs':Array I}
theorem Bk.a6(h:Bk w g t cs)(a:g≠b)(r:Array I):Bk (w.setRow b r) g t cs:=(setRow_other w b g r a).trans h
theorem Bk.bG(h:Bk w g t cs)(r:Array I):Bk (w.setRow g r) g t r:=setRow_heap w g cs r t (0,0) h
theorem Bk.typ(h:Bk w g t cs)(a:Bk w b u cs')(c:t≠u):g≠b:=by
 rintro rfl;have:=h.symm.trans a;simp at this;exact c this.2
theorem Stp.row(h:Stp gp a w)(e:a.heap.size<=b\/b=gp)(r:Array I):Stp gp a (w.setRow b r):=
 ⟨h.os,h.tape,h.output,by have:=h.size;simpa[W.setRow] using this,λx c d=>(setRow_other w b x r M).trans (h.block x c d)⟩
theorem Stp.cell(h:Stp gp a w){p:Addr}(e:a.heap.size<=p.block\/p.block=gp)(v:I):Stp gp a (w.setCell p v):=
 ⟨h.os,h.tape,h.output,by have:=h.size;simpa using this,λx c d=>(jL w p v x M).trans (h.block x c d)⟩
theorem iO(w:W)(p:Addr)(b o:Nat)(v:I)(a:b≠p.block):(w.setCell p v).cell? ⟨b,o,Y⟩=w.cell? ⟨b,o,Y⟩:=by
 unfold W.cell?;rw[jL w p v b a]
theorem GnV.row(h:GnV w gp v l)(A:Bk w b t cs)(D:52≠t)(r:Array I):GnV (w.setRow b r) gp v l:=by
 obtain⟨G,n,c,B,z,k,q⟩:=h;refine⟨G,n,c,B,z,k,λm=>?_⟩;obtain⟨x,o,s,C,f,i,e⟩:=q m;have a:x≠b:=f.typ A D;exact⟨x,o,s,C,f.a6 a r,i,λj y d=>⟨(kI w b x _ _ a).trans (e j y d).1,(kI w b x _ _ a).trans (e j y d).2⟩⟩
theorem bI.row(h:bI w v l)(q:Bk w b t cs)(B:52≠t)(r:Array I):bI (w.setRow b r) v l:=by
 obtain⟨G,c,z,n,k⟩:=h;refine⟨G,c,z,n,λi=>?_⟩;obtain⟨x,o,m,A,s,d,f⟩:=k i;have a:x≠b:=d.typ q B;exact⟨x,o,m,A,by simpa[W.setRow] using s,d.a6 a r,λj y e=>⟨(kI w b x _ _ a).trans (f j y e).1,(kI w b x _ _ a).trans (f j y e).2⟩⟩
theorem bI.cell(h:bI w v l)(s:Bk w b t cs)(C:52≠t)(i:Nat)(u:I):bI (w.setCell ⟨b,i,Y⟩ u) v l:=by
 obtain⟨G,c,A,q,m⟩:=h;refine⟨G,c,A,q,λk=>?_⟩;obtain⟨x,o,n,B,z,d,f⟩:=m k;have a:x≠b:=d.typ s C;exact⟨x,o,n,B,by simpa using z,d.other (p:=⟨b,i,Y⟩) a u,λj y e=>⟨(iO w ⟨b,i,Y⟩ x _ _ a).trans (f j y e).1,(iO w ⟨b,i,Y⟩ x _ _ a).trans (f j y e).2⟩⟩
end
structure cH (gm b2:Nat) (w w':W):Prop where
 os:w'.os=w.os
 tape:w'.tape=w.tape
 output:w'.output=w.output
 size:w.heap.size<=w'.heap.size
 block:∀b,b<w.heap.size->b≠gm->b≠b2->w'.heap[b]? =w.heap[b]?
section
variable {gm b2:Nat} {w w' w2:W}
theorem Stp.two(h:Stp gm w w'):cH gm b2 w w':=⟨h.os,h.tape,h.output,h.size,λb a c _=>h.block b a c⟩
theorem cH.one(h:cH gm gm w w'):Stp gm w w':=⟨h.os,h.tape,h.output,h.size,λb c a=>h.block b c a a⟩
theorem cH.refl(gm b2:Nat)(w:W):cH gm b2 w w:=(Stp.refl gm w).two
theorem cH.trans(h:cH gm b2 w w')(k:cH gm b2 w' w2):cH gm b2 w w2:=
 ⟨k.os.trans h.os,k.tape.trans h.tape,k.output.trans h.output,aF h.size k.size,λb d a c=>(k.block b (aZ d h.size) a c).trans (h.block b d a c)⟩
theorem cH.aT(gm b2:Nat)(h:D w.heap.size w w'):cH gm b2 w w':=(Stp.aT gm h).two
theorem cH.aw(h:cH gm b2 w w'){g:Nat}{t:bM}{cs:Array I}(k:Bk w g t cs)(a:g≠gm)(c:g≠b2):Bk w' g t cs:=(h.block g k.lt a c).trans k
theorem cH.drew(h:cH gm b2 w w'):cH gm b2 w w'.drew:=⟨h.os,h.tape,h.output,h.size,h.block⟩
theorem cH.alloc(h:cH gm b2 w w')(o:Obj):cH gm b2 w (w'.alloc o):=h.trans (.aT gm b2 (aA bS o))
theorem cH.row(h:cH gm b2 w w'){b:Nat}(e:w.heap.size<=b\/b=gm\/b=b2)(r:Array I):cH gm b2 w (w'.setRow b r):=
 ⟨h.os,h.tape,h.output,by have:=h.size;simpa[W.setRow] using this,λx a d c=>(setRow_other w' b x r M).trans (h.block x a d c)⟩
theorem cH.cell(h:cH gm b2 w w'){p:Addr}(e:w.heap.size<=p.block\/p.block=gm\/p.block=b2)(v:I):cH gm b2 w (w'.setCell p v):=
 ⟨h.os,h.tape,h.output,by have:=h.size;simpa using this,λx a d c=>(jL w' p v x M).trans (h.block x a d c)⟩
theorem cH.part(h:cH gm b2 w w'){B:Nat}(a:B<=gm)(c:B<=b2)(d:B<=w.heap.size):D B w w':=
 ⟨h.os,h.tape,h.output,h.size,λb e=>h.block b M M M⟩
end
def Bks(w:W)(gp:Nat)(L:List (Nat × bM × Array I)):Prop:=∀x∈L,Bk w x.1 x.2.1 x.2.2/\x.1≠gp
section
variable {w w':W} {gp:Nat} {L:List (Nat × bM × Array I)}
theorem Bks.stp(h:Bks w gp L)(s:Stp gp w w'):Bks w' gp L:=λx a=>⟨s.aw (h x a).1 (h x a).2,(h x a).2⟩
theorem Bks.aw(h:Bks w gp L)(s:D w.heap.size w w'):Bks w' gp L:=h.stp (.aT gp s)
theorem Bks.drew(h:Bks w gp L):Bks w.drew gp L:=h
theorem Bks.at_(h:Bks w gp L)(i:Nat){x:Nat × bM × Array I}(a:L[i]? =J x):Bk w x.1 x.2.1 x.2.2:=(h x (aU a)).1
theorem Bks.nil:Bks w gp []:=λ_ h=>by cases h
theorem Bks.cons{b:Nat}{t:bM}{cs:Array I}(k:Bk w b t cs)(c:b≠gp)(h:Bks w gp L):Bks w gp ((b,t,cs) :: L):=by
 intro x a;rcases aL.1 a with rfl|a
 ·exact⟨k,c⟩
 exact h x a
end
theorem fO{t:Tmp}(h:fn.results=#[.cell p t1,.tmp t])(a:Array I)(w:W)(d:Nat)(c:Array I)(f:Nat × Nat)(e:TypeDesc)(v:I)(i:a.getD p undef=ae (J ⟨d,0,Y⟩))(j:a.getD t undef=v)(o:w.heap[d]? =J (ag c t1 f))(k:P.underlying t1=J e)(n:(match e with|.struct _|.array _ _=>O|_=>X)=O)(m:(P.info? t1).map (·.size)=J c.size):
  (jE fn a).run P w= .ok (.tuple #[.agg c,v]) w:=by
 subst j;have l:a[p]?.getD undef=ae (J ⟨d,0,Y⟩):=by simpa using i
 simp[jE,h,l,asAddr,a7 w d t1 t1 c f e o k n m]
end
section
open Go.RowKit
attribute [local go_sem ↓] aQ aR
theorem rv_lt(n:Nat):∀k,rv n k<2 ^ n:=by
 induction n with
 | zero=>intro k;simp[rv]
 | succ n a=>
  intro k;have b:=a (k / 2);have c:k%2<2:=Nat.mod_lt _ M;have d:k%2*2 ^ n<=1*2 ^ n:=Nat.mul_le_mul_right _ M;rw[rv,Nat.pow_succ];omega
theorem rv_snoc(n:Nat):∀k,rv (n+1) k=2*rv n k+k / 2 ^ n%2:=by
 induction n with
 | zero=>intro k;simp[rv]
 | succ n a=>
  intro k;rw[rv,a,rv,Nat.div_div_eq_div_mul,<- Nat.pow_succ',Nat.pow_succ 2 n];have:k%2*(2 ^ n*2)=2*(k%2*2 ^ n):=by rw[<- Nat.mul_assoc,Nat.mul_comm]
  omega
def uv(n:Int):Nat->Int
 | 0=>0
 | k+1=>bits .or .i64 (uv n k) (n / 2 ^ k%2*2 ^ (15-k))
theorem bit_of(n:Int)(k:Nat)(g:k<16):n / 2 ^ k%2=(((n%65536).toNat / 2 ^ k%2:Nat):Int):=by
 have e:((n%65536).toNat:Int)=n%65536:=Int.toNat_of_nonneg M;rw[Int.natCast_emod,Int.natCast_ediv,e]
 push_cast
 have f:(65536:Int)=2 ^ k*(2*2 ^ (15-k)):=by
  rw[<- Int.pow_succ',<- Int.pow_add,show k+(15-k+1)=16 by omega];rfl
 have a:n=n%65536+2 ^ k*(2*(2 ^ (15-k)*(n / 65536))):=by
  have:=Int.emod_add_mul_ediv n 65536;rw[f]at this ⊢;rw[Int.mul_assoc,Int.mul_assoc]at this;exact this.symm
 have b:(2:Int) ^ k≠0:=Int.ne_of_gt (Int.pow_pos M);rw[a];generalize d:n%65536=X;have c:(X+2 ^ k*(2*(2 ^ (15-k)*(n / 65536))))%65536=X:=by
  rw[<- d,<- a]
 rw[c,Int.add_mul_ediv_left _ _ b,Int.add_mul_emod_self_left]
theorem MB(n:Int)(k:Nat)(l:k<=16):uv n k=((rv k (n%65536).toNat*2 ^ (16-k):Nat):Int):=by
 induction k with
 | zero=>simp[uv,rv]
 | succ k h=>
  have c:=rv_lt k (n%65536).toNat;have a:(2:Nat) ^ (16-k)=2*2 ^ (15-k):=by rw[show 16-k=15-k+1 by omega,Nat.pow_succ,Nat.mul_comm]
  have f:2 ^ k*2 ^ (16-k)=65536:=by rw[<- Nat.pow_add,show k+(16-k)=16 by omega]
  have d:(n%65536).toNat / 2 ^ k%2<2:=Nat.mod_lt _ M;have j:rv k (n%65536).toNat*2 ^ (16-k)<65536:=by
   rw[<- f];exact Nat.mul_lt_mul_of_pos_right c (Nat.two_pow_pos _)
  rw[uv,h M,bit_of n k M];have eb:(((n%65536).toNat / 2 ^ k%2:Nat):Int)*2 ^ (15-k)=(((n%65536).toNat / 2 ^ k%2*2 ^ (15-k):Nat):Int):=by push_cast;rfl
  have i:(n%65536).toNat / 2 ^ k%2*2 ^ (15-k)<2 ^ (16-k):=by
   rw[a];exact Nat.mul_lt_mul_of_pos_right d (Nat.two_pow_pos _)
  have b:((2 ^ (16-k):Nat):Int)=2 ^ (16-k):=by push_cast;rfl
  have e:(((rv k (n%65536).toNat*2 ^ (16-k):Nat):Int))%2 ^ (16-k)=0:=by
   rw[<- b,<- Int.natCast_emod,Nat.mul_mod_left];rfl
  have g:(((n%65536).toNat / 2 ^ k%2*2 ^ (15-k):Nat):Int)<2 ^ (16-k):=by rw[<- b];exact Int.ofNat_lt.2 i
  rw[eb,Jn _ _ (16-k) M M M e M g,rv_snoc,show 16-(k+1)=15-k by omega,a]
  push_cast
  rw[Int.add_mul,Int.mul_assoc,Int.mul_left_comm]
theorem H4(n:Int)(k:Nat)(d:k<16):bits .or .i64 (uv n k) (wrap64 (n / 2 ^ k%2*2 ^ (15-k)))=uv n (k+1):=by
 have b:(2:Int) ^ (15-k)<=2 ^ 15:=by exact_mod_cast Nat.pow_le_pow_right (n:=2) (i:=15-k) (j:=15) M M
 have c:(0:Int)<2 ^ (15-k):=Int.pow_pos M;have a:n / 2 ^ k%2=0\/n / 2 ^ k%2=1:=M;rw[IntWalk.wrap64_in]
 ·rfl
 rcases a with h|h<;>rw[h]<;>omega
theorem MC(n:Int):uv n 16=nt n:=by rw[MB n 16 M];simp[nt]
theorem Jj(n:Int):0<=nt n/\nt n<65536:=by
 have:=rv_lt 16 (n%65536).toNat;unfold nt;omega
theorem AS(c b a:Int):bits .or .i64 (bits .or .i64 (bits .or .i64 0 (c%4294967296)) (b%4*4294967296)) (a%268435456*17179869184)=
  c%4294967296+b%4*4294967296+a%268435456*17179869184:=by
 rw[pT 0 (c%4294967296) 0 M M M M M M];rw[pT _ (b%4*4294967296) 32 M M M M M M];rw[pT _ (a%268435456*17179869184) 34 M M M M M M];omega
theorem KF(g:Nat)(c b a:Int)(w:W)(d:g<w.heap.size)(f:w.cell? ⟨g,0,Y⟩=J (V H c))(c1:w.cell? ⟨g,1,Y⟩=J (V H 32))(c2:w.cell? ⟨g,2,Y⟩=J (V H b))(c3:w.cell? ⟨g,3,Y⟩=J (V H 2))(c4:w.cell? ⟨g,4,Y⟩=J (V H a))(c5:w.cell? ⟨g,5,Y⟩=J (V H 28)):
  U ao 115 #[af (J ⟨g,0,Y⟩) 3 3] w λe w'=>e=ai (V H (c%4294967296+b%4*4294967296+a%268435456*17179869184))/\D w.heap.size w w':=by
 go_enter func115,ntmps115;go_wp2;refine wp_loop_rounds 4 ?_;rw[dB];go_wp2_with (go_at_call 51;refine(jw _ _ _ M M).mono ?_;rintro e w' ⟨rfl,rfl⟩);rw[dB];go_wp2_with (go_at_call 51;refine(jw _ _ _ M M).mono ?_;rintro e w' ⟨rfl,rfl⟩);rw[dB];go_wp2_with (go_at_call 51;refine(jw _ _ _ M M).mono ?_;rintro e w' ⟨rfl,rfl⟩);rw[dB];go_wp2;go_ret;refine⟨ju (AS c b a),?_⟩;exact aA (aA (aA bS _) _) _
theorem yq(g:Nat)(c b a:Int)(h:W)(d:h.heap.size=g):
  U ao 115 #[af (J ⟨g,0,Y⟩) 3 3] (h.alloc (ag #[V H c,V H 32,V H b,V H 2,V H a,V H 28] 168)) λe w'=>
   e=ai (V H (c%4294967296+b%4*4294967296+a%268435456*17179869184))/\D h.heap.size h w':=by
 subst d;refine(KF h.heap.size c b a _ zS zS zS zS zS zS zS).mono ?_;rintro e w' ⟨rfl,f⟩;exact⟨rfl,aE (aA bS _) f⟩
theorem tH(v k c:Int)(w:W):
  U ao 136 #[V H v,V H k,V H c] w λe w'=>e=ai (V H (ld v k c))/\D w.heap.size w w':=by
 go_enter func136,ntmps136;go_wp2_with fail;refine(yq _ _ _ _ _ zS).mono ?_;rintro e w' ⟨rfl,a⟩;go_wp2;go_ret;exact⟨ju rfl,a⟩
theorem uy(n:Int)(w:W):
  U ao 135 #[V H n] w λe w'=>e=ai (.tuple #[V H (n%4294967296),V H (n / 4294967296%4),V H (n / 17179869184%268435456)])/\w=w':=by
 go_enter func135,ntmps135;go_wp2_with (go_at_call 51;refine(jw _ _ _ M M).mono ?_;rintro e w' ⟨rfl,rfl⟩)
 go_ret3
 exact⟨Z,Z⟩
theorem Aw(n:Int)(w:W):
  U ao 77 #[V H n] w λe w'=>e=ai (V H (nt n))/\w=w':=by
 go_enter func77,ntmps77;go_wp2
 go_loop [3,5] (λt i=>∃k:Nat,k<=16/\i=V H k/\t=V H (uv n k)) (λ_ i=>16-(intOf i).toNat)
 case atStart=>exact⟨0,M,Z,Z⟩
 obtain⟨k,b,rfl,rfl⟩:=hrel;by_cases a:k<16
 ·go_wp2_with (go_at_call 51;refine(jw _ _ _ M M).mono ?_;rintro e w' ⟨rfl,rfl⟩)
  go_round
  case rel=>
   exact⟨k+1,M,by go_num,congrArg (LD .i64) (H4 n k a)⟩
  case measure=>simp[intOf];omega
 obtain rfl:k=16:=M;go_wp2;go_ret;exact⟨ju (MC n),Z⟩
theorem MG(n:Int)(w:W):U ao 91 #[V H n] w λe w'=>e=ai (V H (eY n))/\w=w':=by
 have a:=Jj n;go_enter func91,ntmps91;go_wp2_with (go_at_call 77;refine(Aw _ _).mono ?_;rintro e w' ⟨rfl,rfl⟩);go_ret;exact⟨rfl,rfl⟩
theorem K9(n:Int)(w:W):U ao 122 #[V H n] w λe w'=>e=ai (V H (pw n))/\w=w':=by
 have a:=Jj n;go_enter func122,ntmps122;go_wp2_with (go_at_call 77;refine(Aw _ _).mono ?_;rintro e w' ⟨rfl,rfl⟩);go_ret;exact⟨rfl,rfl⟩
theorem key_any(n:Int)(w:W):U ao 60 #[V H n] w λe w'=>e=ai (V H (nt (n%131072 / 2)))/\w=w':=by
 go_enter func60,ntmps60;go_wp2_with (first|(go_at_call 51;refine(jw _ _ _ M M).mono ?_;rintro e w' ⟨rfl,rfl⟩)|(go_at_call 77;refine(Aw _ _).mono ?_;rintro e w' ⟨rfl,rfl⟩));go_ret;exact⟨rfl,rfl⟩
end
section
open Go.RowKit
def hJ(l:Ly)(q:An Out)(w:W)(e:jK)(b:W):Prop:=
 ((∃a,q= .ask a/\e=ai (.tuple #[.agg (bj a.k (adr l a.c) a.o a.v),.agg aW,ah X]))\/
  (∃o c,q= .fin o/\e=ai (.tuple #[.agg cG,.agg (bg o.val o.is 0 o.bc c),ah O])/\bI b c o.gone))/\D w.heap.size w b
theorem eo{P:J4}{fn:Func}{p q t:Tmp}{t1 t2:bM}(h:fn.results=#[.cell p t1,.cell q t2,.tmp t])(a:Array I)(w:W)(d c:Nat)(b e:Array I)(i j:Nat × Nat)(f g:TypeDesc)(v:I)(l:a.getD p undef=ae (J ⟨d,0,Y⟩))(k:a.getD q undef=ae (J ⟨c,0,Y⟩))(z:a.getD t undef=v)(o:w.heap[d]? =J (ag b t1 i))(x:w.heap[c]? =J (ag e t2 j))(m:P.underlying t1=J f)(B:(match f with|.struct _|.array _ _=>O|_=>X)=O)(s:(P.info? t1).map (·.size)=J b.size)(A:P.underlying t2=J g)(hd2:(match g with|.struct _|.array _ _=>O|_=>X)=O)(u:(P.info? t2).map (·.size)=J e.size):
  (jE fn a).run P w= .ok (.tuple #[.agg b,.agg e,v]) w:=by
 subst z;have n:a[p]?.getD undef=ae (J ⟨d,0,Y⟩):=by simpa using l
 have y:a[q]?.getD undef=ae (J ⟨c,0,Y⟩):=by simpa using k
 simp[jE,h,n,y,asAddr,a7 w d t1 t1 b i f o m B s,a7 w c t2 t2 e j g x A hd2 u]
end
section
open Go.RowKit
attribute [local go_sem ↓] aQ aR
variable {w:W} {B:Nat} {A:Option Addr} {l:List Int}
theorem kJ{a:W}(h:D a.heap.size a w)(n:Nat):D a.heap.size a (w.drewN n):=⟨h.os,h.tape,h.output,h.size,h.block⟩
def eT(w:W)(B:Nat)(A:Option Addr)(l:List Int):Prop:=
 0<l.length->∃b o,A=J ⟨b,o,Y⟩/\b<B/\∀(k:Nat) (r:Int),l[k]? =J r->w.cell? ⟨b,o+k,Y⟩=J (V H r)
theorem eT.below{c:W}(h:eT w B A l)(g:D B w c):eT c B A l:=by
 intro f;obtain⟨b,o,e,d,i⟩:=h f;exact⟨b,o,e,d,λk a j=>(g.cell (p:=⟨b,_,Y⟩) d).trans (i k a j)⟩
theorem eT.more{a:Nat}(h:eT w B A l)(d:B<=a):eT w a A l:=by
 intro c;obtain⟨b,o,e,g,f⟩:=h c;exact⟨b,o,e,aZ g d,f⟩
theorem eT.of_bk{g:Nat}{t:bM}{zs:List Int}(h:Bk w g t (zs.map (LD .i64)).toArray):eT w w.heap.size (J ⟨g,0,Y⟩) zs:=by
 intro _;refine⟨g,0,Z,h.lt,λk r a=>?_⟩;rw[ea,h.cell k];simp[a]
end
end Go.Proofs.YtikdaeddbkopeaaGreatR
