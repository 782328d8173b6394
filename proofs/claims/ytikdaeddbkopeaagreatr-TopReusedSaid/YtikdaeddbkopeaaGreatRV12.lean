/- A part of the proof. -/
import Derived.Test.YtikdaeddbkopeaaGreatRProg
import Derived.WalkKit
import Derived.Deep.QuietTactic
import Derived.Deep.DrawnRows
import Derived.BigQuiet
import Derived.Outline
import Derived.Test.YtikdaeddbkopeaaGreatRV11
import Derived.Test.YtikdaeddbkopeaaGreatRV10
import Derived.Test.YtikdaeddbkopeaaGreatRV1
set_option linter.unusedVariables false
set_option linter.unusedSimpArgs false
set_option maxRecDepth 100000
set_option maxHeartbeats 16000000
open Array renaming getElem?_eq_some_iff → bE
open Bool renaming and_eq_true → dq
open Classical renaming byContradiction → Aw
open Go renaming wpList_load_row → aL, wp_at_zero → aV, wp_at_succ → aW, TypeId → bR, wpList_append_own_at → cM, Ending → lb, maxLen → nu, info_parts → xE
open Go.Ending renaming returned → ai
open Go.IntKind renaming i64 → ab
open Go.Lib renaming hid → ar
open Go.Obj renaming cells → ag
open Go.Proofs.Tryz renaming underlying34 → aJ, prog → aw
open Go.RowKit.Below renaming heap_setCell → pM
open Go.Value renaming oneCell' → aD, int → sj, bool → ah, int → aa, pointer → ae
open Go.WideShapes renaming add_plain → fV
open Go.World renaming ownsRow_nil → cZ
open Go.World.ownsRow renaming cellAt → jj
open List renaming getElem?_eq_some_iff → a8, getElem?_eq_getElem → aO, setIfInBounds_toArray → aj, set_cons_zero → ak, set_cons_succ → al, getElem_cons_zero → an, getElem_cons_succ → ao, getElem_toArray → aq, mem_of_getElem? → bX, range → xF
open Nat renaming le_trans → aQ, zero_le → aY, le_refl → az, lt_of_lt_of_le → bg, le_add_right → dZ, zero_add → eE, succ_le_succ → ft, le_succ → uO
open Or renaming inl → jL
namespace Go.Proofs.YtikdaeddbkopeaaGreatR
def LPh.now (m:Sm):LPh->Bool
 | .sub x (.fh _)=>x.now m
 | .sub x (.fn _ f)=>(m (.nd f.prev 0)==a9 f.cur)&&x.now m
 | .sub _ (.fr _ f)=>m (.nd f.prev 0)==a9 f.cur
 | .sub _ (.pt prev cur)=>m (.nd prev 0)==a9 cur
 | .sub _ _=>true
 | .fs _ f next _ | .fo _ f next _=>(m (.nd f.prev 0)==a9 f.cur)&&m (.nd f.cur 0)==next
 | .fc _ f _=>m (.nd f.prev 0)==a9 f.cur
 | .gv _ _=>true
 | .p1 _ prev cur | .p2 _ prev cur | .p0 _ prev cur | .pc _ prev cur=>m (.nd prev 0)==a9 cur
 | .dm prev cur next=>(m (.nd prev 0)==a9 cur)&&m (.nd cur 0)==next
 | .du prev cur _ _=>m (.nd prev 0)==a9 cur
def LPh.base (m:Sm) (g:Gh) (z:Pz):LPh->Nat
 | .sub x (.fh _)=>ee m z x+422
 | .sub x (.fn _ f)=>ee m z x+17+10 * (rk m g f.cur - 1)
 | .sub x (.fr _ f)=>ee m z x+12+10 * rk m g f.cur
 | .sub x (.out _)=>ee m z x
 | .sub x (.clr _)=>ee m z x+3
 | .sub x (.pt _ _)=>ee m z x+7
 | .sub x (.dc _ _)=>ee m z x+2
 | .fs _ f _ _=>17+10 * (rk m g f.cur - 1)
 | .fo _ f _ _=>16+10 * (rk m g f.cur - 1)
 | .fc _ f _=>15+10 * (rk m g f.cur - 1)
 | .gv _ _=>4
 | .p1 _ _ _=>7
 | .p2 _ _ _=>6
 | .p0 _ _ _=>5
 | .pc _ _ _=>4
 | .dm _ _ _=>7
 | .du _ _ _ _=>6
def ext (b:Bool):Nat:=if b then 0 else 450
def xq (m:Sm) (g:Gh) (z:Pz) (x:LPh):Nat:=x.base m g z+ext (x.now m)
def LX.rho (m:Sm) (g:Gh):LX->Nat
 | .go x z=>xq m g z x
 | _=>0
section
variable {m m':Sm} {g g':Gh} {s t:Nat} {z:Pz} {op:LOp}
theorem ext_le (b:Bool):ext b<=450:=by unfold ext;split <;> omega
theorem py {a b:Bool} (h:a=true->b=true):ext b<=ext a:=by
 unfold ext;cases a <;> cases b <;> simp at h ⊢
theorem Bq (m:Sm) (z:Pz) (x:Sub):ee m z x<=7:=by
 cases x <;> simp only [ee] <;> first | (split <;> omega) | omega
theorem rhoL_le (m:Sm) (g:Gh) (z:Pz) (x:LPh):xq m g z x<=890:=by
 unfold xq;have h2:=ext_le (x.now m);have h1:x.base m g z<=440:=by
  cases x with
  | sub x k=>
   have:=Bq m z x
   cases k with
   | fn k f=>have:=AG m g f.cur;simp only [LPh.base];omega
   | fr k f=>have:=AG m g f.cur;simp only [LPh.base];omega
   | _=>simp only [LPh.base];omega
  | fs k f _ _=>have:=AG m g f.cur;simp only [LPh.base];omega
  | fo k f _ _=>have:=AG m g f.cur;simp only [LPh.base];omega
  | fc k f _=>have:=AG m g f.cur;simp only [LPh.base];omega
  | _=>simp only [LPh.base];omega
 omega
theorem uz (o:dA) (z:Pz):(iE o z).rho m g<=3:=by
 have:=pB m z 0 zO;unfold iE
 cases hx:dK z 0 with
 | go x z'=>rw [hx] at this;show ee m z' x+ext true<=3;unfold ext;exact this
 | ret r z'=>exact aY _
 | stuck=>exact aY _
theorem DR (n:Int) (o:dA) (z:Pz):(ie n o z).rho m g<=5:=by
 have:=pB m z 0 zO;unfold ie
 cases hx:dK z 0 with
 | go x z'=>rw [hx] at this;have this:ee m z' x<=3:=this;show ee m z' x+2+ext true<=5;unfold ext;simp;omega
 | ret r z'=>show 2+ext true<=5;decide
 | stuck=>exact aY _
theorem kH (k:FK) (z:Pz):(jU op k z).rho m g<=427:=by
 show ee m z (.g1 0 (.nd op.h 0))+422+ext true<=427;simp only [ee,ext];simp;split <;> omega
theorem vG (k:FK) (there:Bool) (prev cur next:Int) (pt:Nat) (z:Pz):(kI op k there prev cur next pt z).rho m g<=12+ext ((m (.nd prev 0)==a9 cur)&&(!there||m (.nd cur 0)==next)):=by
 have hc:∀ o,(iE o z).rho m g<=12+ext ((m (.nd prev 0)==a9 cur)&&(!there||m (.nd cur 0)==next)):=fun o=>by have:=uz (m:=m) (g:=g) o z;omega
 cases k with
 | get=>
  cases there
  ·exact hc _
  ·show 4+ext true<=_;unfold ext;simp;omega
 | put n=>
  cases there
  ·show LX.rho m g (if n=0 then _ else _)<=_
   split
   ·show 5+7+ext (m (.nd prev 0)==a9 cur)<=_;simp
   ·show 5+ext (m (.nd prev 0)==a9 cur)<=_;simp
  ·show LX.rho m g (if n≠0 then _ else _)<=_
   split
   ·show 3+3+ext true<=_;unfold ext;simp;omega
   ·exact hc _
 | del=>
  cases there
  ·exact hc _
  ·show 7+ext ((m (.nd prev 0)==a9 cur)&&m (.nd cur 0)==next)<=_
   simp
 | fin p=>exact hc _
theorem vp (h:Gl m g) (k:FK) {f:Fp} (hf:f.cur=0\/(g.st f.cur).isL=true) (z:Pz):(fY op k f z).rho m g<=12+10 * rk m g f.cur+ext (m (.nd f.prev 0)==a9 f.cur):=by
 unfold fY;split
 ·rename_i h0;have:=vG (m:=m) (g:=g) (op:=op) k false f.prev 0 0 f.pt z;rw [h0];simp at this ⊢;omega
 ·rename_i h0;have:=rk_pos h (hf.resolve_left h0);show ee m z (.g1 f.b (.nd f.cur 0))+17+10 * (rk m g f.cur - 1)+ext ((m (.nd f.prev 0)==a9 f.cur)&&true)<=_;rw [Bool.and_true];have:ee m z (.g1 f.b (.nd f.cur 0))<=5:=by simp only [ee];split <;> omega
  omega
theorem xJ {x x':Sub} {z':Pz} {th:Int} (jm:∃ c,x.cls= .G c) (aG:x.stp th z ((x.acc s).res m)= .go x' z') (hn:∀ c,x.cls= .G c->((x.acc s).mem m) c=m c):x.now m=true->x'.now ((x.acc s).mem m)=true:=by
 intro h
 cases x with
 | g1 i c=>
  injection aG with e1 e2
  subst e1;show (((Sub.g1 i c).acc s).mem m c==(((Sub.g1 i c).acc s).res m).1)=true;rw [fF,bO rfl];exact beq_self_eq_true _
 | g2 i c v=>
  have:(if (((Sub.g2 i c v).acc s).res m).1=z.dO.getD i 0 then SX.ret (.gd v (z.made - 1)) z.got else .go (.g3 i c (((Sub.g2 i c v).acc s).res m).1) z.got)= .go x' z':=aG
  split at this
  ·cases this
  ·injection this with e1 e2;subst e1;rfl
 | g3 i c e=>injection aG with e1 e2;subst e1;rfl
 | _=>obtain ⟨c,jm⟩:=jm;cases jm
theorem xI {x:Sub} {v:Int} {p:Nat} {z':Pz} {th:Int} (aG:x.stp th z ((x.acc s).res m)= .ret (.gd v p) z'):∃ i c,x= .g2 i c v/\(x.acc s).mem m=m:=by
 cases x with
 | g2 i c w=>
  have:(if (((Sub.g2 i c w).acc s).res m).1=z.dO.getD i 0 then SX.ret (.gd w (z.made - 1)) z.got else .go (.g3 i c (((Sub.g2 i c w).acc s).res m).1) z.got)= .ret (.gd v p) z':=aG
  split at this
  ·injection this with e1 e2;injection e1 with e1 e3;subst e1;exact ⟨i,c,rfl,bO rfl _⟩
  ·cases this
 | g1 i c=>cases aG
 | g3 i c e=>cases aG
 | t1=>
  have:(if idxOf ((Sub.t1.acc s).res m).1=0 then SX.ret (.tk 0 z.made false) z.got else .go (.t2 ((Sub.t1.acc s).res m).1) z.got)= .ret (.gd v p) z':=aG
  split at this <;> cases this
 | t2 fr=>cases aG
 | t3 fr lk=>
  have:(if (((Sub.t3 fr lk).acc s).res m).2 then SX.go (.t4 (idxOf fr) z.made) z.got else .go .t1 z.got)= .ret (.gd v p) z':=aG
  split at this <;> cases this
 | t4 n p=>cases aG
 | t5 n b p=>cases aG
 | v1 n=>cases aG
 | v2 n fr=>cases aG
 | v3 n fr=>
  have:(if (((Sub.v3 n fr).acc s).res m).2 then SX.ret .un z.got else .go (.v1 n) z.got)= .ret (.gd v p) z':=aG
  split at this <;> cases this
 | cl i=>
  have:dK { z.got with dO:=z.dO.set i 0 } (i+1)= .ret (.gd v p) z':=aG
  unfold dK at this;split at this <;> cases this
 | r1 n=>cases aG
 | r2 n e=>
  have:(if (z.gone.length:Int)+1 < th then SX.ret .un { z.got with gone:=z.gone++[(n,e)] } else .stuck)= .ret (.gd v p) z':=aG
  split at this <;> cases this
theorem sub_nd0 (h:Gl m g) {x:Sub} (hx:mO s m g x) {n:Int} (hn:(g.st n).isL=true):(x.acc s).mem m (.nd n 0)=m (.nd n 0):=by
 cases x with
 | g1 i c=>rw [bO rfl]
 | g2 i c v=>rw [bO rfl]
 | g3 i c e=>rw [cW rfl];rfl
 | t1=>rw [bO rfl]
 | t2 fr=>rw [bO rfl]
 | t3 fr lk=>
  cases hr:((Sub.t3 fr lk).acc s |>.res m).2 with
  | false=>rw [dg rfl hr]
  | true=>rw [(eZ (a:=(Sub.t3 fr lk).acc s) rfl hr).2];rfl
 | t4 n p=>rw [bO rfl]
 | t5 n b p=>rw [cW rfl];exact fO m _ _ _ (.inr zD)
 | v1 n=>rw [bO rfl]
 | v2 n fr=>rw [cW rfl];exact fO m _ _ _ (.inr zD)
 | v3 n fr=>
  cases hr:((Sub.v3 n fr).acc s |>.res m).2 with
  | false=>rw [dg rfl hr]
  | true=>rw [(eZ (a:=(Sub.v3 n fr).acc s) rfl hr).2];rfl
 | cl i=>rw [cW rfl];rfl
 | r1 n=>rw [bO rfl]
 | r2 n e=>rw [rV rfl];rfl
theorem Mr (h:Gl m g) {x:Sub} {r:Int × Bool} (hx:mO s m g x) (e:Env s m g ((x.acc s).mem m) (x.gst s g r)):rH m g ((x.acc s).mem m) (x.gst s g r):=by
 refine rH.Nb e fun n hn=>?_
 cases x with
 | t3 fr lk=>
  have:(Gh.st (if r.2 then g.take s else g) n).isL=true:=hn
  split at this
  ·by_cases e:n=g.fl.headD 0
   ·rw [show (g.take s).st=eK g.st (g.fl.headD 0) (.ow s) from rfl,e,bH] at this;cases this
   ·rw [show (g.take s).st=eK g.st (g.fl.headD 0) (.ow s) from rfl,bJ _ _ e] at this;exact this
  ·exact this
 | v3 k fr=>
  have:(Gh.st (if r.2 then g.qK k else g) n).isL=true:=hn
  split at this
  ·by_cases e:n=k
   ·rw [show (g.qK k).st=eK g.st k .fr from rfl,e,bH] at this;cases this
   ·rw [show (g.qK k).st=eK g.st k .fr from rfl,bJ _ _ e] at this;exact this
  ·exact this
 | _=>exact hn
theorem mf {x:Sub} {k:LK} {X:SX} {e c:Nat} (hb:∀ x' z',X= .go x' z'->xq m g z' (.sub x' k)<=ee m z' x'+c+e) (hg:∀ r z',X= .ret r z'->(jS op r z' k).rho m g<=c+e):(X.oX k fun t s=>jS op t s k).rho m g<=X.rho m+c+e:=by
 cases X with
 | go x' z'=>exact hb x' z' rfl
 | ret r z'=>have:=hg r z' rfl;show _<=0+c+e;exact aQ this zO
 | stuck=>exact aY _
theorem LPh.dec (h:Gl m g) {x:LPh} {th:Int} (hx:Cg s m g op z x) (hc:g.fc+1 < 268435456) (ht:g.tk<=37) (jl:((g.dd s).length:Int) < th):
  (x.stp th op z ((x.acc s op).res m)).rho ((x.acc s op).mem m) (x.gst s g op ((x.acc s op).res m))+1<=xq m g z x:=by
 obtain ⟨G1,G2,G3,-⟩:=LPh.step (th:=th) h hx hc ht jl;have gk:=hx.opk;have bG:=hx.ok;have hz:=hx.er;clear hx
 cases x with
 | sub x k=>
  have d:=Sub.dec (th:=th) h bG.1 hz;have sl:rH m g ((x.acc s).mem m) (x.gst s g ((x.acc s).res m)):=Mr h bG.1 G2;have n0:∀ n,(g.st n).isL=true->(x.acc s).mem m (.nd n 0)=m (.nd n 0):=fun n hn=>sub_nd0 h bG.1 hn
  have hk:=bG.2;show LX.rho ((x.acc s).mem m) (x.gst s g ((x.acc s).res m)) ((x.stp th z ((x.acc s).res m)).oX k fun t s=>jS op t s k)+1<=(LPh.sub x k).base m g z+ext ((LPh.sub x k).now m)
  cases k with
  | fh k=>
   obtain ⟨jm,hfk⟩:=hk;refine aQ (ft (mf (x:=x) (c:=422) (e:=ext (x.now m)) ?_ ?_)) (by show _<=ee m z x+422+ext (x.now m);omega)
   ·intro x' z' aG;have:=py (xJ ⟨_,jm⟩ aG fun c hc=>by
     rw [jm] at hc;injection hc with hc;subst hc;exact n0 _ gk.h)
    show ee _ z' x'+422+ext (x'.now _)<=_;omega
   ·intro r z' aG
    cases r with
    | gd v p=>
     obtain ⟨i,c,rfl,hm⟩:=xI aG;injection jm with jm;subst jm
     have hrd:=yv bG.1.2.2;have hl:=vp (op:=op) h k (f:=⟨0,1,2,op.h,idxOf v,p⟩) (hrd.2.2.2.imp_right fun a=>a.1) z'
     have hgs:(Sub.g2 i (.nd op.h 0) v).gst s g (((Sub.g2 i (.nd op.h 0) v).acc s).res m)=g:=rfl;rw [hgs,hm];show (fY op k ⟨0,1,2,op.h,idxOf v,p⟩ z').rho m g<=_;have hrk:=AG m g (idxOf v);have he:ext (m (.nd op.h 0)==a9 (idxOf v))<=ext ((Sub.g2 i (.nd op.h 0) v).now m):=py fun hn=>by
      have hn:m (.nd op.h 0)=v:=by simpa [Sub.now] using hn
      rcases hrd.2.2.1 with e | e
      ·rw [hn,<- e.1];exact beq_self_eq_true _
      ·have:=h.lmrk op.h gk.h (by rw [hn];exact e.2.1)
       have:=gk.hm;omega
     show _<=422+ext ((Sub.g2 i (.nd op.h 0) v).now m);have hl:(fY op k ⟨0,1,2,op.h,idxOf v,p⟩ z').rho m g<=12+10 * rk m g (idxOf v)+ext (m (.nd op.h 0)==a9 (idxOf v)):=hl;omega
    | _=>exact aY _
  | fn k f=>
   obtain ⟨jm,hfk,hf,xc⟩:=hk;have ja:(g.st f.cur).isL=true:=by rcases hf.2.2.2.2.2 with h | h;exact absurd h xc;exact h.1
   have hrk:=sl.rk (c:=f.cur) (.inr ja);refine aQ (ft (mf (x:=x) (c:=17+10 * (rk m g f.cur - 1)) (e:=ext ((m (.nd f.prev 0)==a9 f.cur)&&x.now m)) ?_ ?_)) (by show _<=ee m z x+17+10 * (rk m g f.cur - 1)+ext ((m (.nd f.prev 0)==a9 f.cur)&&x.now m);omega)
   ·intro x' z' aG;have h1:=xJ (m:=m) ⟨_,jm⟩ aG fun c hc=>by
     rw [jm] at hc;injection hc with hc;subst hc;exact n0 _ ja
    have:=py (a:=(m (.nd f.prev 0)==a9 f.cur)&&x.now m) (b:=((x.acc s).mem m (.nd f.prev 0)==a9 f.cur)&&x'.now ((x.acc s).mem m)) (by
     intro hh;rw [n0 _ hf.2.2.2.1];rw [dq] at hh ⊢;exact ⟨hh.1,h1 hh.2⟩)
    show ee _ z' x'+17+10 * (rk _ _ f.cur - 1)+ext (_&&x'.now _)<=_;rw [hrk];omega
   ·intro r z' aG
    cases r with
    | gd v p=>
     obtain ⟨i,c,rfl,hm⟩:=xI aG;injection jm with jm;subst jm
     have hgs:(Sub.g2 i (.nd f.cur 0) v).gst s g (((Sub.g2 i (.nd f.cur 0) v).acc s).res m)=g:=rfl;rw [hgs,hm];exact az _
    | _=>exact aY _
  | fr k f=>
   obtain ⟨jm,hfk,hf⟩:=hk;have ja:f.cur=0\/(g.st f.cur).isL=true:=hf.2.2.2.2.2.imp_right fun a=>a.1
   have hrk:=sl.rk ja;have hp:=n0 _ hf.2.2.2.1;refine aQ (ft (mf (x:=x) (c:=12+10 * rk m g f.cur) (e:=ext (m (.nd f.prev 0)==a9 f.cur)) ?_ ?_)) (by show _<=ee m z x+12+10 * rk m g f.cur+ext (m (.nd f.prev 0)==a9 f.cur);omega)
   ·intro x' z' aG;show ee _ z' x'+12+10 * rk _ _ f.cur+ext ((x.acc s).mem m (.nd f.prev 0)==a9 f.cur)<=_;rw [hrk,hp];omega
   ·intro r z' aG;have hl:=vp (op:=op) G1 k (f:=f) (by rw [show (LPh.sub x (.fr k f)).gst s g op (((LPh.sub x (.fr k f)).acc s op).res m)=x.gst s g ((x.acc s).res m) from rfl,sl.st];exact ja) z'
    have hl:(fY op k f z').rho ((x.acc s).mem m) (x.gst s g ((x.acc s).res m))<=12+10 * rk ((x.acc s).mem m) (x.gst s g ((x.acc s).res m)) f.cur+ext ((x.acc s).mem m (.nd f.prev 0)==a9 f.cur):=hl;rw [hrk,hp] at hl;exact hl
  | out o=>
   refine aQ (ft (mf (x:=x) (c:=0) (e:=0) ?_ ?_)) (by show _<=ee m z x+ext true;omega)
   ·intro x' z' aG;show ee _ z' x'+ext true<=_;simp [ext]
   ·intro r z' aG;exact aY _
  | clr o=>
   refine aQ (ft (mf (x:=x) (c:=3) (e:=0) ?_ ?_)) (by show _<=ee m z x+3+ext true;omega)
   ·intro x' z' aG;show ee _ z' x'+3+ext true<=_;simp [ext]
   ·intro r z' aG;exact uz _ _
  | pt prev cur=>
   obtain ⟨jm,nY,hi⟩:=hk;have hp:=n0 _ hi.1;refine aQ (ft (mf (x:=x) (c:=7) (e:=ext (m (.nd prev 0)==a9 cur)) ?_ ?_)) (by show _<=ee m z x+7+ext (m (.nd prev 0)==a9 cur);omega)
   ·intro x' z' aG;show ee _ z' x'+7+ext ((x.acc s).mem m (.nd prev 0)==a9 cur)<=_;rw [hp];omega
   ·intro r z' aG
    cases r with
    | tk n p ok=>
     cases ok with
     | false=>exact aY _
     | true=>
      show 7+ext ((x.acc s).mem m (.nd prev 0)==a9 cur)<=_;rw [hp];omega
    | _=>exact aY _
  | dc n o=>
   refine aQ (ft (mf (x:=x) (c:=2) (e:=0) ?_ ?_)) (by show _<=ee m z x+2+ext true;omega)
   ·intro x' z' aG;show ee _ z' x'+2+ext true<=_;simp [ext]
   ·intro r z' aG;show 2+ext true<=2+0;decide
 | fs k f next told=>
  have e0:LPh.gst s g op (.fs k f next told) (((LPh.fs k f next told).acc s op).res m)=g:=rfl
  rw [bO rfl,e0];have hv:(((LPh.fs k f next told).acc s op).res m).1=m (.nd f.prev 0):=fF _ _
  show LX.rho m g (if _ then _ else _)+1<=17+10 * (rk m g f.cur - 1)+ext ((m (.nd f.prev 0)==a9 f.cur)&&m (.nd f.cur 0)==next)
  rw [hv];split
  ·rename_i dF;have:=kH (m:=m) (g:=g) (op:=op) k z.got;have e1:(m (.nd f.prev 0)==a9 f.cur)=false:=by simpa using dF
   rw [e1];show _<=_+ext false;simp [ext];omega
  ·show 16+10 * (rk m g f.cur - 1)+ext ((m (.nd f.prev 0)==a9 f.cur)&&m (.nd f.cur 0)==next)+1<=_
   omega
 | fo k f next told=>
  obtain ⟨hk,hf,h0,hr⟩:=bG;have ja:(g.st f.cur).isL=true/\cX m f.prev < cX m f.cur:=by rcases hf.2.2.2.2.2 with h | h;exact absurd h h0;exact h
  obtain ⟨i0,i1,iw,ik⟩:=yv hr;have hrn:=Bp h ja.1 ik;have e0:LPh.gst s g op (.fo k f next told) (((LPh.fo k f next told).acc s op).res m)=g:=rfl
  rw [bO rfl,e0];show LX.rho m g (if _ then _ else _)+1<=16+10 * (rk m g f.cur - 1)+ext ((m (.nd f.prev 0)==a9 f.cur)&&m (.nd f.cur 0)==next)
  split
  ·show 15+10 * (rk m g f.cur - 1)+ext (m (.nd f.prev 0)==a9 f.cur)+1<=_;have:=py (a:=(m (.nd f.prev 0)==a9 f.cur)&&m (.nd f.cur 0)==next) (b:=m (.nd f.prev 0)==a9 f.cur) (fun hh=>by rw [dq] at hh;exact hh.1)
   omega
  ·rename_i hm;have hm:fG next=false:=by simpa using hm
   have lH:next=a9 (idxOf next):=by
    rcases iw with e | e
    ·exact e.1
    ·rw [hm] at e;cases e.2.1
   split
   ·have hl:=vp (op:=op) h k (f:=⟨f.b,f.c,f.a,f.cur,idxOf next,told⟩) (ik.imp_right fun a=>a.1) z.got
    have hl:(fY op k ⟨f.b,f.c,f.a,f.cur,idxOf next,told⟩ z.got).rho m g<=12+10 * rk m g (idxOf next)+ext (m (.nd f.cur 0)==a9 (idxOf next)):=hl
    have:=py (a:=(m (.nd f.prev 0)==a9 f.cur)&&m (.nd f.cur 0)==next) (b:=m (.nd f.cur 0)==a9 (idxOf next)) (fun hh=>by rw [dq] at hh;rw [<- lH];exact hh.2)
    omega
   ·split
    ·have hl:=vG (m:=m) (g:=g) (op:=op) k true f.prev f.cur next told z.got
     simp only [Bool.not_true,Bool.false_or] at hl;omega
    ·have hl:=vG (m:=m) (g:=g) (op:=op) k false f.prev f.cur 0 (z.made - 1) z.got;simp only [Bool.not_false,Bool.true_or,Bool.and_true] at hl;have:=py (a:=(m (.nd f.prev 0)==a9 f.cur)&&m (.nd f.cur 0)==next) (b:=m (.nd f.prev 0)==a9 f.cur) (fun hh=>by rw [dq] at hh;exact hh.1)
     omega
 | fc k f nx=>
  obtain ⟨hk,hf,h0,mU⟩:=bG;have ja:(g.st f.cur).isL=true/\cX m f.prev < cX m f.cur:=by rcases hf.2.2.2.2.2 with h | h;exact absurd h h0;exact h
  by_cases e:m (.nd f.prev 0)=a9 f.cur
  ·have hr:(((LPh.fc k f nx).acc s op).res m).2=true:=by simp [LAc.res,LPh.acc,e]
   obtain ⟨hm,hw⟩:=eZ (a:=(LPh.fc k f nx).acc s op) rfl hr;have e1:LPh.gst s g op (.fc k f nx) (((LPh.fc k f nx).acc s op).res m)=g.unl s f.cur:=by simp [LPh.gst,hr]
   have e2:LPh.stp th op z (.fc k f nx) (((LPh.fc k f nx).acc s op).res m)= .go (.sub (.r1 f.cur) (.fr k ⟨f.b,f.a,f.c,f.prev,nx,z.made⟩)) z.got:=by simp [LPh.stp,hr]
   rw [e1,hw] at G2;rw [e1,e2,hw];have lJ:nx=0\/(g.st nx).isL=true/\cX m f.cur < cX m nx:=by
    obtain ⟨y,y0,y1,yw,yy⟩:=h.lwrd f.cur ja.1;have:y=nx:=by
     rcases yw with yw | yw
     ·have:=lB nx;rw [<- mU.2.2,yw,dQ] at this;cases this
     ·rw [<- lF y0 y1,<- yw,mU.2.2,lF mU.1 mU.2.1]
    rw [this] at yy;exact yy
   have sl:rH m g (bZ m (.nd f.prev 0) (a9 nx)) (g.unl s f.cur):=rH.Nb G2 fun n hn=>by
    have hn:(eK g.st f.cur (.dli s) n).isL=true:=hn
    by_cases en:n=f.cur
    ·rw [en];exact ja.1
    ·rw [bJ _ _ en] at hn;exact hn
   have hrk:=sl.rk (c:=nx) (lJ.imp_right fun a=>a.1)
   have hrn:=Bp h ja.1 lJ;show 2+12+10 * rk (bZ m (.nd f.prev 0) (a9 nx)) (g.unl s f.cur) nx+ext (bZ m (.nd f.prev 0) (a9 nx) (.nd f.prev 0)==a9 nx)+1<=15+10 * (rk m g f.cur - 1)+ext (m (.nd f.prev 0)==a9 f.cur);rw [hrk,db];simp [ext];omega
  ·have hr:(((LPh.fc k f nx).acc s op).res m).2=false:=by simp [LAc.res,LPh.acc,e]
   have e1:LPh.gst s g op (.fc k f nx) (((LPh.fc k f nx).acc s op).res m)=g:=by simp [LPh.gst,hr]
   have e2:LPh.stp th op z (.fc k f nx) (((LPh.fc k f nx).acc s op).res m)=jU op k z.got:=by simp [LPh.stp,hr]
   rw [e1,e2,dg rfl hr];have:=kH (m:=m) (g:=g) (op:=op) k z.got;show _<=15+10 * (rk m g f.cur - 1)+ext (m (.nd f.prev 0)==a9 f.cur);rw [beq_false_of_ne e];simp [ext];omega
 | gv n p=>have:=uz (m:=((LPh.gv n p).acc s op).mem m) (g:=g) ⟨(((LPh.gv n p).acc s op).res m).1,true,p,n⟩ z.got;exact ft (aQ this (az _))
 | p1 n prev cur=>
  rw [cW rfl];have:bZ m (.nd n 1) op.o (.nd prev 0)=m (.nd prev 0):=fO m _ _ _ (.inr zD);show 6+ext (bZ m (.nd n 1) op.o (.nd prev 0)==a9 cur)+1<=7+ext (m (.nd prev 0)==a9 cur);rw [this];omega
 | p2 n prev cur=>
  rw [cW rfl];have:bZ m (.nd n 2) op.v (.nd prev 0)=m (.nd prev 0):=fO m _ _ _ (.inr zD);show 5+ext (bZ m (.nd n 2) op.v (.nd prev 0)==a9 cur)+1<=6+ext (m (.nd prev 0)==a9 cur);rw [this];omega
 | p0 n prev cur=>
  rw [cW rfl];have:bZ m (.nd n 0) (a9 cur) (.nd prev 0)=m (.nd prev 0):=fO m _ _ _ (.inl (fun e=>M6 bG.2.1 bG.2.2.1.1 e.symm))
  show 4+ext (bZ m (.nd n 0) (a9 cur) (.nd prev 0)==a9 cur)+1<=5+ext (m (.nd prev 0)==a9 cur);rw [this];omega
 | pc n prev cur=>
  by_cases e:m (.nd prev 0)=a9 cur
  ·have hr:(((LPh.pc n prev cur).acc s op).res m).2=true:=by simp [LAc.res,LPh.acc,e]
   have e2:LPh.stp th op z (.pc n prev cur) (((LPh.pc n prev cur).acc s op).res m)=iE ⟨0,true,z.made,n⟩ z.got:=by simp [LPh.stp,hr]
   rw [e2];have:=uz (m:=((LPh.pc n prev cur).acc s op).mem m) (g:=LPh.gst s g op (.pc n prev cur) (((LPh.pc n prev cur).acc s op).res m)) ⟨0,true,z.made,n⟩ z.got;show _<=4+ext _;omega
  ·have hr:(((LPh.pc n prev cur).acc s op).res m).2=false:=by simp [LAc.res,LPh.acc,e]
   have e2:LPh.stp th op z (.pc n prev cur) (((LPh.pc n prev cur).acc s op).res m)=jU op (.put n) z.got:=by simp [LPh.stp,hr]
   rw [e2];have:=kH (m:=((LPh.pc n prev cur).acc s op).mem m) (g:=LPh.gst s g op (.pc n prev cur) (((LPh.pc n prev cur).acc s op).res m)) (op:=op) (.put n) z.got;show _<=4+ext (m (.nd prev 0)==a9 cur);rw [beq_false_of_ne e];simp only [ext,Bool.false_eq_true,if_false];omega
 | dm prev cur next=>
  obtain ⟨El,vr,hcu,h0,hkc,hmn,hrd⟩:=bG;have ja:(g.st cur).isL=true/\cX m prev < cX m cur:=by rcases hcu.2.2 with h | h;exact absurd h h0;exact h
  have dF:prev≠cur:=by rintro rfl;omega
  by_cases e:m (.nd cur 0)=next
  ·have hr:(((LPh.dm prev cur next).acc s op).res m).2=true:=by simp [LAc.res,LPh.acc,e]
   obtain ⟨hm,hw⟩:=eZ (a:=(LPh.dm prev cur next).acc s op) rfl hr
   have e2:LPh.stp th op z (.dm prev cur next) (((LPh.dm prev cur next).acc s op).res m)= .go (.du prev cur next z.made) z.got:=by simp [LPh.stp,hr]
   rw [e2,hw];have:bZ m (.nd cur 0) (gZ (idxOf next)) (.nd prev 0)=m (.nd prev 0):=fO m _ _ _ (.inl dF)
   show 6+ext (bZ m (.nd cur 0) (gZ (idxOf next)) (.nd prev 0)==a9 cur)+1<=7+ext ((m (.nd prev 0)==a9 cur)&&m (.nd cur 0)==next)
   rw [this,e,beq_self_eq_true,Bool.and_true];omega
  ·have hr:(((LPh.dm prev cur next).acc s op).res m).2=false:=by simp [LAc.res,LPh.acc,e]
   have e2:LPh.stp th op z (.dm prev cur next) (((LPh.dm prev cur next).acc s op).res m)=jU op .del z.got:=by simp [LPh.stp,hr]
   rw [e2];have:=kH (m:=((LPh.dm prev cur next).acc s op).mem m) (g:=LPh.gst s g op (.dm prev cur next) (((LPh.dm prev cur next).acc s op).res m)) (op:=op) .del z.got
   show _<=7+ext ((m (.nd prev 0)==a9 cur)&&m (.nd cur 0)==next)
   rw [beq_false_of_ne e,Bool.and_false];simp only [ext,Bool.false_eq_true,if_false];omega
 | du prev cur next p=>
  by_cases e:m (.nd prev 0)=a9 cur
  ·have hr:(((LPh.du prev cur next p).acc s op).res m).2=true:=by simp [LAc.res,LPh.acc,e]
   have e2:LPh.stp th op z (.du prev cur next p) (((LPh.du prev cur next p).acc s op).res m)=ie cur ⟨0,true,p,0⟩ z.got:=by simp [LPh.stp,hr]
   rw [e2];have:=DR (m:=((LPh.du prev cur next p).acc s op).mem m) (g:=LPh.gst s g op (.du prev cur next p) (((LPh.du prev cur next p).acc s op).res m)) cur ⟨0,true,p,0⟩ z.got
   show _<=6+ext _;omega
  ·have hr:(((LPh.du prev cur next p).acc s op).res m).2=false:=by simp [LAc.res,LPh.acc,e]
   have e2:LPh.stp th op z (.du prev cur next p) (((LPh.du prev cur next p).acc s op).res m)=jU op (.fin p) z.got:=by simp [LPh.stp,hr]
   rw [e2];have:=kH (m:=((LPh.du prev cur next p).acc s op).mem m) (g:=LPh.gst s g op (.du prev cur next p) (((LPh.du prev cur next p).acc s op).res m)) (op:=op) (.fin p) z.got
   show _<=6+ext (m (.nd prev 0)==a9 cur);rw [beq_false_of_ne e];simp only [ext,Bool.false_eq_true,if_false];omega
end
def II (m:Sm) (g:Gh):MPh->Nat
 | .m1=>890
 | .m2 _ _=>889
 | .m3 _=>888
 | .ml dm _ _ _ x z=>if dm then xq m g z x+440 else xq m g z x+2
 | .m4 _ _=>440
 | .m5 _ _=>2
 | .m6 _ _=>1
 | .m7 _=>1
def MX.rho (m:Sm) (g:Gh):MX->Nat
 | .go x _ _=>II m g x
 | _=>0
section
variable {m m':Sm} {g g':Gh} {s t:Nat} {op:MOp} {gn:cG}
theorem rhoM_le (m:Sm) (g:Gh) (x:MPh):II m g x<=1400:=by
 cases x with
 | ml dm sz mm lo x z=>have:=rhoL_le m g z x;simp only [II];split <;> omega
 | _=>simp only [II];omega
theorem yf (lo:LOp) (gn:cG):(dp lo gn).rho m g<=427:=by
 unfold dp;split
 ·exact kH _ _
 ·exact kH _ _
 ·exact kH _ _
 ·exact aY _
theorem BI {dm:Bool} {sz:Int} {mm:Nat} {lo:LOp} {f:dA->Pz->MX} {X:LX} {c:Nat} (hc:c=if dm then 440 else 2) (hf:∀ o z,(f o z).rho m g<=c):(X.inM dm sz mm lo f).rho m g<=X.rho m g+c:=by
 subst hc
 cases X with
 | go x z=>
  show (if dm then xq m g z x+440 else xq m g z x+2)<=xq m g z x+_
  split <;> omega
 | out o z=>have:=hf o z;show _<=0+_;rw [eE];exact this
 | stuck=>exact aY _
theorem AS (sz n:Int) (made:Nat):(ku op sz n made gn).rho m g<=429:=by
 unfold ku;split
 case isFalse=>exact aY _
 have h1:=yf (m:=m) (g:=g) ⟨op.kind,n,jr op.a,op.b⟩ gn;have h2:=BI (m:=m) (g:=g) (dm:=false) (sz:=sz) (mm:=made) (lo:=⟨op.kind,n,jr op.a,op.b⟩) (f:=fun _ _=>.stuck) (X:=dp ⟨op.kind,n,jr op.a,op.b⟩ gn) (c:=2) rfl (fun _ _=>aY _)
 exact aQ h2 zO
theorem K6 (sz:Int) (o:dA) (made:Nat):(jf op sz o made gn).rho m g<=2:=by
 unfold jf;split
 ·exact aY _
 ·split
  ·exact az _
  ·split
   ·show 1<=2;omega
   ·exact aY _
theorem MPh.dec (h:Gl m g) {x:MPh} {th:Int} {made:Nat} (hx:Ea s m g op gn x) (hc:g.fc+1 < 268435456) (ht:g.tk<=37) (jl:((g.dd s).length:Int) < th):
  (x.stp th 2 op made gn ((x.acc s).res m)).rho ((x.acc s).mem m) (x.gst s g ((x.acc s).res m))+1<=II m g x:=by
 have bG:=hx.ok;clear hx
 cases x with
 | m1=>
  show MX.rho _ g (if _ then _ else _)+1<=890
  split
  ·show 889+1<=890;omega
  ·show 0+1<=890;omega
 | m2 sz b=>
  show MX.rho _ g (if _ then _ else if _ then _ else _)+1<=889
  split
  ·have:=AS (m:=((MPh.m2 sz b).acc s).mem m) (g:=g) (op:=op) (gn:=gn) sz (idxOf (((MPh.m2 sz b).acc s).res m).1) (made+1);omega
  ·split
   ·show 888+1<=889;omega
   ·show 0+1<=889;omega
 | m3 sz=>
  show MX.rho _ g (if _ then _ else _)+1<=888
  split
  ·show 0+1<=888;omega
  ·rename_i h0;have h1:=yf (m:=((MPh.m3 sz).acc s).mem m) (g:=g) ⟨2,idxOf (((MPh.m3 sz).acc s).res m).1,rA 1,0⟩ gn;have h2:=BI (m:=((MPh.m3 sz).acc s).mem m) (g:=g) (dm:=true) (sz:=sz) (mm:=made+1) (lo:=⟨2,idxOf (((MPh.m3 sz).acc s).res m).1,rA 1,0⟩) (f:=fun _ _=>.stuck) (X:=dp ⟨2,idxOf (((MPh.m3 sz).acc s).res m).1,rA 1,0⟩ gn) (c:=440) rfl (fun _ _=>aY _)
   exact aQ (ft h2) zO
 | ml dm sz mm lo x z=>
  have d:=LPh.dec (th:=th) h bG.1 hc ht jl;show MX.rho ((x.acc s lo).mem m) (x.gst s g lo ((x.acc s lo).res m)) (LX.inM dm sz mm lo (fun o s'=>if dm then .go (.m4 sz o.node) (mm+s'.made) s'.gone else jf op sz { o with aH:=mm+o.aH } (mm+s'.made) s'.gone) (x.stp th lo z ((x.acc s lo).res m)))+1<=if dm then xq m g z x+440 else xq m g z x+2
  have h2:=BI (m:=(x.acc s lo).mem m) (g:=x.gst s g lo ((x.acc s lo).res m)) (dm:=dm) (sz:=sz) (mm:=mm) (lo:=lo) (f:=fun o s'=>if dm then .go (.m4 sz o.node) (mm+s'.made) s'.gone else jf op sz { o with aH:=mm+o.aH } (mm+s'.made) s'.gone) (X:=x.stp th lo z ((x.acc s lo).res m)) rfl (fun o z'=>by
   cases dm with
   | true=>exact az _
   | false=>exact K6 _ _ _)
  cases dm with
  | true=>simp only [if_true] at h2 ⊢;omega
  | false=>simp only [Bool.false_eq_true,if_false] at h2 ⊢;omega
 | m4 sz n=>
  have:=AS (m:=((MPh.m4 sz n).acc s).mem m) (g:=g) (op:=op) (gn:=gn) sz n (made+1);show (ku op sz n (made+1) gn).rho _ g+1<=440;omega
 | m5 sz o=>
  show MX.rho _ g (if _ then _ else _)+1<=2
  split
  ·exact az _
  ·show 0+1<=2;omega
 | m6 sz o=>exact az _
 | m7 o=>exact az _
end
def zZ (m:Sm) (z:Pz):EPh->Nat
 | .sub x .ut=>ee m z x+4
 | .sub x (.ug _)=>ee m z x
 | .sub x .og=>ee m z x+8+(if x.now m then 0 else 20)
 | .sub x (.oc _)=>ee m z x
 | .sub x (.orr _ _)=>ee m z x+2
 | .sub x (.od _)=>ee m z x
 | .u1 _=>4
 | .u2 _=>3
 | .u3 _ bF=>if m .top=bF then 2 else 11
 | .u4 _ bF=>if m .top=bF then 1 else 10
 | .u5 _=>9
 | .u6 _ _=>8
 | .u7 j _ _ _=>if j=0 then 7 else 6
 | .u8 _ _ _=>5
 | .u9 _ _ _=>4
 | .o2 bF=>if m .top=bF then 8 else 28
 | .o3 bF _=>if m .top=bF then 7 else 27
 | .o4 _ _=>6
 | .o5=>16
 | .o6 _=>15
def EX.rho (m:Sm):EX->Nat
 | .go x z=>zZ m z x
 | _=>0
section
variable {m m':Sm} {g g':Gh} {s t:Nat} {a:Int} {z:Pz}
theorem rhoE_le (m:Sm) (z:Pz) (x:EPh):zZ m z x<=40:=by
 cases x with
 | sub x k=>
  have:=Bq m z x
  cases k <;> simp only [zZ] <;> first | (split <;> omega) | omega
 | _=>simp only [zZ];first | (split <;> omega) | omega
theorem CZ (z:Pz):(C0 z).rho m<=13:=by
 show ee m z (.g1 0 .top)+8+(if true then 0 else 20)<=13
 simp only [ee];simp;split <;> omega
theorem DT (val aH:Int) (is:Bool) (z:Pz):(zq val is aH z).rho m<=3:=by
 have:=pB m z 0 zO;unfold zq
 cases hx:dK z 0 with
 | go x z'=>rw [hx] at this;exact this
 | ret r z'=>exact aY _
 | stuck=>exact aY _
theorem nw {x:Sub} {k:EK} {X:SX} {c:Nat} (hb:∀ x' z',X= .go x' z'->zZ m z' (.sub x' k)<=ee m z' x'+c) (hg:∀ r z',X= .ret r z'->(sx r z' k).rho m<=c):(X.mX k fun t s=>sx t s k).rho m<=X.rho m+c:=by
 cases X with
 | go x' z'=>exact hb x' z' rfl
 | ret r z'=>have:=hg r z' rfl;show _<=0+c;exact aQ this zO
 | stuck=>exact aY _
theorem EPh.dec (h:Gl m g) {x:EPh} {th:Int} (hx:Ee s m g a z x):(x.stp th a z ((x.acc s a).res m)).rho ((x.acc s a).mem m)+1<=zZ m z x:=by
 have bG:=hx.ok;have hz:=hx.er;clear hx
 cases x with
 | sub x k=>
  have d:=Sub.dec (th:=th) h bG.1 hz;have hk:=bG.2;show EX.rho ((x.acc s).mem m) ((x.stp th z ((x.acc s).res m)).mX k fun t s=>sx t s k)+1<=zZ m z (.sub x k)
  cases k with
  | ut=>
   refine aQ (ft (nw (x:=x) (c:=4) ?_ ?_)) (by show _<=ee m z x+4;omega)
   ·intro x' z' aG;exact az _
   ·intro r z' aG
    cases r with
    | tk n p ok=>cases ok with
     | true=>exact az _
     | false=>exact aY _
    | _=>exact aY _
  | ug p=>
   refine aQ (ft (nw (x:=x) (c:=0) ?_ ?_)) (by show _<=ee m z x;omega)
   ·intro x' z' aG;exact az _
   ·intro r z' aG;exact aY _
  | og=>
   refine aQ (ft (nw (x:=x) (c:=8+(if x.now m then 0 else 20)) ?_ ?_)) (by show _<=ee m z x+8+(if x.now m then 0 else 20);omega)
   ·intro x' z' aG;have:=xJ (m:=m) (s:=s) (th:=th) ⟨_,hk⟩ aG fun c hc=>by
     rw [show x.cls= .G .top from hk] at hc;injection hc with hc;subst hc
     cases x with
     | g1 i c=>rw [bO rfl]
     | g2 i c v=>rw [bO rfl]
     | g3 i c e=>rw [cW rfl];rfl
     | _=>cases hk
    show ee _ z' x'+8+(if x'.now _ then 0 else 20)<=_
    cases hn:x.now m with
    | true=>rw [this hn];simp
    | false=>simp;split <;> omega
   ·intro r z' aG
    cases r with
    | gd v p=>
     obtain ⟨i,c,rfl,hm⟩:=xI aG;have hc:c= .top:=by have hk:Sub.cls (.g2 i c v)= .G .top:=hk;injection hk
     subst hc;show EX.rho _ (if _ then _ else _)<=_
     split
     ·have:=DT (m:=((Sub.g2 i .top v).acc s).mem m) 0 p false z';omega
     ·rw [hm];show (if m .top=v then 8 else 28)<=8+(if (m .top==v) then 0 else 20)
      by_cases e:m .top=v
      ·rw [if_pos e];omega
      ·rw [if_neg e,beq_false_of_ne e];simp
    | _=>exact aY _
  | oc o=>
   refine aQ (ft (nw (x:=x) (c:=0) ?_ ?_)) (by show _<=ee m z x;omega)
   ·intro x' z' aG;exact az _
   ·intro r z' aG;exact aY _
  | orr n o=>
   refine aQ (ft (nw (x:=x) (c:=2) ?_ ?_)) (by show _<=ee m z x+2;omega)
   ·intro x' z' aG;exact az _
   ·intro r z' aG;exact az _
  | od o=>
   refine aQ (ft (nw (x:=x) (c:=0) ?_ ?_)) (by show _<=ee m z x;omega)
   ·intro x' z' aG;exact az _
   ·intro r z' aG;exact aY _
 | u1 n=>exact az _
 | u2 n=>
  rw [bO rfl];show (if m .top=(((EPh.u2 n).acc s a).res m).1 then 2 else 11)+1<=3
  have e:(((EPh.u2 n).acc s a).res m).1=m .top:=fF _ _;rw [e,if_pos rfl];exact az _
 | u3 n bF=>
  rw [cW rfl];show (if m .top=bF then 1 else 10)+1<=if m .top=bF then 2 else 11
  split <;> omega
 | u4 n bF=>
  by_cases e:m .top=bF
  ·have hr:(((EPh.u4 n bF).acc s a).res m).2=true:=by simp [LAc.res,EPh.acc,e]
   have e2:EPh.stp th a z (.u4 n bF) (((EPh.u4 n bF).acc s a).res m)=IP 0 true z.made z.got:=by simp [EPh.stp,hr]
   rw [e2];show 0+1<=if m .top=bF then 1 else 10
   rw [if_pos e];exact az _
  ·have hr:(((EPh.u4 n bF).acc s a).res m).2=false:=by simp [LAc.res,EPh.acc,e]
   have e2:EPh.stp th a z (.u4 n bF) (((EPh.u4 n bF).acc s a).res m)= .go (.u5 n) z.got:=by simp [EPh.stp,hr]
   rw [e2];show 9+1<=if m .top=bF then 1 else 10
   rw [if_neg e];exact az _
 | u5 n=>
  show EX.rho _ (if _ then _ else _)+1<=9
  split
  ·show 3+1<=9;omega
  ·show 8+1<=9;omega
 | u6 n w=>
  show EX.rho _ (if _ then _ else _)+1<=8
  split
  ·show 7+1<=8;omega
  ·show 3+1<=8;omega
 | u7 j n w p=>
  show EX.rho _ (if _ then _ else if _ then _ else _)+1<=if j=0 then 7 else 6
  split
  ·show 4+1<=_;split <;> omega
  ·split
   ·show 6+1<=7;omega
   ·show 5+1<=6;omega
 | u8 n w p=>
  show EX.rho _ (if _ then _ else _)+1<=5
  split
  ·show 3+1<=5;omega
  ·show 4+1<=5;omega
 | u9 n w p=>show 3+1<=4;omega
 | o2 bF=>
  rw [bO rfl];show (if m .top=bF then 7 else 27)+1<=if m .top=bF then 8 else 28
  split <;> omega
 | o3 bF below=>
  by_cases e:m .top=bF
  ·have hr:(((EPh.o3 bF below).acc s a).res m).2=true:=by simp [LAc.res,EPh.acc,e]
   have e2:EPh.stp th a z (.o3 bF below) (((EPh.o3 bF below).acc s a).res m)= .go (.o4 (idxOf bF) z.made) z.got:=by simp [EPh.stp,hr]
   rw [e2];show 6+1<=if m .top=bF then 7 else 27
   rw [if_pos e];exact az _
  ·have hr:(((EPh.o3 bF below).acc s a).res m).2=false:=by simp [LAc.res,EPh.acc,e]
   have e2:EPh.stp th a z (.o3 bF below) (((EPh.o3 bF below).acc s a).res m)= .go .o5 z.got:=by simp [EPh.stp,hr]
   rw [e2];show 16+1<=if m .top=bF then 7 else 27
   rw [if_neg e];omega
 | o4 n p=>
  rw [bO rfl];have:=pB m z.got 0 zO;show EX.rho m (SX.mX _ _ (dK z.got 0))+1<=6
  cases hx:dK z.got 0 with
  | go x z'=>rw [hx] at this;have this:ee m z' x<=3:=this;show ee m z' x+2+1<=6;omega
  | ret r z'=>show 2+1<=6;omega
  | stuck=>show 0+1<=6;omega
 | o5=>
  show EX.rho _ (if _ then _ else _)+1<=16
  split
  ·have:=CZ (m:=(EPh.o5.acc s a).mem m) z.got;omega
  ·show 15+1<=16;omega
 | o6 w=>
  show EX.rho _ (if _ then _ else _)+1<=15
  split
  ·have:=DT (m:=((EPh.o6 w).acc s a).mem m) (IT w) z.made true z.got;omega
  ·have:=CZ (m:=((EPh.o6 w).acc s a).mem m) z.got;omega
end
def lag (m:Sm):Nat:=if m (.nd (idxOf (m .tail)) 0)=0 then 0 else 1
def CPh.now (m:Sm):CPh->Bool
 | .sub x (.sg _)=>x.now m
 | .sub _ (.st bF)=>m (.nd (idxOf bF) 0)==0
 | .s2 _ bF _ | .s3 _ bF _ | .s4 _ bF=>m .tail==bF
 | .s5 _ bF _=>m .tail==bF
 | .fl _ bF _ | .s6 _ bF=>m (.nd (idxOf bF) 0)==0
 | _=>true
def CPh.base (m:Sm) (z:Pz):CPh->Nat
 | .sub x (.sg _)=>ee m z x+27
 | .sub x (.st _)=>ee m z x+11
 | .sub x (.sv _)=>ee m z x+3
 | .sub x .rg=>ee m z x+14
 | .sub x (.oc _)=>ee m z x
 | .s2 _ _ i=>2 * (5 - i)+17
 | .s3 _ _ i=>2 * (5 - i)+16
 | .s4 _ _=>17
 | .s5 _ _ _=>1
 | .fl _ _ j=>11 - j
 | .s6 _ _=>5
 | .s7 _ _ _=>4
 | .r2 _ i=>2 * (5 - i)+4
 | .r3 _ i _=>2 * (5 - i)+3
 | .r4 _=>4
def CPh.snd:CPh->Bool
 | .sub _ (.sg _) | .sub _ (.st _) | .s2 _ _ _ | .s3 _ _ _ | .s4 _ _ | .s5 _ _ _ | .fl _ _ _ | .s6 _ _=>true
 | _=>false
def lx (m:Sm) (z:Pz) (x:CPh):Nat:=x.base m z+(if x.snd then 40 * lag m+(if x.now m then 0 else 40) else 0)
def CX.rho (m:Sm):CX->Nat
 | .go x z=>lx m z x
 | _=>0
section
variable {m m':Sm} {g g':Gh} {s t:Nat} {a:Int} {z:Pz}
theorem lag_le (m:Sm):lag m<=1:=by unfold lag;split <;> omega
theorem rhoC_le (m:Sm) (z:Pz) (x:CPh):lx m z x<=130:=by
 have hl:=lag_le m;have hb:x.base m z<=40:=by
  cases x with
  | sub x k=>have:=Bq m z x;cases k <;> simp only [CPh.base] <;> omega
  | _=>simp only [CPh.base];omega
 unfold lx;split
 ·split <;> omega
 ·omega
theorem pC (val aH:Int) (is:Bool) (z:Pz):(lN val is aH z).rho m<=3:=by
 have:=pB m z 0 zO;unfold lN
 cases hx:dK z 0 with
 | go x z'=>rw [hx] at this;exact this
 | ret r z'=>exact aY _
 | stuck=>exact aY _
theorem AE (bP:Int) (z:Pz):(qW bP z).rho m<=32+40 * lag m:=by
 show ee m z (.g1 0 .tail)+27+(40 * lag m+0)<=_;have:ee m z (.g1 0 .tail)<=5:=by simp only [ee];split <;> omega
 omega
theorem M8 (h:Gl m g) (hn:g.n<=9) {x y:Int} (hx:g.st x= .sg) (hy:g.st y= .sg) (hx0:m (.nd x 0)≠0) (hy0:m (.nd y 0)≠0):x=y:=by
 refine Aw fun dF=>?_
 have h1:=uZ (m:=m) h.cnd ((h.cmem x).2 hx) ((h.cmem y).2 hy) dF;have five:∀ w,g.st w= .sg->m (.nd w 0)≠0->5<=oK m w:=by
  intro w hw hw0;have hf:=h.cful w ((h.cmem w).2 hw) hw0;unfold oK nzP;rw [if_pos (hf 1 zD zD),if_pos (hf 2 zD zD),if_pos (hf 3 zD zD),if_pos (hf 4 zD zD),if_pos (hf 5 zD zD)];omega
 have:=five x hx hx0;have:=five y hy hy0;have:=h.tM;omega
theorem oY {x:Sub} {k:CK} {X:SX} {c:Nat} (hb:∀ x' z',X= .go x' z'->lx m z' (.sub x' k)<=ee m z' x'+c) (hg:∀ r z',X= .ret r z'->(sy r z' k).rho m<=c):(X.qS k fun t s=>sy t s k).rho m<=X.rho m+c:=by
 cases X with
 | go x' z'=>exact hb x' z' rfl
 | ret r z'=>have:=hg r z' rfl;show _<=0+c;exact aQ this zO
 | stuck=>exact aY _
def ex4 (b:Bool):Nat:=if b then 0 else 40
theorem Ol {a b:Bool} (h:a=true->b=true):ex4 b<=ex4 a:=by
 unfold ex4;cases a <;> cases b <;> simp at h ⊢
theorem eG {x:CPh} (h:x.snd=true):lx m z x=x.base m z+(40 * lag m+ex4 (x.now m)):=by
 unfold lx ex4;rw [h,if_pos rfl]
theorem fN {x:CPh} (h:x.snd=false):lx m z x=x.base m z:=by
 unfold lx;rw [h];simp
theorem sub_sg (h:Gl m g) {x:Sub} (hx:mO s m g x):(∀ n,(x.acc s).mem m (.nd n 0)=m (.nd n 0))/\(x.acc s).mem m .tail=m .tail:=by
 cases x with
 | g1 i c=>rw [bO rfl];exact ⟨fun _=>rfl,rfl⟩
 | g2 i c v=>rw [bO rfl];exact ⟨fun _=>rfl,rfl⟩
 | g3 i c e=>rw [cW rfl];exact ⟨fun _=>rfl,rfl⟩
 | t1=>rw [bO rfl];exact ⟨fun _=>rfl,rfl⟩
 | t2 fr=>rw [bO rfl];exact ⟨fun _=>rfl,rfl⟩
 | t3 fr lk=>
  cases hr:((Sub.t3 fr lk).acc s |>.res m).2 with
  | false=>rw [dg rfl hr];exact ⟨fun _=>rfl,rfl⟩
  | true=>rw [(eZ (a:=(Sub.t3 fr lk).acc s) rfl hr).2];exact ⟨fun _=>rfl,rfl⟩
 | t4 n p=>rw [bO rfl];exact ⟨fun _=>rfl,rfl⟩
 | t5 n b p=>rw [cW rfl];exact ⟨fun y=>fO m _ _ _ (.inr zD),rfl⟩
 | v1 n=>rw [bO rfl];exact ⟨fun _=>rfl,rfl⟩
 | v2 n fr=>rw [cW rfl];exact ⟨fun y=>fO m _ _ _ (.inr zD),rfl⟩
 | v3 n fr=>
  cases hr:((Sub.v3 n fr).acc s |>.res m).2 with
  | false=>rw [dg rfl hr];exact ⟨fun _=>rfl,rfl⟩
  | true=>rw [(eZ (a:=(Sub.v3 n fr).acc s) rfl hr).2];exact ⟨fun _=>rfl,rfl⟩
 | cl i=>rw [cW rfl];exact ⟨fun _=>rfl,rfl⟩
 | r1 n=>rw [bO rfl];exact ⟨fun _=>rfl,rfl⟩
 | r2 n e=>rw [rV rfl];exact ⟨fun _=>rfl,rfl⟩
theorem K8 (h0:∀ n,m' (.nd n 0)=m (.nd n 0)) (ht:m' .tail=m .tail):lag m'=lag m:=by unfold lag;rw [ht,h0]
theorem AO (n bF:Int) (i:Nat) (hi:i < 5) (z:Pz):(mY n bF i z).rho m<=2 * (5 - i)+15+(40 * lag m+ex4 (m .tail==bF)):=by
 unfold mY;split
 ·show lx m z (.s2 n bF (i+1))<=_;rw [eG rfl];show 2 * (5 - (i+1))+17+(40 * lag m+ex4 (m .tail==bF))<=_;omega
 ·show lx m z (.s4 n bF)<=_;rw [eG rfl];show 17+(40 * lag m+ex4 (m .tail==bF))<=_;omega
theorem AQ (bF:Int) (i:Nat) (hi:i < 5) (z:Pz):(mZ bF i z).rho m<=2 * (5 - i)+2:=by
 unfold mZ;split
 ·show lx m z (.r2 bF (i+1))<=_;rw [fN rfl];show 2 * (5 - (i+1))+4<=_;omega
 ·show lx m z (.r4 bF)<=_;rw [fN rfl];show 4<=_;omega
theorem CPh.dec (h:Gl m g) {x:CPh} {th:Int} (hx:Ef s m g a z x) (hn9:g.n<=9):(x.stp th a z ((x.acc s a).res m)).rho ((x.acc s a).mem m)+1<=lx m z x:=by
 have bG:=hx.ok;have hz:=hx.er;clear hx
 cases x with
 | sub x k=>
  have d:=Sub.dec (th:=th) h bG.1 hz;have hk:=bG.2;obtain ⟨n0,nt⟩:=sub_sg (s:=s) h bG.1;have hlag:=K8 n0 nt;show CX.rho ((x.acc s).mem m) ((x.stp th z ((x.acc s).res m)).qS k fun t s=>sy t s k)+1<=lx m z (.sub x k)
  cases k with
  | sg bP=>
   rw [eG rfl];refine aQ (ft (oY (x:=x) (c:=27+(40 * lag m+ex4 (x.now m))) ?_ ?_)) (by show _<=ee m z x+27+(40 * lag m+ex4 (x.now m));omega)
   ·intro x' z' aG;have:=xJ (m:=m) (s:=s) (th:=th) ⟨_,hk.1⟩ aG fun c hc=>by
     rw [hk.1] at hc;injection hc with hc;subst hc;exact nt
    have:=Ol this;rw [eG rfl,hlag];show ee _ z' x'+27+(40 * lag m+ex4 (x'.now _))<=_;omega
   ·intro r z' aG
    cases r with
    | gd v p=>
     obtain ⟨i,c,rfl,hm⟩:=xI aG;have hc:c= .tail:=by have hk:Sub.cls (.g2 i c v)= .G .tail:=hk.1;injection hk
     subst hc;rw [hm];show lx m z' (.s2 bP v 0)<=_;rw [eG rfl];exact az _
    | _=>exact aY _
  | st bF=>
   rw [eG rfl];refine aQ (ft (oY (x:=x) (c:=11+(40 * lag m+ex4 (m (.nd (idxOf bF) 0)==0))) ?_ ?_)) (by show _<=ee m z x+11+(40 * lag m+ex4 (m (.nd (idxOf bF) 0)==0));omega)
   ·intro x' z' aG;rw [eG rfl,hlag];show ee _ z' x'+11+(40 * lag m+ex4 ((x.acc s).mem m (.nd (idxOf bF) 0)==0))<=_;rw [n0];omega
   ·intro r z' aG
    cases r with
    | tk n p ok=>cases ok with
     | true=>
      show lx _ z' (.fl n bF 0)<=_;rw [eG rfl,hlag];show 11+(40 * lag m+ex4 ((x.acc s).mem m (.nd (idxOf bF) 0)==0))<=_;rw [n0];omega
     | false=>exact aY _
    | _=>exact aY _
  | sv p=>
   rw [fN rfl];refine aQ (ft (oY (x:=x) (c:=3) ?_ ?_)) (by show _<=ee m z x+3;omega)
   ·intro x' z' aG;rw [fN rfl];exact az _
   ·intro r z' aG;exact pC _ _ _ _
  | rg=>
   rw [fN rfl];refine aQ (ft (oY (x:=x) (c:=14) ?_ ?_)) (by show _<=ee m z x+14;omega)
   ·intro x' z' aG;rw [fN rfl];exact az _
   ·intro r z' aG
    cases r with
    | gd v p=>show lx _ z' (.r2 v 0)<=_;rw [fN rfl];exact az _
    | _=>exact aY _
  | oc o=>
   rw [fN rfl];refine aQ (ft (oY (x:=x) (c:=0) ?_ ?_)) (by show _<=ee m z x;omega)
   ·intro x' z' aG;rw [fN rfl];exact az _
   ·intro r z' aG;exact aY _
 | s2 n bF i=>
  have hi:=bG.2.2.1;rw [bO rfl,eG rfl];show CX.rho m (if _ then _ else _)+1<=2 * (5 - i)+17+(40 * lag m+ex4 (m .tail==bF))
  split
  ·show lx m z.got (.s3 n bF i)+1<=_;rw [eG rfl];show 2 * (5 - i)+16+(40 * lag m+ex4 (m .tail==bF))+1<=_;omega
  ·have:=AO (m:=m) n bF i hi z.got;omega
 | s3 n bF i=>
  have hi:=bG.2.2.1;rw [eG rfl];show CX.rho _ (if _ then (if _ then _ else _) else _)+1<=2 * (5 - i)+16+(40 * lag m+ex4 (m .tail==bF))
  split
  ·split
   ·show lx _ z.got (.sub (.v1 n) (.sv z.made))+1<=_;rw [fN rfl];show 3+3+1<=_;omega
   ·have:=pC (m:=((CPh.s3 n bF i).acc s a).mem m) 0 z.made true z.got;omega
  ·rename_i hr;rw [dg rfl (by simpa using hr)]
   have:=AO (m:=m) n bF i hi z.got;omega
 | s4 n bF=>
  rw [bO rfl,eG rfl];have hv:(((CPh.s4 n bF).acc s a).res m).1=m (.nd (idxOf bF) 0):=fF _ _;show CX.rho m (if _ then _ else if _ then _ else _)+1<=17+(40 * lag m+ex4 (m .tail==bF))
  rw [hv];split
  ·show lx m z.got (.s5 n bF _)+1<=_;rw [eG rfl];show 1+(40 * lag m+ex4 (m .tail==bF))+1<=_;omega
  ·rename_i h0;have h0:m (.nd (idxOf bF) 0)=0:=by simpa using h0
   split
   ·show lx m z.got (.sub .t1 (.st bF))+1<=_;rw [eG rfl];show 5+11+(40 * lag m+ex4 (m (.nd (idxOf bF) 0)==0))+1<=_;rw [h0];show 5+11+(40 * lag m+0)+1<=_;omega
   ·show lx m z.got (.s6 n bF)+1<=_;rw [eG rfl];show 5+(40 * lag m+ex4 (m (.nd (idxOf bF) 0)==0))+1<=_;rw [h0];show 5+(40 * lag m+0)+1<=_;omega
 | s5 n bF nx=>
  obtain ⟨hm,lJ,hw,hwn⟩:=bG;have hxr:=h.rng nx (by rw [lJ];simp)
  rw [eG rfl];show (qW n z.got).rho _+1<=1+(40 * lag m+ex4 (m .tail==bF));have h1:=AE (m:=((CPh.s5 n bF nx).acc s a).mem m) n z.got
  by_cases e:m .tail=bF
  ·have hr:(((CPh.s5 n bF nx).acc s a).res m).2=true:=by simp [LAc.res,CPh.acc,e]
   obtain ⟨_,hw2⟩:=eZ (a:=(CPh.s5 n bF nx).acc s a) rfl hr;rw [hw2] at h1 ⊢;have hl:lag m=1:=by unfold lag;rw [e,hwn,if_neg zO]
   have hl2:lag (bZ m .tail (ed bF nx))=0:=by
    unfold lag;rw [db,NM zO hxr.2];refine if_pos ?_;show m (.nd nx 0)=0;refine Aw fun dF=>?_
    have h2:=M8 h hn9 hw lJ (by rw [hwn];omega) dF
    have:=(Bn h hw (by rw [hwn];omega)).2.2
    rw [hwn] at this;exact this h2.symm
   have h1:(qW n z.got).rho (bZ m .tail (ed bF nx))<=32+40 * lag (bZ m .tail (ed bF nx)):=h1;rw [hl2] at h1;rw [hl];have:(qW n z.got).rho (bZ m .tail (ed bF nx))+1<=1+(40 * 1+ex4 (m .tail==bF)):=zO;exact this
  ·have hr:(((CPh.s5 n bF nx).acc s a).res m).2=false:=by simp [LAc.res,CPh.acc,e]
   rw [dg rfl hr] at h1 ⊢;rw [beq_false_of_ne e];show _<=1+(40 * lag m+40);omega
 | fl n bF j=>
  obtain ⟨h1,h2,h3,h4,h5,h6,h7⟩:=bG;rw [cW rfl,eG rfl];have hw:bZ m (.nd n j) (if j=1 then a+2 else 0) (.nd (idxOf bF) 0)=m (.nd (idxOf bF) 0):=fO m _ _ _ (.inl (by intro e;rw [e,h1] at h2;cases h2))
  have hl:lag (bZ m (.nd n j) (if j=1 then a+2 else 0))=lag m:=by
   unfold lag;have:bZ m (.nd n j) (if j=1 then a+2 else 0) .tail=m .tail:=rfl
   rw [this,fO m _ _ _ (.inl ?_)];have:=MU h (c:=.tail) trivial;have this:g.st (idxOf (m .tail))= .sg:=this;intro e;rw [e,h1] at this;cases this
  have e2:∀ r,CPh.stp th a z (.fl n bF j) r=if j < 5 then .go (.fl n bF (j+1)) z.got else .go (.s6 n bF) z.got:=fun _=>rfl
  rw [e2];show CX.rho (bZ m (.nd n j) (if j=1 then a+2 else 0)) _+1<=11 - j+(40 * lag m+ex4 (m (.nd (idxOf bF) 0)==0))
  by_cases hj:j < 5
  ·rw [if_pos hj];show lx (bZ m (.nd n j) (if j=1 then a+2 else 0)) z.got (.fl n bF (j+1))+1<=_
   rw [eG rfl,hl];show 11 - (j+1)+(40 * lag m+ex4 (bZ m (.nd n j) (if j=1 then a+2 else 0) (.nd (idxOf bF) 0)==0))+1<=_
   rw [hw];omega
  ·rw [if_neg hj];show lx (bZ m (.nd n j) (if j=1 then a+2 else 0)) z.got (.s6 n bF)+1<=_
   rw [eG rfl,hl];show 5+(40 * lag m+ex4 (bZ m (.nd n j) (if j=1 then a+2 else 0) (.nd (idxOf bF) 0)==0))+1<=_
   rw [hw];omega
 | s6 n bF=>
  rw [eG rfl];show CX.rho _ (if _ then _ else _)+1<=5+(40 * lag m+ex4 (m (.nd (idxOf bF) 0)==0))
  split
  ·show lx _ z.got (.s7 n bF z.made)+1<=_;rw [fN rfl];show 4+1<=_;omega
  ·rename_i hr;have hr:(((CPh.s6 n bF).acc s a).res m).2=false:=by simpa using hr
   rw [dg rfl hr];have h0:m (.nd (idxOf bF) 0)≠0:=by intro e;simp [LAc.res,CPh.acc,e] at hr
   rw [beq_false_of_ne h0];have:=AE (m:=m) n z.got;show _<=5+(40 * lag m+40);omega
 | s7 n bF p=>
  rw [fN rfl];have:=pC (m:=((CPh.s7 n bF p).acc s a).mem m) 0 p true z.got;show (lN 0 true p z.got).rho _+1<=4;omega
 | r2 bF i=>
  have hi:=bG.2.1;rw [bO rfl,fN rfl];show CX.rho m (if _ then _ else if _ then _ else _)+1<=2 * (5 - i)+4
  split
  ·have:=pC (m:=m) 0 z.made false z.got;omega
  ·split
   ·have:=AQ (m:=m) bF i hi z.got;omega
   ·show lx m z.got (.r3 bF i _)+1<=_;rw [fN rfl];show 2 * (5 - i)+3+1<=_;omega
 | r3 bF i has=>
  have hi:=bG.2.1;rw [fN rfl];show CX.rho _ (if _ then _ else _)+1<=2 * (5 - i)+3
  split
  ·have:=pC (m:=((CPh.r3 bF i has).acc s a).mem m) (has - 2) z.made true z.got;omega
  ·have:=AQ (m:=((CPh.r3 bF i has).acc s a).mem m) bF i hi z.got;omega
 | r4 bF=>
  rw [fN rfl];show CX.rho _ (if _ then _ else _)+1<=4
  split
  ·have:=pC (m:=((CPh.r4 bF).acc s a).mem m) 0 z.made false z.got;omega
  ·show 0+1<=4;omega
end
structure zH (op:Opr):Prop where
 k:1<=op.kind/\op.kind<=7
 obj:op.obj=0
 a:0<=op.a/\op.a < 65536
 b:0<=op.b/\op.b < 4294967296
def POk (s:Nat) (m:Sm) (g:Gh) (op:Opr):Ph->Prop
 | .m x _ gn=>op.kind<=3/\Ea s m g ⟨op.kind,op.a,op.b⟩ gn x
 | .e x z=>4<=op.kind/\op.kind<=5/\Ee s m g op.a z x
 | .c x z=>6<=op.kind/\Ef s m g op.a z x
def vO (s:Nat) (m:Sm) (g:Gh) (op:Opr):PX->Prop
 | .go x=>POk s m g op x
 | .out o=>eJ g s 0 0/\g.dd s=o.gone.map (·.1)
 | .stuck=>False
def Ph.eff:Ph->Nat
 | .m x _ _=>x.eff
 | .e x _=>x.eff
 | .c x _=>x.eff
def Ph.tk:Ph->Nat
 | .m x _ _=>x.tk
 | .e x _=>x.tk
 | .c x _=>x.tk
def PX.eff:PX->Nat
 | .go x=>x.eff
 | .out _=>1
 | .stuck=>0
def PX.tk:PX->Nat
 | .go x=>x.tk
 | .out _=>2
 | .stuck=>0
def Ph.gst (s:Nat) (g:Gh):Ph->Int × Bool->Gh
 | .m x _ _,r=>x.gst s g r
 | .e x _,r=>x.gst s g r
 | .c x _,r=>x.gst s g r
def Ph.rho (m:Sm) (g:Gh):Ph->Nat
 | .m x _ _=>II m g x
 | .e x z=>zZ m z x
 | .c x z=>lx m z x
def PX.rho (m:Sm) (g:Gh):PX->Nat
 | .go x=>x.rho m g
 | _=>0
section
variable {m m':Sm} {g g':Gh} {s t:Nat} {op:Opr}
theorem yK (b:Bool):isN b<=1:=by unfold isN;split <;> omega
theorem LK.za (k:LK):k.eff<=1:=by
 have hf:∀ f:FK,f.eff<=1:=fun f=>by cases f <;> simp [FK.eff]
 cases k with
 | fh k=>exact hf k
 | fn k f=>exact hf k
 | fr k f=>exact hf k
 | out o=>exact yK _
 | clr o=>exact yK _
 | pt _ _=>exact aY _
 | dc n o=>exact yK _
theorem LPh.za (x:LPh):x.eff<=1:=by
 have hf:∀ f:FK,f.eff<=1:=fun f=>by cases f <;> simp [FK.eff]
 cases x with
 | sub x k=>exact k.za
 | fs k _ _ _=>exact hf k
 | fo k _ _ _=>exact hf k
 | fc k _ _=>exact hf k
 | du _ _ _ _=>exact az _
 | _=>exact aY _
theorem LPh.Mo (x:LPh):x.tk<=2:=by
 have hf:∀ f:FK,f.tk<=1:=fun f=>by
  cases f with
  | put n=>simp only [FK.tk];split <;> omega
  | _=>exact aY _
 have hs:∀ x:Sub,x.tk<=1:=fun x=>by cases x <;> simp [Sub.tk]
 cases x with
 | sub x k=>
  have h1:=hs x;have h2:k.tk<=1:=by
   cases k with
   | fh k=>exact hf k
   | fn k f=>exact hf k
   | fr k f=>exact hf k
   | pt _ _=>exact aY _
   | _=>exact az _
  show x.tk+k.tk<=2;omega
 | fs k _ _ _=>have:=hf k;show k.tk<=2;omega
 | fo k _ _ _=>have:=hf k;show k.tk<=2;omega
 | fc k _ _=>have:=hf k;show k.tk<=2;omega
 | p1 _ _ _=>exact uO _
 | p2 _ _ _=>exact uO _
 | p0 _ _ _=>exact uO _
 | pc _ _ _=>exact uO _
 | _=>exact aY _
theorem PX.za (x:PX):x.eff<=1:=by
 cases x with
 | go x=>
  cases x with
  | m x _ _=>
   cases x with
   | ml dm _ _ _ x _=>show (if dm then 0 else x.eff)<=1;have:=x.za;split <;> omega
   | _=>simp [PX.eff,Ph.eff,MPh.eff]
  | e x _=>
   cases x with
   | sub x k=>cases k <;> first | exact yK _ | exact aY _
   | _=>simp [PX.eff,Ph.eff,EPh.eff]
  | c x _=>
   cases x with
   | sub x k=>cases k <;> first | exact yK _ | exact aY _ | exact az _
   | _=>simp [PX.eff,Ph.eff,CPh.eff]
 | out o=>exact az _
 | stuck=>exact aY _
theorem PX.Mo (x:PX):x.tk<=4:=by
 have hs:∀ x:Sub,x.tk<=1:=fun x=>by cases x <;> simp [Sub.tk]
 cases x with
 | go x=>
  cases x with
  | m x _ _=>
   cases x with
   | ml dm _ _ _ x _=>show (if dm then x.tk else 1+x.tk)<=4;have:=x.Mo;split <;> omega
   | _=>simp [PX.tk,Ph.tk,MPh.tk]
  | e x _=>
   cases x with
   | sub x k=>have:=hs x;show x.tk+k.tk<=4;cases k <;> simp [EK.tk] <;> omega
   | _=>simp [PX.tk,Ph.tk,EPh.tk]
  | c x _=>
   cases x with
   | sub x k=>
    have:=hs x;show x.tk+k.tk<=4
    cases k with
    | sg n=>have:=tH n;show x.tk+mtk n<=4;omega
    | _=>simp [CK.tk] <;> omega
   | s2 n _ _=>have:=tH n;show mtk n<=4;omega
   | s3 n _ _=>have:=tH n;show mtk n<=4;omega
   | s4 n _=>have:=tH n;show mtk n<=4;omega
   | s5 n _ _=>have:=tH n;show mtk n<=4;omega
   | _=>simp [PX.tk,Ph.tk,CPh.tk]
 | out o=>show 2<=4;omega
 | stuck=>exact aY _
theorem Ph.IH (m:Sm) (g:Gh) (x:Ph):x.rho m g<=1400:=by
 cases x with
 | m x _ _=>exact rhoM_le m g x
 | e x z=>have:=rhoE_le m z x;show zZ m z x<=_;omega
 | c x z=>have:=rhoC_le m z x;show lx m z x<=_;omega
theorem vO.env {x:PX} (h:Gl m g) (h':Gl m' g') (e:Env s m g m' g') (ht:t≠s) (k:vO t m g op x):vO t m' g' op x:=by
 cases x with
 | go x=>
  cases x with
  | m x _ gn=>exact ⟨k.1,k.2.env h h' e ht⟩
  | e x z=>exact ⟨k.1,k.2.1,k.2.2.env h e ht⟩
  | c x z=>exact ⟨k.1,k.2.env h e ht⟩
 | out o=>exact ⟨k.1.env e ht,(e.ddo t ht).trans k.2⟩
 | stuck=>exact k
theorem Ph.pg (h:Gl m g) {x:Ph} (hx:POk s m g op x):nU g (x.acc s op.a).c:=by
 cases x with
 | m x n gn=>exact MPh.pg h hx.2
 | e x z=>exact EPh.pg h hx.2.2
 | c x z=>exact CPh.pg h hx.2
theorem Ph.step (h:Gl m g) {x:Ph} {th:Int} (hx:POk s m g op x) (hc:g.fc+1 < 268435456) (ht:g.tk<=37) (hn9:g.n<=9) (jl:((g.dd s).length:Int) < th):
  Gl ((x.acc s op.a).mem m) (x.gst s g ((x.acc s op.a).res m))/\Env s m g ((x.acc s op.a).mem m) (x.gst s g ((x.acc s op.a).res m))/\
  vO s ((x.acc s op.a).mem m) (x.gst s g ((x.acc s op.a).res m)) op (x.stp th 2 op ((x.acc s op.a).res m))/\(x.gst s g ((x.acc s op.a).res m)).tk+x.tk<=g.tk+(x.stp th 2 op ((x.acc s op.a).res m)).tk/\
  (x.gst s g ((x.acc s op.a).res m)).n+x.eff<=g.n+(x.stp th 2 op ((x.acc s op.a).res m)).eff/\
  (x.stp th 2 op ((x.acc s op.a).res m)).rho ((x.acc s op.a).mem m) (x.gst s g ((x.acc s op.a).res m))+1<=x.rho m g:=by
 cases x with
 | m x n gn=>
  obtain ⟨a1,a2,a3,a4,a5⟩:=MPh.step (th:=th) (made:=n) h hx.2 hc ht jl;have a6:=MPh.dec (th:=th) (made:=n) h hx.2 hc ht jl;refine ⟨a1,a2,?_⟩;show vO s ((x.acc s).mem m) (x.gst s g ((x.acc s).res m)) op (x.stp th 2 ⟨op.kind,op.a,op.b⟩ n gn ((x.acc s).res m)).p/\(x.gst s g ((x.acc s).res m)).tk+x.tk<=g.tk+(x.stp th 2 ⟨op.kind,op.a,op.b⟩ n gn ((x.acc s).res m)).p.tk/\(x.gst s g ((x.acc s).res m)).n+x.eff<=g.n+(x.stp th 2 ⟨op.kind,op.a,op.b⟩ n gn ((x.acc s).res m)).p.eff/\(x.stp th 2 ⟨op.kind,op.a,op.b⟩ n gn ((x.acc s).res m)).p.rho ((x.acc s).mem m) (x.gst s g ((x.acc s).res m))+1<=II m g x
  cases aG:x.stp th 2 ⟨op.kind,op.a,op.b⟩ n gn ((x.acc s).res m) with
  | go y n' g'=>rw [aG] at a3 a4 a5 a6;exact ⟨⟨hx.1,a3⟩,a4,a5,a6⟩
  | out o=>rw [aG] at a3 a4 a5 a6;exact ⟨a3,a4,a5,a6⟩
  | stuck=>rw [aG] at a3;exact absurd a3 (by simp [Aq])
 | e x z=>
  obtain ⟨a1,a2,a3,a4,a5⟩:=EPh.step (th:=th) h hx.2.2 hc ht jl;have a6:=EPh.dec (th:=th) h hx.2.2;refine ⟨a1,a2,?_⟩;show vO s ((x.acc s op.a).mem m) (x.gst s g ((x.acc s op.a).res m)) op (x.stp th op.a z ((x.acc s op.a).res m)).p/\(x.gst s g ((x.acc s op.a).res m)).tk+x.tk<=g.tk+(x.stp th op.a z ((x.acc s op.a).res m)).p.tk/\(x.gst s g ((x.acc s op.a).res m)).n+x.eff<=g.n+(x.stp th op.a z ((x.acc s op.a).res m)).p.eff/\(x.stp th op.a z ((x.acc s op.a).res m)).p.rho ((x.acc s op.a).mem m) (x.gst s g ((x.acc s op.a).res m))+1<=zZ m z x
  cases aG:x.stp th op.a z ((x.acc s op.a).res m) with
  | go y z'=>rw [aG] at a3 a4 a5 a6;exact ⟨⟨hx.1,hx.2.1,a3⟩,a4,a5,a6⟩
  | out o=>rw [aG] at a3 a4 a5 a6;exact ⟨a3,a4,a5,a6⟩
  | stuck=>rw [aG] at a3;exact absurd a3 (by simp [vS])
 | c x z=>
  obtain ⟨a1,a2,a3,a4,a5⟩:=CPh.step (th:=th) h hx.2 hc ht hn9 jl;have a6:=CPh.dec (th:=th) h hx.2 hn9;refine ⟨a1,a2,?_⟩;show vO s ((x.acc s op.a).mem m) (x.gst s g ((x.acc s op.a).res m)) op (x.stp th op.a z ((x.acc s op.a).res m)).p/\(x.gst s g ((x.acc s op.a).res m)).tk+x.tk<=g.tk+(x.stp th op.a z ((x.acc s op.a).res m)).p.tk/\(x.gst s g ((x.acc s op.a).res m)).n+x.eff<=g.n+(x.stp th op.a z ((x.acc s op.a).res m)).p.eff/\(x.stp th op.a z ((x.acc s op.a).res m)).p.rho ((x.acc s op.a).mem m) (x.gst s g ((x.acc s op.a).res m))+1<=lx m z x
  cases aG:x.stp th op.a z ((x.acc s op.a).res m) with
  | go y z'=>rw [aG] at a3 a4 a5 a6;exact ⟨⟨hx.1,a3⟩,a4,a5,a6⟩
  | out o=>rw [aG] at a3 a4 a5 a6;exact ⟨a3,a4,a5,a6⟩
  | stuck=>rw [aG] at a3;exact absurd a3 (by simp [Au])
theorem Az (ho:zH op) {gn:cG} (hO:eJ g s 0 0) (hd:g.dd s=gn.map (·.1)):∃ x,gz op gn= .go x/\POk s m g op x/\x.eff=0/\x.tk=0:=by
 have hk:=ho.k;unfold gz
 by_cases h1:1<=op.kind/\op.kind<=3
 ·rw [if_pos h1];exact ⟨_,rfl,⟨h1.2,h1,ho.a,trivial,hO,by simpa [MPh.cH] using hd⟩,rfl,rfl⟩
 ·rw [if_neg h1]
  by_cases h2:4<=op.kind/\op.kind<=5
  ·rw [if_pos h2];have:op.kind=4\/op.kind=5:=zO;rcases this with e | e
   ·refine ⟨.e (.sub .t1 .ut) ⟨[0,0,0],gn,0⟩,by rw [e];rfl,⟨zO,zO,⟨trivial,rfl⟩,rfl,hO,by simpa [EPh.cH,Sub.cH,EK.cH] using hd⟩,rfl,rfl⟩
   ·refine ⟨.e (.sub (.g1 0 .top) .og) ⟨[0,0,0],gn,0⟩,by rw [e];rfl,⟨zO,zO,⟨⟨zD,trivial⟩,rfl⟩,rfl,hO,by simpa [EPh.cH,Sub.cH,EK.cH] using hd⟩,rfl,rfl⟩
  ·rw [if_neg h2,if_pos zO];have:op.kind=6\/op.kind=7:=zO;have ha:0<=op.a/\op.a < 4294967296:=by have:=ho.a;omega
   rcases this with e | e
   ·refine ⟨.c (.sub (.g1 0 .tail) (.sg 0)) ⟨[0,0,0],gn,0⟩,by rw [e];rfl,⟨zO,ha,⟨⟨zD,trivial⟩,rfl,fun h=>absurd rfl h⟩,rfl,hO,by simpa [CPh.cH,Sub.cH] using hd⟩,rfl,rfl⟩
   ·refine ⟨.c (.sub (.g1 0 .head) .rg) ⟨[0,0,0],gn,0⟩,by rw [e];rfl,⟨zO,ha,⟨⟨zD,trivial⟩,rfl⟩,rfl,hO,by simpa [CPh.cH,Sub.cH] using hd⟩,rfl,rfl⟩
end
structure Sq where
 done:Nat
 cur:Option PX
 gone:cG
def Sq.eff (q:Sq):Nat:=q.done+(q.cur.map PX.eff).getD 0
def Sq.tk (q:Sq):Nat:=2 * q.done+(q.cur.map PX.tk).getD 0
def uF (s:Nat) (m:Sm) (g:Gh) (ops:List Opr) (q:Sq):Prop:=match q.cur with
 | none=>q.done=ops.length/\eJ g s 0 0/\g.dd s=q.gone.map (·.1)
 | some x=>∃ op,ops[q.done]? =some op/\vO s m g op x
structure Wk (S:Nat) (want:List (List Opr)) (m:Sm) (g:Gh) (N:Nat) (q:Nat->Sq):Prop where
 gl:Gl m g
 S1:1<=S/\S<=3
 wl:want.length=S
 w3:∀ ops∈want,ops.length<=3/\∀ op∈ops,zH op
 sq:∀ s ops,want[s]? =some ops->uF s m g ops (q s)
 no:∀ s,S<=s->eJ g s 0 0/\g.dd s=[]
 z:∀ s,S<=s->(q s).eff=0/\(q s).tk=0
 n:g.n<=(q 0).eff+(q 1).eff+(q 2).eff
 tk:g.tk<=(q 0).tk+(q 1).tk+(q 2).tk
 fc:g.fc<=N
 N:N<=200000000
def jE (ops:List Opr) (d:Nat) (gn:cG):Option PX:=(ops[d]?).map fun op=>gz op gn
section
variable {m m':Sm} {g g':Gh} {s t S N:Nat} {want:List (List Opr)} {q:Nat->Sq}
theorem Wk.le3 (h:Wk S want m g N q) (s:Nat):(q s).eff<=(if s < S then 3 else 0)/\(q s).tk<=10:=by
 by_cases hs:s < S
 ·rw [if_pos hs];obtain ⟨ops,ho⟩:∃ ops,want[s]? =some ops:=⟨_,aO (by rw [h.wl];exact hs)⟩
  have h1:=h.sq s ops ho;have h3:=(h.w3 ops (bX ho)).1;unfold uF at h1;unfold Sq.eff Sq.tk
  cases hc:(q s).cur with
  | none=>rw [hc] at h1;simp;have:=h1.1;omega
  | some x=>
   rw [hc] at h1;obtain ⟨op,gk,-⟩:=h1;have:=(a8.1 gk).1;have h4:=x.za;have h5:=x.Mo;simp;omega
 ·rw [if_neg hs];have:=h.z s zO;omega
theorem Wk.bounds (h:Wk S want m g N q) (s:Nat):g.n<=9/\g.tk<=37/\g.fc+1 < 268435456/\(g.dd s).length < 2 * S:=by
 have h0:=h.le3 0;have h1:=h.le3 1;have h2:=h.le3 2;have hS:=h.S1;have hn:=h.n;have hnS:g.n<=3 * S:=by
  split at h0 <;> split at h1 <;> split at h2 <;> omega
 refine ⟨zO,by have:=h.tk;omega,by have:=h.fc;have:=h.N;omega,?_⟩
 have hd:=h.gl.dlen s;have hc:=h.gl.tM;omega
theorem xR {q:Nat->Sq} {s:Nat} {x:Sq} (hs:s < 3) (f:Sq->Nat):f (ud q s x 0)+f (ud q s x 1)+f (ud q s x 2)+f (q s)=f (q 0)+f (q 1)+f (q 2)+f x:=by
 have:s=0\/s=1\/s=2:=zO;rcases this with rfl | rfl | rfl <;> simp [ud] <;> omega
theorem Wk.step (h:Wk S want m g N q) {ops:List Opr} {op:Opr} {x:Ph} (hs:want[s]? =some ops) (gk:ops[(q s).done]? =some op) (hx:(q s).cur=some (.go x)) (hN:N+1<=200000000):
  Wk S want ((x.acc s op.a).mem m) (x.gst s g ((x.acc s op.a).res m)) (N+1) (ud q s { q s with cur:=some (x.stp (2 * S:Nat) 2 op ((x.acc s op.a).res m)) })/\nU g (x.acc s op.a).c/\
  (x.stp (2 * S:Nat) 2 op ((x.acc s op.a).res m)).rho ((x.acc s op.a).mem m) (x.gst s g ((x.acc s op.a).res m))+1<=x.rho m g/\vO s ((x.acc s op.a).mem m) (x.gst s g ((x.acc s op.a).res m)) op (x.stp (2 * S:Nat) 2 op ((x.acc s op.a).res m))/\Env s m g ((x.acc s op.a).mem m) (x.gst s g ((x.acc s op.a).res m)):=by
 obtain ⟨b1,b2,b3,b4⟩:=h.bounds s;have hsS:s < S:=by rw [<- h.wl];exact (a8.1 hs).1
 have hS:=h.S1;have hp:POk s m g op x:=by
  have h1:=h.sq s ops hs;unfold uF at h1;rw [hx] at h1;obtain ⟨op',e1,e2⟩:=h1;have:op'=op:=by rw [gk] at e1;injection e1 with e1;exact e1.symm
  rw [this] at e2;exact e2
 obtain ⟨a1,a2,a3,a4,a5,a6⟩:=Ph.step (th:=((2 * S:Nat):Int)) h.gl hp b3 b2 b1 zO;have e1:=xR (q:=q) (s:=s) (x:={ q s with cur:=some (x.stp (2 * S:Nat) 2 op ((x.acc s op.a).res m)) }) zO Sq.eff
 have e2:=xR (q:=q) (s:=s) (x:={ q s with cur:=some (x.stp (2 * S:Nat) 2 op ((x.acc s op.a).res m)) }) zO Sq.tk
 have f1:(q s).eff=(q s).done+x.eff:=by unfold Sq.eff;rw [hx];rfl
 have f2:(q s).tk=2 * (q s).done+x.tk:=by unfold Sq.tk;rw [hx];rfl
 have f3:Sq.eff { q s with cur:=some (x.stp (2 * S:Nat) 2 op ((x.acc s op.a).res m)) } =(q s).done+(x.stp (2 * S:Nat) 2 op ((x.acc s op.a).res m)).eff:=rfl
 have f4:Sq.tk { q s with cur:=some (x.stp (2 * S:Nat) 2 op ((x.acc s op.a).res m)) } =2 * (q s).done+(x.stp (2 * S:Nat) 2 op ((x.acc s op.a).res m)).tk:=rfl
 have hn:=h.n;have oO:=h.tk;refine ⟨⟨a1,h.S1,h.wl,h.w3,?_,?_,?_,zO,zO,?_,hN⟩,Ph.pg h.gl hp,a6,a3,a2⟩
 ·intro t xr ht
  by_cases e:t=s
  ·subst e;rw [hs] at ht;injection ht with ht;subst ht
   unfold uF;rw [eV];exact ⟨op,gk,a3⟩
  ·rw [ib _ _ e];have h1:=h.sq t xr ht;unfold uF at h1 ⊢
   cases hc:(q t).cur with
   | none=>rw [hc] at h1;exact ⟨h1.1,h1.2.1.env a2 e,(a2.ddo t e).trans h1.2.2⟩
   | some y=>
    rw [hc] at h1;obtain ⟨op',e1,e2⟩:=h1;exact ⟨op',e1,e2.env h.gl a1 a2 e⟩
 ·intro t ht;have h1:=h.no t ht;exact ⟨h1.1.env a2 zO,(a2.ddo t zO).trans h1.2⟩
 ·intro t ht;rw [ib _ _ zO];exact h.z t ht
 ·have:=a2.fcu;have:=h.fc;omega
theorem Wk.fin (h:Wk S want m g N q) {ops:List Opr} {op:Opr} {o:Out} (hs:want[s]? =some ops) (gk:ops[(q s).done]? =some op) (hx:(q s).cur=some (.out o)):
  Wk S want m g N (ud q s ⟨(q s).done+1,jE ops ((q s).done+1) o.gone,o.gone⟩):=by
 have hsS:s < S:=by rw [<- h.wl];exact (a8.1 hs).1
 have hS:=h.S1;have h1:=h.sq s ops hs;have dN:=(a8.1 gk).1;unfold uF at h1;rw [hx] at h1;obtain ⟨op',e1,hO,hd⟩:=h1;have key:uF s m g ops ⟨(q s).done+1,jE ops ((q s).done+1) o.gone,o.gone⟩/\(q s).done+1<=(Sq.eff ⟨(q s).done+1,jE ops ((q s).done+1) o.gone,o.gone⟩)/\2 * (q s).done+2<=(Sq.tk ⟨(q s).done+1,jE ops ((q s).done+1) o.gone,o.gone⟩):=by
  unfold uF jE Sq.eff Sq.tk
  cases hn:ops[(q s).done+1]? with
  | none=>exact ⟨⟨by have:=List.getElem?_eq_none_iff.1 hn;show (q s).done+1=ops.length;omega,hO,hd⟩,dZ _ _,dZ _ _⟩
  | some op2=>
   obtain ⟨x,hx,hp,-,-⟩:=Az (m:=m) (g:=g) (s:=s) ((h.w3 ops (bX hs)).2 op2 (bX hn)) hO hd;exact ⟨⟨op2,rfl,by show vO s m g op2 (gz op2 o.gone);rw [hx];exact hp⟩,dZ _ _,dZ _ _⟩
 have e1:=xR (q:=q) (s:=s) (x:=⟨(q s).done+1,jE ops ((q s).done+1) o.gone,o.gone⟩) zO Sq.eff;have e2:=xR (q:=q) (s:=s) (x:=⟨(q s).done+1,jE ops ((q s).done+1) o.gone,o.gone⟩) zO Sq.tk;have f1:(q s).eff=(q s).done+1:=by unfold Sq.eff;rw [hx];rfl
 have f2:(q s).tk=2 * (q s).done+2:=by unfold Sq.tk;rw [hx];rfl
 have hn:=h.n;have oO:=h.tk;refine ⟨h.gl,h.S1,h.wl,h.w3,?_,h.no,?_,zO,zO,h.fc,h.N⟩
 ·intro t xr ht
  by_cases e:t=s
  ·subst e;rw [hs] at ht;injection ht with ht;subst ht
   rw [eV];exact key.1
  ·rw [ib _ _ e];exact h.sq t xr ht
 ·intro t ht;rw [ib _ _ zO];exact h.z t ht
theorem Wk.go (h:Wk S want m g N q) {ops:List Opr} (hs:want[s]? =some ops) (hd:(q s).done < ops.length):∃ op,ops[(q s).done]? =some op/\((∃ x,(q s).cur=some (.go x))\/∃ o,(q s).cur=some (.out o)):=by
 have h1:=h.sq s ops hs;unfold uF at h1
 cases hc:(q s).cur with
 | none=>rw [hc] at h1;have:=h1.1;omega
 | some x=>
  rw [hc] at h1;obtain ⟨op,e1,e2⟩:=h1;refine ⟨op,e1,?_⟩
  cases x with
  | go x=>exact .inl ⟨x,rfl⟩
  | out o=>exact .inr ⟨o,rfl⟩
  | stuck=>exact absurd e2 (by simp [vO])
end
end Go.Proofs.YtikdaeddbkopeaaGreatR
namespace Go.Proofs.YtikdaeddbkopeaaGreatR
open Go.RowKit
def CQ (th bk me:Int) (op:Opr):Ph->Log->An Out
 | x,[]=>.ask (x.acc me op.a)
 | x,r :: l=>match x.stp th bk op r with
  | .go x'=>CQ th bk me op x' l
  | .out o=>.fin o
  | .stuck=>.stuck
def qB (th bk me:Int) (op:Opr):PX->Log->An Out
 | .go x,l=>CQ th bk me op x l
 | .out o,_=>.fin o
 | .stuck,_=>.stuck
theorem rQ (th bk me:Int) (op:Opr) (x:Ph) (r:Int × Bool) (l:Log):CQ th bk me op x (r :: l)=qB th bk me op (x.stp th bk op r) l:=by
 cases h:x.stp th bk op r <;> simp [CQ,qB,h]
theorem MH (th bk me:Int) (op:Opr):∀ (l:Log) (x:MPh) (n:Nat) (g:cG),CQ th bk me op (.m x n g) l=pU th bk me ⟨op.kind,op.a,op.b⟩ x n g l
 | [],_,_,_=>rfl
 | r :: l,x,n,g=>by
  rw [rQ,u0];show qB th bk me op (x.stp th bk ⟨op.kind,op.a,op.b⟩ n g r).p l=_
  cases x.stp th bk ⟨op.kind,op.a,op.b⟩ n g r with
  | go x' n' g'=>exact MH th bk me op l x' n' g'
  | out o=>rfl
  | stuck=>rfl
theorem MI (th bk me:Int) (op:Opr):∀ (l:Log) (x:EPh) (z:Pz),CQ th bk me op (.e x z) l=iZ th me op.a x z l
 | [],_,_=>rfl
 | r :: l,x,z=>by
  rw [rQ,vc];show qB th bk me op (x.stp th op.a z r).p l=_
  cases x.stp th op.a z r with
  | go x' z'=>exact MI th bk me op l x' z'
  | out o=>rfl
  | stuck=>rfl
theorem MJ (th bk me:Int) (op:Opr):∀ (l:Log) (x:CPh) (z:Pz),CQ th bk me op (.c x z) l=hZ th me op.a x z l
 | [],_,_=>rfl
 | r :: l,x,z=>by
  rw [rQ,vd];show qB th bk me op (x.stp th op.a z r).p l=_
  cases x.stp th op.a z r with
  | go x' z'=>exact MJ th bk me op l x' z'
  | out o=>rfl
  | stuck=>rfl
theorem runPX_e (th bk me:Int) (op:Opr) (x:EX) (l:Log):qB th bk me op x.p l=fE th me op.a x l:=by
 cases x with
 | go x z=>exact MI th bk me op l x z
 | out o=>rfl
 | stuck=>rfl
theorem runPX_c (th bk me:Int) (op:Opr) (x:CX) (l:Log):qB th bk me op x.p l=eR th me op.a x l:=by
 cases x with
 | go x z=>exact MJ th bk me op l x z
 | out o=>rfl
 | stuck=>rfl
theorem Mu {op:Opr} (h:1<=op.kind/\op.kind<=3) (g:cG):gz op g= .go (.m .m1 0 g):=if_pos h
theorem Mv {op:Opr} (h:4<=op.kind/\op.kind<=5) (g:cG):gz op g=(uU op.kind g).p:=by
 unfold gz;rw [if_neg zO,if_pos h]
theorem Mw {op:Opr} (h:6<=op.kind/\op.kind<=7) (g:cG):gz op g=(uV op.kind g).p:=by
 unfold gz;rw [if_neg zO,if_neg zO,if_pos h]
structure LyTop (l:Ly):Prop where
 f:dU l
 sl:l.c.slots=1
 se:1<=l.c.aM/\l.c.aM<=8
 bk:1<=l.c.buckets
 nd:∀ n,1<=n->n<=40->0<=nodeAt l n 0/\nodeAt l n 0 < l.size
 mp:0<=fP l 0 0
 tp:0<=eW l 0
 hd:0<=dT l 0
theorem onext (l:Ly) (me:Nat) (op:Opr) (g:cG) (gv:Value) (A:Option Addr) (cap:Nat) (log:Log) (w:World) (L:LyTop l) (ho:zH op) (hg:bN w gv g) (oe:g.length<=1000) (hs:hH w w.heap.size A log) (hl:log.length<=100000) (BQ:log.length<=cap)
  (uM:∀ x∈log,-4611686018427387904<=x.1/\x.1<=4611686018427387904) (q:An Out) (hq:q=qB (2 * l.c.aM) l.c.buckets me op (gz op g) log) (gq:q≠ .stuck) (qN:∀ o,q= .fin o->o.gone.length<=1000):
  Calls aw 21 #[lyV l,aa ab me,gv,.agg (eg op),.slice A log.length cap] w (jd l q w):=by
 obtain ⟨⟨k1,k2⟩,h0,ha,hb⟩:=ho;rcases (show op.kind<=3\/(4<=op.kind/\op.kind<=5)\/(6<=op.kind/\op.kind<=7) by omega) with h | h | h
 ·rw [Mu ⟨k1,h⟩] at hq;exact tG l me op gv A log.length cap w q 0 (.inl ⟨rfl,k1,h⟩) zO fun w2 b2=>
   split.snext l me op g gv A cap log w2 L.f L.se L.bk L.nd L.mp h0 zO ha (hg.ay b2) oe ((hs.below b2).more (b2.size)) hl BQ q (hq.trans (MH _ _ _ _ _ _ _ _)) gq
 ·rw [Mv h] at hq;exact tG l me op gv A log.length cap w q 1 (.inr (.inl ⟨rfl,h⟩)) zO fun w2 b2=>
   elim.enext l me op g gv A cap log w2 L.f L.sl L.se L.tp h0 zO (hg.ay b2) ((hs.below b2).more (b2.size)) hl q (hq.trans (runPX_e _ _ _ _ _ _)) gq qN
 ·rw [Mw h] at hq;exact tG l me op gv A log.length cap w q 2 (.inr (.inr ⟨rfl,h⟩)) zO fun w2 b2=>
   segment.cnext l me op g gv A cap log w2 L.f L.hd h0 zO (hg.ay b2) ((hs.below b2).more (b2.size)) hl uM _ q (hq.trans (runPX_c _ _ _ _ _ _)) gq qN
end Go.Proofs.YtikdaeddbkopeaaGreatR
namespace Go.Proofs.YtikdaeddbkopeaaGreatR
open Go.RowKit
attribute [local go_sem ↓] aV aW
theorem DY {a w:World} (h:Below a.heap.size a w) (n:Nat):Below a.heap.size a (w.drewN n):=⟨h.os,h.tape,h.output,h.size,h.block⟩
def gJ (w:World) (B:Nat) (A:Option Addr) (l:List Int):Prop:=
 0 < l.length->∃ b o,A=some ⟨b,o,none⟩/\b < B/\∀ (k:Nat) (r:Int),l[k]? =some r->w.cell? ⟨b,o+k,none⟩=some (aa ab r)
theorem gJ.below {w w':World} {B:Nat} {A:Option Addr} {l:List Int} (h:gJ w B A l) (hb:Below B w w'):gJ w' B A l:=by
 intro hl;obtain ⟨b,o,e,ey,hc⟩:=h hl;exact ⟨b,o,e,ey,fun k a ha=>(hb.cell (p:=⟨b,_,none⟩) ey).trans (hc k a ha)⟩
theorem gJ.more {w:World} {B B':Nat} {A:Option Addr} {l:List Int} (h:gJ w B A l) (hB:B<=B'):gJ w B' A l:=by
 intro hl;obtain ⟨b,o,e,ey,hc⟩:=h hl;exact ⟨b,o,e,bg ey hB,hc⟩
theorem gJ.of_bk {w:World} {g:Nat} {t:bR} {zs:List Int} (h:Bk w g t (zs.map (sj .i64)).toArray):gJ w w.heap.size (some ⟨g,0,none⟩) zs:=by
 intro _;refine ⟨g,0,rfl,h.lt,fun k r hr=>?_⟩
 rw [eE,h.cell k];simp [hr]
end Go.Proofs.YtikdaeddbkopeaaGreatR
namespace Go.Proofs.YtikdaeddbkopeaaGreatR
open Go.RowKit
section
variable {w w':World} {t0:bR}
theorem cy {b:Nat} {cs:Array Value} (k:Bk w b t0 cs) (i:Nat) (u:Value):eU t0 w (w.setCell ⟨b,i,none⟩ u):=by
 intro g cs' t fr h ht;have dF:g≠b:=by
  rintro rfl;rw [Bk,h] at k;injection k with k
  injection k with _ k _
  exact ht k
 rw [pM w ⟨b,i,none⟩ u g dF];exact h
theorem cI {base sz n:Nat} {v:Value} {xs:List Value} (h:w.ownsRow base t0 sz v n xs) (hg:w.grownBy w' v.ownBlock):eU t0 w w':=by
 intro g cs' t fr hc ht;have dN:g < w.heap.size:=(bE.1 hc).1;rw [hg.block g dN ?_]
 ·exact hc
 ·rcases h.2 with ⟨rfl,_⟩ | ⟨g',cap,cur,rfl,_,h2,_⟩
  ·simp [Value.ownBlock]
  ·simp only [Value.ownBlock];intro e;injection e with e
   subst e;rw [hc] at h2;injection h2 with h2
   injection h2 with _ h2 _
   exact ht h2
theorem jv (hb:Below w.heap.size w w'):eU t0 w w':=by
 intro g cs t fr hc _;rw [hb.block g (bE.1 hc).1];exact hc
theorem eU.trans {w2:World} (h:eU t0 w w') (h':eU t0 w' w2):eU t0 w w2:=fun g cs t fr hc ht=>h' g cs t fr (h g cs t fr hc ht) ht
theorem cz {base sz n:Nat} {e:bR} {v:Value} {xs:List Value} (h:w.ownsRow base e sz v n xs) (hk:eU t0 w w') (ne:e≠t0):w'.ownsRow base e sz v n xs:=by
 rcases h.2 with h1 | ⟨g,cap,cur,h1,h2,h3,h4⟩
 ·exact ⟨h.1,.inl h1⟩
 ·exact ⟨h.1,.inr ⟨g,cap,cur,h1,h2,hk g cur e (0,0) h3 ne,h4⟩⟩
theorem bc {base sz n:Nat} {e:bR} {v:Value} {xs:List Value} (h:w.ownsRow base e sz v n xs) (hb:Below w.heap.size w w'):w'.ownsRow base e sz v n xs:=by
 rcases h.2 with h1 | ⟨g,cap,cur,h1,h2,h3,h4⟩
 ·exact ⟨h.1,.inl h1⟩
 ·exact ⟨h.1,.inr ⟨g,cap,cur,h1,h2,(hb.block g (bE.1 h3).1).trans h3,h4⟩⟩
theorem eI {base base' n:Nat} {e:bR} {sz:Nat} {v:Value} {xs:List Value} (h:w.ownsRow base e sz v n xs) (hB:base'<=base):w.ownsRow base' e sz v n xs:=by
 rcases h.2 with h0 | ⟨g,cap,cur,h1,h2,h3⟩
 ·exact ⟨h.1,.inl h0⟩
 ·exact ⟨h.1,.inr ⟨g,cap,cur,h1,aQ hB h2,h3⟩⟩
end
theorem bk_ne {w:World} {a b:Nat} {t1 t2:bR} {c1 c2:Array Value} (h1:Bk w a t1 c1) (h2:Bk w b t2 c2) (dF:t1≠t2):a≠b:=by
 rintro rfl;rw [Bk,h2] at h1;injection h1 with h1
 injection h1 with _ h1 _
 exact dF h1.symm
end Go.Proofs.YtikdaeddbkopeaaGreatR
namespace Go.Proofs.YtikdaeddbkopeaaGreatR
open Go.RowKit
attribute [local go_sem ↓] aV aW
theorem eD (l m:List Acc):cq (l++m)=cq l++cq m:=by simp [cq]
theorem uE:∀ (l:List Acc) (k:Nat) (a:Acc),l[k]? =some a->(cq l)[k * 4]? =some (aa ab a.kind)/\(cq l)[k * 4+1]? =some (aa ab a.cell)/\(cq l)[k * 4+2]? =some (aa ab a.re)/\(cq l)[k * 4+3]? =some (aa ab a.new)
 | [],k,a,h=>by simp at h
 | b :: l,0,a,h=>by simp at h;subst h;simp [cq]
 | b :: l,k+1,a,h=>by
  simp at h;have:=uE l k a h;rw [show (k+1) * 4=k * 4+1+1+1+1 from by omega]
  simpa [cq] using this
theorem rS {w:World} {base cap n:Nat} {G:Option Addr} {l:List Acc} (h:w.ownsRow base 67 4 (.slice G n cap) n (cq l)) (hn:l.length=n):lX w w.heap.size G l:=by
 intro hl;rcases h.2 with ⟨h1,h2⟩ | ⟨g,Jv,cur,h1,_⟩
 ·omega
 ·injection h1 with h1 _ h3
  subst h1 h3;have dN:g < w.heap.size:=by
   rcases h.2 with ⟨h2,_⟩ | ⟨g',Ao,cur',h2,_,h4,_⟩
   ·cases h2
   ·injection h2 with h2 _ _
    injection h2 with h2
    injection h2 with h2
    subst h2;exact (bE.1 h4).1
  refine ⟨g,0,rfl,dN,fun k a hk=>?_⟩
  have hkl:k < l.length:=(a8.1 hk).1;obtain ⟨h1,h2,h3,h4⟩:=uE l k a hk;have hc:∀ (d:Nat) (v:Value),d < 4->(cq l)[k * 4+d]? =some v->w.cell? ⟨g,0+k * 4+d,none⟩=some v:=fun d v hd hv=>by
   rw [eE,jj h (k * 4+d) zO];exact hv
  exact ⟨hc 0 _ zO h1,hc 1 _ zO h2,hc 2 _ zO h3,hc 3 _ zO h4⟩
def AU (l:Ly) (k:Nat):Acc:=⟨2,nodeAt l (k+3) 7,0,if (k:Int)+3=l.c.nodes then 0 else (k:Int)+4⟩
def mR (l:Ly) (k:Nat):List Acc:=(xF k).map (AU l)
theorem vZ (l:Ly) (k:Nat):mR l (k+1)=mR l k++[AU l k]:=by simp [mR,List.range_succ]
def sY (l:Ly):List Acc:=mR l (l.c.nodes - 2).toNat++[⟨2,l.free,0,dS 3 false 0⟩]
theorem uo (l:Ly):sY l=mR l (l.c.nodes - 2).toNat++[⟨2,l.free,0,dS 3 false 0⟩]:=rfl
theorem rE:(Tryz.prog.info? 67).map (fun i=>(i.zero,i.size,i.bytes))=some (some (.agg #[aa ab 0,aa ab 0,aa ab 0,aa ab 0]),4,32):=zK
theorem D8:∃ i,rI aw 102 67 i (.agg #[aa ab 0,aa ab 0,aa ab 0,aa ab 0]) 4 32:=rI.of Tryz.underlying102 rE rfl zD
theorem rD (w:World) (cs:Array Value):∀ (j:Nat) (u:Value),cs.toList[j]? =some u->(w.alloc (ag cs 67)).cell? ((⟨w.heap.size,0,none⟩:Addr).add j)=some u:=by
 intro j u hu;rw [fV,eE,(Bk.made w 67 cs).cell j]
 simpa using hu
def InitRel (w:World) (l:Ly) (v5 v6 v7:Value) (wr:World):Prop:=
 ∃ k:Nat,(k:Int)+2<=l.c.nodes/\v7=aa ab (k+3:Nat)/\v5=aa ab (if k=0 then 0 else 3)/\Below w.heap.size w wr/\Bk wr w.heap.size 34 (lyC l)/\wr.ownsRow w.heap.size 67 4 v6 k (cq (mR l k))
def uI (as_:List Acc) (w:World) (e:lb) (w':World):Prop:=∃ A c,e=ai (.slice A as_.length c)/\lX w' w'.heap.size A as_/\Below w.heap.size w w'
theorem NL (l:Ly) (w:World) (f:dU l) (h1:3<=l.c.nodes) (h2:l.c.nodes<=1000):Calls aw 70 #[lyV l,aa ab 3] w (uI (sY l) w):=by
 have k0:=Bk.made w 34 (lyC l);have bz:=aB (Below.refl w.heap.size w) (ag (lyC l) 34);obtain ⟨i0,pP,jG,mw,mI⟩:=xE rE;obtain ⟨inf,AY⟩:=D8;go_enter Tryz.func70,Tryz.ntmps70
 go_wp2_with fail
 generalize w.alloc (ag (lyC l) 34)=w1 at *
 go_loopw [5,6,7] (fun v5 v6 v7 wr=>InitRel w l v5 v6 v7 wr) (fun _ _ v7 _=>(l.c.nodes.toNat+1) - (intOf v7).toNat)
 case atStart=>exact ⟨0,zO,rfl,rfl,bz,k0,cZ _ _ _ _⟩
 case round=>
  obtain ⟨k,hk,rfl,rfl,qO,k1,bn⟩:=hrel;obtain ⟨kk,nm⟩:∃ kk:Int,((k+3:Nat):Int)=kk:=⟨_,rfl⟩;obtain ⟨z5,hz5⟩:∃ z:Int,(if k=0 then 0 else 3:Int)=z:=⟨_,rfl⟩
  rw [nm,hz5];have b1:3<=kk/\kk<=1001:=zO;have q1:=k1.cell 1;simp at q1
  by_cases dN:kk<=l.c.nodes
  ·have g1:decide (kk<=l.c.nodes)=true:=by simp;omega
   have HO:=ar bn;have F:=ar f;have fU:=ar nm;have nY:k < 1000:=zO;clear bn f nm hz5;rcases Classical.em (kk=l.c.nodes) with hq | hq
   ·have g2:(kk==l.c.nodes)=true:=by simp;exact hq
    have g3:decide (kk=l.c.nodes)=true:=by simp;exact hq
    have HQ:=ar hq;clear hq
    go_wp2_with (refine aL rfl 34 (.tmp 2) rfl w.heap.size rfl 34 (lyC l) (0,0) _ k1 aJ rfl zK ?_)
    (with_reducible refine (dt l kk 7 _ F.out zO).mono ?_)
    rintro e w2 ⟨rfl,cY⟩;obtain ⟨c7,hc7⟩:∃ c,nodeAt l kk 7=c:=⟨_,rfl⟩;rw [hc7];have HC7:=ar hc7;clear hc7;have jg:=aF qO cY;have k2:=(k1.ay cY).alloc (ag #[aa ab 2,aa ab c7,aa ab 0,aa ab 0] 67);have ew:=World.ownsRow.alloc (jD HO.out cY) (ag #[aa ab 2,aa ab c7,aa ab 0,aa ab 0] 67);have jR:=aB jg (ag #[aa ab 2,aa ab c7,aa ab 0,aa ab 0] 67);clear qO cY q1
    go_wp2_with (at_builtin;go_must (refine cM _ rfl (.tmp 26) (.tmp 32) _ rfl w.heap.size 67 i0 _ 4 32 Tryz.underlying102 pP jG mw mI rfl zO u6 k (cq (mR l k)) rfl ew ⟨w2.heap.size,0,none⟩ 1 1 [aa ab 2,aa ab c7,aa ab 0,aa ab 0] rfl rfl (rD w2 _) (by simp [aD]) (by simp only [nu];omega) zO (by simp;have:=jg.size;omega) ?_;intro v9 w5 eu hgrow4 _ _))
    have wZ:=cI ew hgrow4;refine ⟨⟨k+1,by have:=fU.out;omega,by have:=fU.out;go_num,zS,bY jR ew hgrow4 jR.size (az _),k2.dh wZ zD,?_⟩,by simp [intOf];omega⟩
    rw [vZ,eD];have e:AU l k=⟨2,c7,0,0⟩:=by
     have h1:=fU.out;have h2:=HQ.out;have h3:=HC7.out;have h4:(k:Int)+3=kk:=zO;unfold AU;rw [h4,h3,if_pos h2]
    rw [e];exact eu
   ·have g2:(kk==l.c.nodes)=false:=by simp;exact hq
    have g3:decide (kk=l.c.nodes)=false:=by simp;exact hq
    have HQ:=ar hq;clear hq
    go_wp2_with (refine aL rfl 34 (.tmp 2) rfl w.heap.size rfl 34 (lyC l) (0,0) _ k1 aJ rfl zK ?_)
    (with_reducible refine (dt l kk 7 _ F.out zO).mono ?_)
    rintro e w2 ⟨rfl,cY⟩;obtain ⟨c7,hc7⟩:∃ c,nodeAt l kk 7=c:=⟨_,rfl⟩;rw [hc7];have HC7:=ar hc7;clear hc7;have jg:=aF qO cY;have k2:=(k1.ay cY).alloc (ag #[aa ab 2,aa ab c7,aa ab 0,aa ab (kk+1)] 67);have ew:=World.ownsRow.alloc (jD HO.out cY) (ag #[aa ab 2,aa ab c7,aa ab 0,aa ab (kk+1)] 67);have jR:=aB jg (ag #[aa ab 2,aa ab c7,aa ab 0,aa ab (kk+1)] 67);clear qO cY q1
    go_wp2_with (at_builtin;go_must (refine cM _ rfl (.tmp 26) (.tmp 32) _ rfl w.heap.size 67 i0 _ 4 32 Tryz.underlying102 pP jG mw mI rfl zO u6 k (cq (mR l k)) rfl ew ⟨w2.heap.size,0,none⟩ 1 1 [aa ab 2,aa ab c7,aa ab 0,aa ab (kk+1)] rfl rfl (rD w2 _) (by simp [aD]) (by simp only [nu];omega) zO (by simp;have:=jg.size;omega) ?_;intro v9 w5 eu hgrow4 _ _))
    have wZ:=cI ew hgrow4;refine ⟨⟨k+1,by have:=fU.out;omega,by have:=fU.out;go_num,zS,bY jR ew hgrow4 jR.size (az _),k2.dh wZ zD,?_⟩,by simp [intOf];omega⟩
    rw [vZ,eD];have e:AU l k=⟨2,c7,0,(kk+1)⟩:=by
     have h1:=fU.out;have h2:=HQ.out;have h3:=HC7.out;have h4:(k:Int)+3=kk:=zO;unfold AU;rw [h4,h3,if_neg h2]
     congr 1
     omega
    rw [e];exact eu
  ·have g1:decide (kk<=l.c.nodes)=false:=by simp;omega
   go_upto_region 12 with fail
   refine aP (S:=fun w'=>Bk w' w.heap.size 34 (lyC l)) (E:=fun _=>false) zK ?_
   replace k1:=k1.drew;replace qO:=qO.drew;replace bn:wr.drew.ownsRow w.heap.size 67 4 u6 k (cq (mR l k)):=bn;clear q1;generalize wr.drew=w3 at *;refine da (i:=0) (oi:=_) (v:=u6) rfl zK zK zK zK (fun _ _ _ h=>h) (jL ⟨by rfl,?_⟩) k1 ?_
   ·intro w' hSw
    (try simp only [aq,an])
    go_simp
   (try simp only [aq,an,Act.put,aj,ak,al])
   refine da (i:=1) (oi:=_) (v:=ae (some ⟨w.heap.size,12,none⟩)) rfl zK zK zK zK (fun _ _ _ h=>h) (jL ⟨by rfl,?_⟩) k1 ?_
   ·intro w' hSw
    (try simp only [aq,ao,an])
    go_simp
   (try simp only [aq,ao,an,Act.put,aj,ak,al])
   refine da (i:=2) (oi:=_) (v:=aa ab l.free) rfl zK zK zK zK (fun _ _ _ h=>h) (jL ⟨by rfl,?_⟩) k1 ?_
   ·intro w' hSw;have s1:=hSw.cell 12
    (try simp at s1)
    (try simp only [aq,ao,an])
    go_simp
   (try simp only [aq,ao,an,Act.put,aj,ak,al])
   refine da (i:=3) (oi:=_) (v:=aa ab z5) rfl zK zK zK zK (fun _ _ _ h=>h) (jL ⟨by rfl,?_⟩) k1 ?_
   ·intro w' hSw
    (try simp only [aq,ao,an])
    go_simp
   (try simp only [aq,ao,an,Act.put,aj,ak,al])
   refine da (i:=4) (oi:=_) (v:=.agg #[aa ab z5,ah false,aa ab 0]) rfl zK zK zK zK (fun _ _ _ h=>h) (jL ⟨by rfl,?_⟩) k1 ?_
   ·intro w' hSw
    (try simp only [aq,ao,an])
    go_simp
   (try simp only [aq,ao,an,Act.put,aj,ak,al])
   refine aE (i:=5) (o:=_) zK rfl (fun K hK=>?_)
   (try simp only [aq,ao,an])
   go_simp
   (with_reducible refine (iy z5 false 0 _).mono ?_)
   rintro e w4 ⟨rfl,jR⟩;obtain ⟨pk,hpk⟩:∃ p,dS z5 false 0=p:=⟨_,rfl⟩;rw [hpk];refine hK.out _ _ (fun _=>k1.ay jR) ?_
   clear hK K
   (try simp only [aq,ao,an,Act.put,aj,ak,al])
   refine da (i:=6) (oi:=_) (v:=.agg #[aa ab 2,aa ab l.free,aa ab 0,aa ab pk]) rfl zK zK zK zK (fun _ _ _ h=>h) (jL ⟨by rfl,?_⟩) (k1.ay jR) ?_
   ·intro w' hSw
    (try simp only [aq,ao,an])
    go_simp
   (try simp only [aq,ao,an,Act.put,aj,ak,al])
   have ha:Bk (w4.alloc (ag #[aa ab 2,aa ab l.free,aa ab 0,aa ab pk] 67)) w4.heap.size 67 #[aa ab 2,aa ab l.free,aa ab 0,aa ab pk]:=Bk.made _ _ _;have ew:=World.ownsRow.alloc (jD bn jR) (ag #[aa ab 2,aa ab l.free,aa ab 0,aa ab pk] 67);have gS:=aB jR (ag #[aa ab 2,aa ab l.free,aa ab 0,aa ab pk] 67);have fz:=aF qO gS;have k5:=(k1.ay jR).alloc (ag #[aa ab 2,aa ab l.free,aa ab 0,aa ab pk] 67);refine aE (i:=7) (o:=_) zK rfl (fun K hK=>?_)
   (try simp only [aq,ao,an])
   go_simp;refine hK.out _ _ (fun _=>k5) ?_
   clear hK K
   (try simp only [aq,ao,an,Act.put,aj,ak,al])
   generalize w4.alloc (ag #[aa ab 2,aa ab l.free,aa ab 0,aa ab pk] 67)=w5 at *;generalize w4.heap.size=ga at *;refine aE (i:=8) (o:=_) zK rfl (fun K hK=>?_)
   rw [if_pos (by rfl)]
   refine eY AY (.tmp 35) (.tmp 42) rfl w.heap.size u6 k (cq (mR l k)) rfl ew (some ⟨ga,0,none⟩) 1 1 _ rfl (pV ha rfl ha.lt) (by simp [aD]) zO zO fz.size (fun v9 w6 gy de=>?_)
   have jc:=bY fz ew de fz.size (az _);have k6:=k5.dh (cI ew de) zD;refine hK.out _ _ (fun _=>k6) ?_
   clear hK K
   (try simp only [aq,ao,an,Act.put,aj,ak,al])
   refine da (i:=9) (oi:=_) (v:=v9) rfl zK zK zK zK (fun _ _ _ h=>h) (jL ⟨by rfl,?_⟩) k6 ?_
   ·intro w' hSw;go_simp
   refine aN zK ?_ _
   (try simp only [aq,ao,an,Act.put,aj,ak,al])
   obtain ⟨GA,cA,rfl⟩:=cj gy;have hN:(l.c.nodes - 2).toNat=k:=zO;have hlen:(sY l).length=k+1:=by rw [uo,hN];simp [mR]
   have lg:lX w6 w6.heap.size GA (sY l):=by
    refine rS (base:=w.heap.size) (cap:=cA) (n:=k+1) ?_ hlen;rw [uo,hN,eD];have e:dS 3 false 0=pk:=by
     rw [<- hpk,<- hz5,if_neg zO]
    rw [e];exact gy
   go_wp2
   go_ret
   exact ⟨GA,cA,by rw [hlen];rfl,lg,jc⟩
end Go.Proofs.YtikdaeddbkopeaaGreatR
namespace Go.Proofs.YtikdaeddbkopeaaGreatR
structure fZ where
 pos:Nat
 log:Log
 steps:List Nat
 gone:cG
 made:Nat
structure EvW where
 who:Nat
 a:Acc
 r:Int × Bool
structure uH where
 who:Nat
 op:Opr
 val:Int
 is:Bool
 first:Nat
 last:Nat
 aH:Int
structure dG where
 m:List Int
 aM:List fZ
 events:List EvW
 calls:List uH
def fS (steps:List Nat) (p:Int):Int:=
 if p < -1/\ -p - 2 < steps.length then -(steps.getD (-p - 2).toNat 0:Nat) - 2
 else if 0<=p/\p < steps.length then (steps.getD p.toNat 0:Nat) else -1
def pJ (l:Ly) (a:LAc):Acc:=⟨a.k,adr l a.c,a.o,a.v⟩
def KQ (a:Acc) (m:List Int):Int × Bool:=(a.had m,a.ok (a.had m))
def tN (l:Ly) (who:Nat) (x:fZ) (a:LAc) (t:dG):dG:=
 { m:=(pJ l a).make t.m,aM:=t.aM.set who { x with log:=x.log++[KQ (pJ l a) t.m],steps:=x.steps++[t.events.length],made:=x.made+1 },events:=t.events++[⟨who,pJ l a,KQ (pJ l a) t.m⟩],calls:=t.calls }
def yY (who:Nat) (x:fZ) (op:Opr) (o:Out) (t:dG):dG:=
 { t with aM:=t.aM.set who ⟨x.pos+1,[],[],o.gone,x.made⟩,calls:=t.calls++[⟨who,op,o.val,o.is,x.steps.headD 0,x.steps.getLastD 0,fS x.steps o.aH⟩] }
def ff (l:Ly) (want:List (List Opr)) (who:Nat) (t:dG):dG × Bool:=
 match t.aM[who]?,want[who]? with
 | some x,some ops=>match ops[x.pos]? with
  | none=>(t,false)
  | some op=>match qB (2 * l.c.aM) l.c.buckets who op (gz op x.gone) x.log with
   | .ask a=>(tN l who x a t,false)
   | .fin o=>(yY who x op o t,true)
   | .stuck=>(t,false)
 | _,_=>(t,false)
def cfW (S:Nat):Cf:=⟨S,40,2,1,1,0,1,1,1⟩
def lyW (S:Nat):Ly:=Ad (cfW S)
def tP (S:Nat):Loc->Prop
 | .nd n i=>1<=n/\n<=40/\0<=i/\i < 8
 | .resv s i=>0<=s/\s < S/\0<=i/\i < 3
 | .bucket b=>b=0\/b=1
 | _=>True
def lU (S:Nat):Loc->Int
 | .era=>2
 | .free=>3
 | .resv s i=>4+2 * S+s * 3+i
 | .msize=>8+12 * S
 | .mcount=>9+12 * S
 | .bucket b=>10+12 * S+b
 | .top=>12+12 * S
 | .slot=>13+12 * S
 | .head=>14+12 * S
 | .tail=>15+12 * S
 | .nd n i=>16+12 * S+(n - 1) * 8+i
theorem yD {S:Nat} (h1:1<=S) (h3:S<=3):(lyW S).era=2/\(lyW S).free=3/\(lyW S).resv=4+2 * S/\(lyW S).map=8+12 * S/\(lyW S).stack=12+12 * S/\(lyW S).chan=14+12 * S/\(lyW S).node=16+12 * S/\(lyW S).size=336+12 * S/\(lyW S).c=cfW S:=by
 have:S=1\/S=2\/S=3:=zO;rcases this with rfl | rfl | rfl <;> exact ⟨by decide+kernel,by decide+kernel,by decide+kernel,by decide+kernel,by decide+kernel,by decide+kernel,by decide+kernel,by decide+kernel,rfl⟩
theorem lO {S:Nat} (h1:1<=S) (h3:S<=3) {c:Loc} (hc:tP S c):adr (lyW S) c=lU S c:=by
 obtain ⟨e1,e2,e3,e4,e5,e6,e7,e8,e9⟩:=yD h1 h3
 cases c with
 | era=>exact e1
 | free=>exact e2
 | resv s i=>
  obtain ⟨a,b,c,d⟩:=hc;show (if 0<=s/\s < (lyW S).c.aM/\0<=i/\i < 3 then (lyW S).resv+s * 3+i else -1)=_
  rw [e9,e3,if_pos ⟨a,b,c,d⟩];rfl
 | msize=>show (if (1:Int) < 0 then -1 else dk (lyW S).map (lyW S).c.maps (2+(lyW S).c.buckets) 0 0)=_;rw [e9,e4];simp [dk,cfW,lU]
 | mcount=>show (if (1:Int) < 1 then -1 else dk (lyW S).map (lyW S).c.maps (2+(lyW S).c.buckets) 0 1)=_;rw [e9,e4];simp [dk,cfW,lU];omega
 | bucket b=>
  show (if b < 0\/(lyW S).c.buckets<=b then -1 else dk (lyW S).map (lyW S).c.maps (2+(lyW S).c.buckets) 0 (2+b))=_
  rw [e9,e4];rcases (show b=0\/b=1 from hc) with rfl | rfl <;> simp [dk,cfW,lU] <;> omega
 | top=>show dk (lyW S).stack (lyW S).c.stacks (1+(lyW S).c.slots) 0 0=_;rw [e9,e5];simp [dk,cfW,lU]
 | slot=>show (if (0:Int) < 0\/(lyW S).c.slots<=0 then -1 else dk (lyW S).stack (lyW S).c.stacks (1+(lyW S).c.slots) 0 (1+0))=_;rw [e9,e5];simp [dk,cfW,lU];omega
 | head=>show dk (lyW S).chan (lyW S).c.chans 2 0 0=_;rw [e9,e6];simp [dk,cfW,lU]
 | tail=>show dk (lyW S).chan (lyW S).c.chans 2 0 1=_;rw [e9,e6];simp [dk,cfW,lU];omega
 | nd n i=>
  obtain ⟨a,b,c,d⟩:=hc;show (if n < 1 then -1 else (if 0<=n - 1/\n - 1 < (lyW S).c.nodes/\0<=i/\i < 8 then (lyW S).node+(n - 1) * 8+i else -1))=_
  rw [e9,e7,if_neg zO,if_pos ⟨zO,by show n - 1 < 40;omega,c,d⟩];rfl
theorem p8 {S:Nat} (h1:1<=S) {c:Loc} (hc:tP S c):0<=lU S c/\lU S c < 336+12 * S:=by
 cases c <;> simp only [tP,lU] at hc ⊢ <;> omega
theorem Nu {S:Nat} {c d:Loc} (hc:tP S c) (hd:tP S d) (h:lU S c=lU S d):c=d:=by
 cases c <;> cases d <;> simp only [tP,lU] at hc hd h ⊢ <;> first | omega | (congr 1 <;> omega) | skip
theorem xL {S:Nat} (h1:1<=S) (h3:S<=3):LyTop (lyW S):=by
 have hcan:(cfW S).can:=by
  refine ⟨⟨fun j hj=>?_,show CY 2=true by decide+kernel⟩,show (1:Int)+1<=40 by decide,show (40:Int)<=1000 by decide⟩
  have:j=0\/j=1\/j=2\/j=3\/j=4\/j=5\/j=6\/j=7:=zO;rcases this with rfl | rfl | rfl | rfl | rfl | rfl | rfl | rfl <;> simp only [Cf.CR,cfW] <;> omega
 obtain ⟨e1,e2,e3,e4,e5,e6,e7,e8,e9⟩:=yD h1 h3;refine ⟨vo _ hcan,by rw [e9];rfl,by rw [e9];show (1:Int)<=S/\(S:Int)<=8;omega,by rw [e9];show (1:Int)<=2;decide,?_,?_,?_,?_⟩
 ·intro n a b;have:nodeAt (lyW S) n 0=lU S (.nd n 0):=lO h1 h3 (c:=.nd n 0) ⟨a,b,zD,zD⟩;rw [this,e8];exact p8 h1 (c:=.nd n 0) ⟨a,b,zD,zD⟩
 ·have:fP (lyW S) 0 0=lU S .msize:=lO h1 h3 (c:=.msize) trivial;rw [this];exact (p8 h1 (c:=.msize) trivial).1
 ·have:eW (lyW S) 0=lU S .top:=lO h1 h3 (c:=.top) trivial;rw [this];exact (p8 h1 (c:=.top) trivial).1
 ·have:dT (lyW S) 0=lU S .head:=lO h1 h3 (c:=.head) trivial;rw [this];exact (p8 h1 (c:=.head) trivial).1
def Big (v:Int):Prop:=-4611686018427387904<=v/\v<=4611686018427387904
theorem nQ (i:Int) (b:Bool) (c:Int):Big (dS i b c):=by
 unfold dS Big;cases b <;> simp <;> omega
theorem pG (x i:Int):Big (ed x i):=nQ _ _ _
theorem pH (i:Int):Big (a9 i):=nQ _ _ _
theorem OF (i:Int):Big (gZ i):=nQ _ _ _
theorem sf (v k c:Int):Big (pY v k c):=by unfold pY Big;omega
theorem Kq (x:Int):Big (idxOf x):=by unfold idxOf Big;omega
theorem kd {v:Int} (h0:0<=v) (h1:v < 4294967298):Big v:=by unfold Big;omega
theorem uC:Big 0:=kd zD zD
def Sub.eb:Sub->Prop
 | .g3 _ _ e=>Big e
 | .t5 _ b _=>Big b
 | _=>True
def SX.eb:SX->Prop
 | .go x _=>x.eb
 | _=>True
theorem sb (s:Pz) (i:Nat):(dK s i).eb:=by unfold dK;split <;> trivial
theorem Sub.mh (th:Int) (z:Pz) (x:Sub) {r:Int × Bool} (hr:Big r.1):(x.stp th z r).eb:=by
 cases x <;> simp only [Sub.stp] <;> (repeat' split) <;> first | trivial | exact hr | exact sb _ _
def LPh.eb:LPh->Prop
 | .sub x _=>x.eb
 | _=>True
def LX.eb:LX->Prop
 | .go x _=>x.eb
 | _=>True
theorem xY {x:SX} (h:x.eb) (k:LK) {f:Ret->Pz->LX} (hf:∀ r s,(f r s).eb):(x.oX k f).eb:=by
 cases x with
 | go x s=>exact h
 | ret r s=>exact hf r s
 | stuck=>trivial
theorem B5 (o:dA) (s:Pz):(iE o s).eb:=xY (sb _ _) _ fun _ _=>trivial
theorem Jr (n:Int) (o:dA) (s:Pz):(ie n o s).eb:=xY (sb _ _) _ fun _ _=>trivial
theorem DO (op:LOp) (k:FK) (there:Bool) (prev cur next:Int) (pt:Nat) (s:Pz):(kI op k there prev cur next pt s).eb:=by
 unfold kI;cases k <;> simp only [] <;> (repeat' split) <;> first | trivial | exact B5 _ _
theorem C8 (op:LOp) (k:FK) (f:Fp) (s:Pz):(fY op k f s).eb:=by
 unfold fY;split
 ·exact DO _ _ _ _ _ _ _ _
 ·trivial
theorem resL_eb (op:LOp) (r:Ret) (s:Pz) (k:LK):(jS op r s k).eb:=by
 unfold jS;cases k <;> simp only [] <;> (repeat' split) <;> first | trivial | exact C8 _ _ _ _ | exact B5 _ _
theorem LPh.mh (th:Int) (op:LOp) (z:Pz) (x:LPh) {r:Int × Bool} (hr:Big r.1):(x.stp th op z r).eb:=by
 cases x with
 | sub x k=>exact xY (Sub.mh th z x hr) k fun t s=>resL_eb op t s k
 | _=>simp only [LPh.stp] <;> (repeat' split) <;> first | trivial | exact C8 _ _ _ _ | exact B5 _ _ | exact DO _ _ _ _ _ _ _ _ | exact Jr _ _ _
def MPh.eb:MPh->Prop
 | .ml _ _ _ lo x _=>(0<=lo.v/\lo.v < 4294967296)/\x.eb
 | _=>True
def MX.eb:MX->Prop
 | .go x _ _=>x.eb
 | _=>True
theorem I5 {x:LX} (h:x.eb) (dm:Bool) (sz:Int) (m:Nat) {lo:LOp} (hl:0<=lo.v/\lo.v < 4294967296) {f:dA->Pz->MX} (hf:∀ o s,(f o s).eb):(x.inM dm sz m lo f).eb:=by
 cases x with
 | go x s=>exact ⟨hl,h⟩
 | out o s=>exact hf o s
 | stuck=>trivial
theorem AB (lo:LOp) (g:cG):(dp lo g).eb:=by unfold dp;(repeat' split) <;> trivial
theorem Nz (op:MOp) (sz:Int) (o:dA) (n:Nat) (g:cG):(jf op sz o n g).eb:=by unfold jf;(repeat' split) <;> trivial
theorem Nr {op:MOp} (hb:0<=op.b/\op.b < 4294967296) (sz n:Int) (k:Nat) (g:cG):(ku op sz n k g).eb:=by
 unfold ku;split
 ·exact I5 (AB _ _) _ _ _ hb fun _ _=>trivial
 ·trivial
theorem MPh.mh (th bk:Int) {op:MOp} (hb:0<=op.b/\op.b < 4294967296) (n:Nat) (g:cG) {x:MPh} (hx:x.eb) {r:Int × Bool} (hr:Big r.1):(x.stp th bk op n g r).eb:=by
 cases x with
 | ml dm sz m lo x s=>
  refine I5 (LPh.mh th lo s x hr) _ _ _ hx.1 fun o s=>?_
  cases dm
  ·exact Nz _ _ _ _ _
  ·exact trivial
 | m3 sz=>
  simp only [MPh.stp];split
  ·trivial
  ·exact I5 (AB _ _) _ _ _ ⟨Int.le_refl 0,show (0:Int) < 4294967296 by decide⟩ fun _ _=>trivial
 | _=>simp only [MPh.stp] <;> (repeat' split) <;> first | trivial | exact Nr hb _ _ _ _
def EPh.eb:EPh->Prop
 | .sub x _=>x.eb
 | _=>True
def EX.eb:EX->Prop
 | .go x _=>x.eb
 | _=>True
theorem yb {x:SX} (h:x.eb) (k:EK) {f:Ret->Pz->EX} (hf:∀ r s,(f r s).eb):(x.mX k f).eb:=by
 cases x with
 | go x s=>exact h
 | ret r s=>exact hf r s
 | stuck=>trivial
theorem Kn (a:Int) (b:Bool) (c:Int) (s:Pz):(zq a b c s).eb:=yb (sb _ _) _ fun _ _=>trivial
theorem resE_eb (r:Ret) (s:Pz) (k:EK):(sx r s k).eb:=by
 unfold sx;cases k <;> simp only [] <;> (repeat' split) <;> first | trivial | exact Kn _ _ _ _
theorem EPh.mh (th a:Int) (z:Pz) (x:EPh) {r:Int × Bool} (hr:Big r.1):(x.stp th a z r).eb:=by
 cases x with
 | sub x k=>exact yb (Sub.mh th z x hr) k fun t s=>resE_eb t s k
 | o4 n p=>exact yb (sb _ _) _ fun _ _=>trivial
 | _=>simp only [EPh.stp] <;> (repeat' split) <;> first | trivial | exact Kn _ _ _ _
def CPh.eb:CPh->Prop
 | .sub x _=>x.eb
 | _=>True
def CX.eb:CX->Prop
 | .go x _=>x.eb
 | _=>True
theorem Cz {x:SX} (h:x.eb) (k:CK) {f:Ret->Pz->CX} (hf:∀ r s,(f r s).eb):(x.qS k f).eb:=by
 cases x with
 | go x s=>exact h
 | ret r s=>exact hf r s
 | stuck=>trivial
theorem Kp (a:Int) (b:Bool) (c:Int) (s:Pz):(lN a b c s).eb:=Cz (sb _ _) _ fun _ _=>trivial
theorem resC_eb (r:Ret) (s:Pz) (k:CK):(sy r s k).eb:=by
 unfold sy;cases k <;> simp only [] <;> (repeat' split) <;> first | trivial | exact Kp _ _ _ _
theorem Nj (bP bF:Int) (i:Nat) (s:Pz):(mY bP bF i s).eb:=by unfold mY;split <;> trivial
theorem Nl (bF:Int) (i:Nat) (s:Pz):(mZ bF i s).eb:=by unfold mZ;split <;> trivial
theorem CPh.mh (th a:Int) (z:Pz) (x:CPh) {r:Int × Bool} (hr:Big r.1):(x.stp th a z r).eb:=by
 cases x with
 | sub x k=>exact Cz (Sub.mh th z x hr) k fun t s=>resC_eb t s k
 | _=>simp only [CPh.stp] <;> (repeat' split) <;> first | trivial | exact Kp _ _ _ _ | exact Nj _ _ _ _ | exact Nl _ _ _
def Ph.eb:Ph->Prop
 | .m x _ _=>x.eb
 | .e x _=>x.eb
 | .c x _=>x.eb
def PX.eb:PX->Prop
 | .go x=>x.eb
 | _=>True
theorem Ph.mh (th bk:Int) {op:Opr} (ho:zH op) {x:Ph} (hx:x.eb) {r:Int × Bool} (hr:Big r.1):(x.stp th bk op r).eb:=by
 cases x with
 | m x n g=>
  have h:=MPh.mh th bk (op:=⟨op.kind,op.a,op.b⟩) ho.b n g hx hr;show (x.stp th bk ⟨op.kind,op.a,op.b⟩ n g r).p.eb
  cases hh:x.stp th bk ⟨op.kind,op.a,op.b⟩ n g r <;> rw [hh] at h <;> first | exact h | trivial
 | e x z=>
  have h:=EPh.mh th op.a z x hr;show (x.stp th op.a z r).p.eb
  cases hh:x.stp th op.a z r <;> rw [hh] at h <;> first | exact h | trivial
 | c x z=>
  have h:=CPh.mh th op.a z x hr;show (x.stp th op.a z r).p.eb
  cases hh:x.stp th op.a z r <;> rw [hh] at h <;> first | exact h | trivial
theorem uT (op:Opr) (g:cG):(gz op g).eb:=by
 unfold gz uU uV C0 qW JW
 (repeat' split) <;> trivial
structure xD (me:Int) (a:LAc):Prop where
 k:(a.k=1/\a.o=0/\a.v=0)\/(a.k=2/\a.o=0)\/a.k=3\/(a.k=4/\a.o=0/\(a.v=1\/a.v= -1)/\(a.c= .era\/a.c= .mcount))
 v:Big a.v
 rs:∀ s i,a.c= .resv s i->s=me
 sm:a.c= .era\/a.c= .mcount->a.k=1\/a.k=4
theorem Sub.acOk (me:Int) {x:Sub} (hx:x.eb) (hc:∀ i c,(x= .g1 i c)->∀ s i,c≠ .resv s i):xD me (x.acc me):=by
 cases x with
 | g1 i c=>exact ⟨.inl ⟨rfl,rfl,rfl⟩,uC,fun s j e=>absurd e (hc i c rfl s j),fun _=>.inl rfl⟩
 | g2 i c v=>exact ⟨.inl ⟨rfl,rfl,rfl⟩,uC,(by intro _ _ e;cases e),fun _=>.inl rfl⟩
 | g3 i c e=>exact ⟨.inr (.inl ⟨rfl,rfl⟩),hx,(by intro _ _ e;cases e;rfl),by rintro (e | e) <;> cases e⟩
 | t1=>exact ⟨.inl ⟨rfl,rfl,rfl⟩,uC,(by intro _ _ e;cases e),fun _=>.inl rfl⟩
 | t2 fr=>exact ⟨.inl ⟨rfl,rfl,rfl⟩,uC,(by intro _ _ e;cases e),fun _=>.inl rfl⟩
 | t3 fr lk=>exact ⟨.inr (.inr (.inl rfl)),pG _ _,(by intro _ _ e;cases e),by rintro (e | e) <;> cases e⟩
 | t4 n p=>exact ⟨.inl ⟨rfl,rfl,rfl⟩,uC,(by intro _ _ e;cases e),fun _=>.inl rfl⟩
 | t5 n b p=>exact ⟨.inr (.inl ⟨rfl,rfl⟩),hx,(by intro _ _ e;cases e),by rintro (e | e) <;> cases e⟩
 | v1 n=>exact ⟨.inl ⟨rfl,rfl,rfl⟩,uC,(by intro _ _ e;cases e),fun _=>.inl rfl⟩
 | v2 n fr=>exact ⟨.inr (.inl ⟨rfl,rfl⟩),Kq _,(by intro _ _ e;cases e),by rintro (e | e) <;> cases e⟩
 | v3 n fr=>exact ⟨.inr (.inr (.inl rfl)),pG _ _,(by intro _ _ e;cases e),by rintro (e | e) <;> cases e⟩
 | cl i=>exact ⟨.inr (.inl ⟨rfl,rfl⟩),uC,(by intro _ _ e;cases e;rfl),by rintro (e | e) <;> cases e⟩
 | r1 n=>exact ⟨.inl ⟨rfl,rfl,rfl⟩,uC,(by intro _ _ e;cases e),fun _=>.inl rfl⟩
 | r2 n e=>exact ⟨.inr (.inr (.inr ⟨rfl,rfl,.inl rfl,.inl rfl⟩)),kd (show (0:Int)<=1 by decide) (show (1:Int) < 4294967298 by decide),(by intro _ _ e;cases e),fun _=>.inr rfl⟩
def Loc.pl:Loc->Prop
 | .resv _ _ | .era | .mcount=>False
 | _=>True
theorem ig (me:Int) {a:LAc} (h:a.c.pl) (hk:a.k=1/\a.o=0/\a.v=0):xD me a:=⟨.inl hk,by rw [hk.2.2];exact uC,(by intro s i e;rw [e] at h;exact h.elim),fun _=>.inl hk.1⟩
theorem qm (me:Int) {a:LAc} (h:a.c.pl) (hk:a.k=2/\a.o=0) (hv:Big a.v):xD me a:=⟨.inr (.inl hk),hv,(by intro s i e;rw [e] at h;exact h.elim),(by rintro (e | e) <;> (rw [e] at h;exact h.elim))⟩
theorem fQ (me:Int) {a:LAc} (h:a.c.pl) (hk:a.k=3) (hv:Big a.v):xD me a:=⟨.inr (.inr (.inl hk)),hv,(by intro s i e;rw [e] at h;exact h.elim),(by rintro (e | e) <;> (rw [e] at h;exact h.elim))⟩
theorem gd_pl {g:Gh} {c:Loc} (h:Gd g c):∀ s i,c≠ .resv s i:=by rintro s i rfl;exact absurd h (by simp [Gd])
theorem Sub.pK {s:Nat} {m:Sm} {g:Gh} {x:Sub} (hp:mO s m g x) (hx:x.eb):xD s (x.acc s):=Sub.acOk s hx fun i c e=>by
 subst e;exact gd_pl hp.2
theorem LPh.pK {s:Nat} {m:Sm} {g:Gh} {op:LOp} {x:LPh} (hp:LOk s m g op x) (hx:x.eb) (o0:0<=op.o) (o1:op.o < 131072) (v0:0<=op.v) (v1:op.v < 4294967296):xD s (x.acc s op):=by
 cases x with
 | sub x k=>exact Sub.pK hp.1 hx
 | fs k f n t=>exact ig _ trivial ⟨rfl,rfl,rfl⟩
 | fo k f n t=>exact ig _ trivial ⟨rfl,rfl,rfl⟩
 | fc k f n=>exact fQ _ trivial rfl (pH _)
 | gv n p=>exact ig _ trivial ⟨rfl,rfl,rfl⟩
 | p1 n a b=>exact qm _ trivial ⟨rfl,rfl⟩ (show Big op.o from kd o0 zO)
 | p2 n a b=>exact qm _ trivial ⟨rfl,rfl⟩ (show Big op.v from kd v0 zO)
 | p0 n a b=>exact qm _ trivial ⟨rfl,rfl⟩ (pH _)
 | pc n a b=>exact fQ _ trivial rfl (pH _)
 | dm a b c=>exact fQ _ trivial rfl (OF _)
 | du a b c d=>exact fQ _ trivial rfl (pH _)
theorem MPh.pK {s:Nat} {m:Sm} {g:Gh} {op:MOp} {gn:cG} {x:MPh} (hp:MOk s m g op gn x) (hx:x.eb):xD s (x.acc s):=by
 cases x with
 | m1=>exact ig _ trivial ⟨rfl,rfl,rfl⟩
 | m2 sz b=>exact ig _ trivial ⟨rfl,rfl,rfl⟩
 | m3 sz=>exact ig _ trivial ⟨rfl,rfl,rfl⟩
 | ml dm sz k lo x z=>exact LPh.pK hp.1.ok hx.2 hp.1.opk.o0 hp.1.opk.o1 hx.1.1 hx.1.2
 | m4 sz n=>exact fQ _ trivial rfl (pH _)
 | m5 sz o=>exact ⟨.inr (.inr (.inr ⟨rfl,rfl,.inl rfl,.inr rfl⟩)),kd (show (0:Int)<=1 by decide) (show (1:Int) < 4294967298 by decide),(by intro _ _ e;cases e),fun _=>.inr rfl⟩
 | m6 sz o=>obtain rfl:sz=1:=hp;exact fQ _ trivial rfl (show Big 2 from kd zD zD)
 | m7 o=>exact ⟨.inr (.inr (.inr ⟨rfl,rfl,.inr rfl,.inr rfl⟩)),⟨show (-4611686018427387904:Int)<= -1 by decide,show (-1:Int)<=4611686018427387904 by decide⟩,(by intro _ _ e;cases e),fun _=>.inr rfl⟩
theorem EPh.pK {s:Nat} {m:Sm} {g:Gh} {a:Int} {x:EPh} (hp:EOk s m g a x) (hx:x.eb) (a0:0<=a) (a1:a < 65536):xD s (x.acc s a):=by
 cases x with
 | sub x k=>exact Sub.pK hp.1 hx
 | u1 n=>exact qm _ trivial ⟨rfl,rfl⟩ (show Big a from kd a0 zO)
 | u2 n=>exact ig _ trivial ⟨rfl,rfl,rfl⟩
 | u3 n w=>exact qm _ trivial ⟨rfl,rfl⟩ (Kq _)
 | u4 n w=>exact fQ _ trivial rfl (pG _ _)
 | u5 n=>exact ig _ trivial ⟨rfl,rfl,rfl⟩
 | u6 n w=>exact fQ _ trivial rfl (sf _ _ _)
 | u7 j n w p=>exact ig _ trivial ⟨rfl,rfl,rfl⟩
 | u8 n w p=>exact fQ _ trivial rfl (sf _ _ _)
 | u9 n w p=>exact qm _ trivial ⟨rfl,rfl⟩ (sf _ _ _)
 | o2 w=>exact ig _ trivial ⟨rfl,rfl,rfl⟩
 | o3 w b=>exact fQ _ trivial rfl (pG _ _)
 | o4 n p=>exact ig _ trivial ⟨rfl,rfl,rfl⟩
 | o5=>exact ig _ trivial ⟨rfl,rfl,rfl⟩
 | o6 w=>exact fQ _ trivial rfl (sf _ _ _)
theorem CPh.pK {s:Nat} {m:Sm} {g:Gh} {a:Int} {x:CPh} (h:Gl m g) (hp:COk s m g a x) (hx:x.eb) (a0:0<=a) (a1:a < 4294967296):xD s (x.acc s a):=by
 cases x with
 | sub x k=>exact Sub.pK hp.1 hx
 | s2 n w i=>exact ig _ trivial ⟨rfl,rfl,rfl⟩
 | s3 n w i=>exact fQ _ trivial rfl (show Big (a+2) from kd zO zO)
 | s4 n w=>exact ig _ trivial ⟨rfl,rfl,rfl⟩
 | s5 n w x=>exact fQ _ trivial rfl (pG _ _)
 | fl n w j=>
  refine qm _ trivial ⟨rfl,rfl⟩ ?_;show Big (if j=1 then a+2 else 0)
  split
  ·exact kd zO zO
  ·exact uC
 | s6 n w=>have:=h.rng n (by rw [hp.1];simp);exact fQ _ trivial rfl (show Big n from kd zO zO)
 | s7 n w p=>exact fQ _ trivial rfl (pG _ _)
 | r2 w i=>exact ig _ trivial ⟨rfl,rfl,rfl⟩
 | r3 w i x=>exact fQ _ trivial rfl (show Big 1 from kd zD zD)
 | r4 w=>exact ig _ trivial ⟨rfl,rfl,rfl⟩
theorem Ph.pK {s:Nat} {m:Sm} {g:Gh} {op:Opr} {x:Ph} (ho:zH op) (h:Gl m g) (hp:POk s m g op x) (hx:x.eb):xD s (x.acc s op.a):=by
 have ha:=ho.a
 cases x with
 | m x n g'=>exact MPh.pK hp.2.ok hx
 | e x z=>exact EPh.pK hp.2.2.ok hx ha.1 ha.2
 | c x z=>exact CPh.pK h hp.2.ok hx ha.1 zO
structure Ar (S N:Nat) (m:List Int) (sm:Sm):Prop where
 len:m.length=336+12 * S
 cl:∀ c,tP S c->m[(lU S c).toNat]? =some (sm c)
 big:∀ c,tP S c->Big (sm c)
 er:-((N:Int)+1)<=sm .era/\sm .era<=N+1
 mc:-((N:Int)+1)<=sm .mcount/\sm .mcount<=N+1
section
variable {S N:Nat} {m:List Int} {sm:Sm} {s:Int} {a:LAc}
theorem mem_at (a:LAc) (sm:Sm) (c:Loc):a.mem sm c=if c=a.c then (a.mem sm) a.c else sm c:=by
 unfold LAc.mem bZ
 by_cases h:c=a.c
 ·rw [h,if_pos rfl]
 ·rw [if_neg h];(repeat' split) <;> first | rfl | simp_all
theorem Ar.step (h1:1<=S) (h3:S<=3) (R:Ar S N m sm) (ha:xD s a) (hc:tP S a.c) (hN:N+1<=200000000):
  (pJ (lyW S) a).err m.length=0/\KQ (pJ (lyW S) a) m=a.res sm/\Ar S (N+1) ((pJ (lyW S) a).make m) (a.mem sm)/\Big (a.res sm).1:=by
 obtain ⟨b0,b1⟩:=p8 h1 hc;have Dx:(pJ (lyW S) a).cell=lU S a.c:=lO h1 h3 hc;have xO:=R.cl a.c hc;have tK:(pJ (lyW S) a).had m=sm a.c:=by
  unfold Acc.had;rw [Dx,List.getD_eq_getElem?_getD,xO];rfl
 have hb:=R.big a.c hc;have her:=R.er;have hmc:=R.mc;have hlen:=R.len;have hright:(pJ (lyW S) a).right=true:=by
  unfold Acc.right;rw [Dx];show (decide (0<=lU S a.c)&&((a.k==1&&a.v==0&&a.o==0)||((a.k==2||a.k==4||a.k==5)&&a.o==0)||a.k==3))=true
  rw [decide_eq_true b0];rcases ha.k with ⟨e1,e2,e3⟩ | ⟨e1,e2⟩ | e1 | ⟨e1,e2,-⟩ <;> simp [*]
 have Dt:(pJ (lyW S) a).next (sm a.c)=a.mem sm a.c/\Big (a.mem sm a.c)/\(a.c= .era\/a.c= .mcount->sm a.c - 1<=a.mem sm a.c/\a.mem sm a.c<=sm a.c+1):=by
  unfold Acc.next LAc.mem pJ
  rcases ha.k with ⟨e1,e2,e3⟩ | ⟨e1,e2⟩ | e1 | ⟨e1,e2,e3,e4⟩
  ·simp only [e1];simp;exact ⟨hb,fun _=>by omega⟩
  ·simp only [e1];simp [bZ];exact ⟨ha.v,fun h=>by rcases ha.sm h with e | e <;> omega⟩
  ·simp only [e1];simp
   by_cases h:sm a.c=a.o
   ·simp only [h,if_true,bZ];exact ⟨trivial,ha.v,fun h=>by rcases ha.sm h with e | e <;> omega⟩
   ·simp [h];exact ⟨hb,fun _=>by omega⟩
  ·simp only [e1];simp [bZ];have hv:sm a.c+a.v=Go.RowKit.wrap64 (sm a.c+a.v):=by unfold Go.RowKit.wrap64;unfold Big at hb;omega
   have hsm:-((N:Int)+1)<=sm a.c/\sm a.c<=N+1:=by rcases e4 with e | e <;> rw [e] <;> assumption
   exact ⟨hv.symm,by unfold Big;omega,fun _=>by omega⟩
 obtain ⟨nv,hnv⟩:∃ nv,a.mem sm a.c=nv:=⟨_,rfl⟩;have hma:∀ c,a.mem sm c=if c=a.c then nv else sm c:=fun c=>hnv ▸ mem_at a sm c
 rw [hnv] at Dt;refine ⟨?_,?_,?_,?_⟩
 ·unfold Acc.err;rw [hright,if_pos rfl,Dx,if_pos (by rw [hlen];omega)]
 ·unfold KQ LAc.res Acc.ok;rw [tK];show (sm a.c,!(a.k==3&&sm a.c != a.o))=_
  by_cases e1:a.k=3
  ·by_cases e2:sm a.c=a.o <;> simp [e1,e2]
  ·simp [e1]
 ·unfold Acc.make;rw [tK,Dt.1,Dx];refine ⟨by rw [List.length_set];exact hlen,?_,?_,?_,?_⟩
  ·intro c hv;rw [hma]
   by_cases e:c=a.c
   ·subst e;rw [if_pos rfl,List.getElem?_set_self (by rw [hlen];omega)]
   ·rw [if_neg e,List.getElem?_set_ne (by
     intro h;have:=p8 h1 hv;exact e (Nu hv hc zO))]
    exact R.cl c hv
  ·intro c hv;rw [hma]
   by_cases e:c=a.c
   ·rw [if_pos e];exact Dt.2.1
   ·rw [if_neg e];exact R.big c hv
  ·rw [hma];split
   ·rename_i e;have:=Dt.2.2 (.inl e.symm);rw [<- e] at this;push_cast;omega
   ·push_cast;omega
  ·rw [hma];split
   ·rename_i e;have:=Dt.2.2 (.inr e.symm);rw [<- e] at this;push_cast;omega
   ·push_cast;omega
 ·rw [fF];exact hb
end
end Go.Proofs.YtikdaeddbkopeaaGreatR
