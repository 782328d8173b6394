/- A part of the proof. -/
import Derived.Test.YtikdaeddbkopeaaGreatRV12
import Derived.Test.YtikdaeddbkopeaaGreatRV1
set_option linter.unusedVariables false
set_option linter.unusedSimpArgs false
set_option maxRecDepth 100000
set_option maxHeartbeats 16000000
open And renaming intro → au
open Array renaming getElem?_eq_some_iff → bE
open Bool renaming and_eq_true → dq
open Go renaming execOp → Av, Program → Cn, wpList_load_row → aL, wp_at_zero → aV, wp_at_succ → aW, TypeId → bR, run_loadVar_row → be, wpList_append_own_at → cM, results_none → dY, maxLen → nu, info_parts → xE
open Go.Ending renaming returned → ai
open Go.Instr renaming field → uP, sureAddr → xG
open Go.IntKind renaming i64 → ab
open Go.Lib renaming hid → ar
open Go.Obj renaming cells → ag
open Go.Proofs.Tryz renaming underlying34 → aJ, prog → aw, underlying26 → fA, underlying35 → su
open Go.Result renaming andThen_ok → bQ
open Go.RowKit.Below renaming heap_setCell → pM
open Go.Sem renaming run_bind → di, run_pure → dx
open Go.Value renaming oneCell' → aD, int → sj, bool → ah, int → aa, slice → af
open Go.WideShapes renaming add_plain → fV
open Go.World renaming ownsRow_nil → cZ
open List renaming getElem?_eq_some_iff → a8, getElem?_eq_getElem → aO, setIfInBounds_toArray → aj, set_cons_zero → ak, set_cons_succ → al, getElem_cons_zero → an, getElem_cons_succ → ao, getElem_toArray → aq, mem_cons → bD, mem_of_getElem? → bX, not_mem_nil → cB, length_append → cJ, mem_singleton → eN, take_add_one → j7, length_take → jM, mem_cons_of_mem → jk, take_length → pL, range → xF
open Nat renaming zero_le → aY, le_refl → az, lt_of_lt_of_le → bg, zero_add → eE
open Option renaming isSome_some → gQ
open Or renaming inl → jL
namespace Go.Proofs.YtikdaeddbkopeaaGreatR
def JC (th bk:Int) (op:Opr):PX->Log->PX
 | .go x,r :: l=>JC th bk op (x.stp th bk op r) l
 | p,_=>p
def anP (me a:Int):PX->An Out
 | .go x=>.ask (x.acc me a)
 | .out o=>.fin o
 | .stuck=>.stuck
theorem nR (th bk:Int) (op:Opr) (p:PX):JC th bk op p []=p:=by cases p <;> rfl
theorem AF (th bk me:Int) (op:Opr):∀ (l:Log) (p:PX),qB th bk me op p l=anP me op.a (JC th bk op p l)
 | [],p=>by rw [nR];cases p <;> rfl
 | r :: l,p=>by
  cases p with
  | go x=>show CQ th bk me op x (r :: l)=_;rw [rQ];exact AF th bk me op l _
  | out o=>rfl
  | stuck=>rfl
theorem zE (th bk:Int) (op:Opr) (r:Int × Bool) {x:Ph}:∀ (l:Log) (p:PX),JC th bk op p l= .go x->JC th bk op p (l++[r])=x.stp th bk op r
 | [],p,h=>by rw [nR] at h;subst h;exact nR _ _ _ _
 | a :: l,p,h=>by
  cases p with
  | go y=>exact zE th bk op r l _ h
  | out o=>cases h
  | stuck=>cases h
abbrev pz (S:Nat) (op:Opr) (x:fZ):PX:=JC ((2 * S:Nat):Int) 2 op (gz op x.gone) x.log
structure Cc (S:Nat) (ops:List Opr) (q:Sq) (x:fZ) (N:Nat):Prop where
 done:q.done=x.pos
 gone:q.gone=x.gone
 cur:q.cur=(ops[x.pos]?).map fun op=>pz S op x
 sl:x.steps.length=x.log.length
 ll:x.log.length<=N
 big:∀ r∈x.log,Big r.1
 st:∀ i∈x.steps,i < N
 gl:x.gone.length<=6
 eb:∀ y,q.cur=some y->y.eb
 md:x.made<=N
theorem Cc.more {S:Nat} {ops:List Opr} {q:Sq} {x:fZ} {N N':Nat} (h:Cc S ops q x N) (hN:N<=N'):Cc S ops q x N':=
 ⟨h.done,h.gone,h.cur,h.sl,by have:=h.ll;omega,h.big,fun i hi=>by have:=h.st i hi;omega,h.gl,h.eb,by have:=h.md;omega⟩
structure sP (S:Nat) (want:List (List Opr)) (t:dG) (sm:Sm) (g:Gh) (q:Nat->Sq):Prop where
 wk:Wk S want sm g t.events.length q
 mr:Ar S t.events.length t.m sm
 sl:t.aM.length=S
 sr:∀ s x ops,t.aM[s]? =some x->want[s]? =some ops->Cc S ops (q s) x t.events.length
theorem locV_of {S who:Nat} (hs:who < S) {g:Gh} {a:LAc} (ha:xD who a) (hl:nU g a.c):tP S a.c:=by
 cases hc:a.c with
 | nd n i=>rw [hc] at hl;exact ⟨hl.1,hl.2.1,hl.2.2.1,hl.2.2.2.1⟩
 | resv s i=>rw [hc] at hl;have:=ha.rs s i hc;subst this;exact ⟨zO,zO,hl.1,hl.2⟩
 | bucket b=>rw [hc] at hl;exact hl
 | _=>trivial
structure O1 (S:Nat) (t:dG) (g:Gh) (a:LAc):Prop where
 err:(pJ (lyW S) a).err t.m.length=0
 lv:tP S a.c
 lo:nU g a.c
section
variable {S who:Nat} {want:List (List Opr)} {t:dG} {sm:Sm} {g:Gh} {q:Nat->Sq} {x:fZ} {ops:List Opr} {op:Opr}
theorem sP.lt (W:sP S want t sm g q) (hs:who < S):∃ x ops,t.aM[who]? =some x/\want[who]? =some ops:=by
 have h1:=W.sl;have h2:=W.wk.wl;exact ⟨_,_,aO zO,aO zO⟩
theorem th_eq (S:Nat):(2 * (lyW S).c.aM:Int)=((2 * S:Nat):Int):=by show 2 * (S:Int)=_;omega
theorem sP.run (W:sP S want t sm g q) (hx:t.aM[who]? =some x):qB (2 * (lyW S).c.aM) (lyW S).c.buckets who op (gz op x.gone) x.log=anP who op.a (pz S op x):=by
 rw [th_eq];exact AF _ _ _ _ _ _
theorem sP.xp (W:sP S want t sm g q) (hx:t.aM[who]? =some x) (ho:want[who]? =some ops) (hp:ops[x.pos]? =some op) (hN:t.events.length+1<=200000000):
  zH op/\
  ((∃ y,pz S op x= .go y/\(q who).cur=some (.go y)/\O1 S t g (y.acc who op.a)/\y.rho sm g<=1400/\(ff (lyW S) want who t).2=false/\∃ x' sm' g' q',sP S want (ff (lyW S) want who t).1 sm' g' q'/\
    (ff (lyW S) want who t).1.aM[who]? =some x'/\x'.pos=x.pos/\x'.made=x.made+1/\(pz S op x').rho sm' g'+1<=y.rho sm g)\/
   (∃ o,pz S op x= .out o/\x.log≠[]/\o.gone.length<=6/\(ff (lyW S) want who t).2=true/\∃ x' q',sP S want (ff (lyW S) want who t).1 sm g q'/\
    (ff (lyW S) want who t).1.aM[who]? =some x'/\x'.pos=x.pos+1/\x'.made=x.made)):=by
 have dN:=(a8.1 hp).1;have R:=W.sr who x ops hx ho;have hS:=W.wk.S1;have om:who < S:=by have:=(a8.1 hx).1;rw [W.sl] at this;exact this
 have hopk:zH op:=(W.wk.w3 ops (bX ho)).2 op (bX hp);have ja:(q who).cur=some (pz S op x):=by rw [R.cur,hp];rfl
 have hpd:ops[(q who).done]? =some op:=by rw [R.done];exact hp
 refine ⟨hopk,?_⟩;have I9:=W.run (op:=op) hx;obtain ⟨op',e1,qN⟩:=W.wk.go ho (by rw [R.done];exact dN)
 rw [ja] at qN;rcases qN with ⟨y,hy⟩ | ⟨o,hy⟩
 ·left
  have I6:pz S op x= .go y:=by injection hy
  have hq:(q who).cur=some (.go y):=ja.trans (by rw [I6])
  have tR:ff (lyW S) want who t=(tN (lyW S) who x (y.acc who op.a) t,false):=by
   unfold ff;rw [hx,ho];simp only [hp];rw [I9,I6];rfl
  have hpo:POk who sm g op y:=by
   have h1:=W.wk.sq who ops ho;unfold uF at h1;rw [hq] at h1;obtain ⟨op2,e1,e2⟩:=h1;rw [hpd] at e1;injection e1 with e1;rw [e1];exact e2
  have hac:=Ph.pK hopk W.wk.gl hpo (R.eb _ hq);obtain ⟨k1,k2,k3,k4,k5⟩:=W.wk.step ho hpd hq hN;have hlv:=locV_of om hac k2;obtain ⟨m1,m2,m3,m4⟩:=W.mr.step hS.1 hS.2 hac hlv hN;refine ⟨y,I6,hq,⟨m1,hlv,k2⟩,Ph.IH _ _ _,by rw [tR],?_⟩
  rw [tR];have hel:(tN (lyW S) who x (y.acc who op.a) t).events.length=t.events.length+1:=by simp [tN]
  refine ⟨_,_,_,_,⟨by rw [hel];exact k1,by rw [hel];exact m3,by simp [tN,W.sl],?_⟩,List.getElem?_set_self (a8.1 hx).1,rfl,rfl,?_⟩
  ·intro s x' xr fa oq;rw [hel];simp only [tN] at fa
   by_cases e:s=who
   ·subst e;rw [ho] at oq;injection oq with oq;subst oq
    rw [List.getElem?_set_self (a8.1 hx).1] at fa;injection fa with fa;subst fa
    rw [eV];refine ⟨R.done,R.gone,?_,by simp [R.sl],by have:=R.ll;simp;omega,?_,?_,R.gl,?_,by have:=R.md;simp;omega⟩
    ·show some _=(ops[x.pos]?).map _;rw [hp,<- m2];exact congrArg some (zE _ _ _ _ _ _ I6).symm
    ·intro r hr;rcases List.mem_append.1 hr with hr | hr
     ·exact R.big r hr
     ·rw [eN.1 hr,m2];exact m4
    ·intro i hi;rcases List.mem_append.1 hi with hi | hi
     ·have:=R.st i hi;omega
     ·rw [eN.1 hi];omega
    ·intro z hz;injection hz with hz;subst hz
     exact Ph.mh _ _ hopk (R.eb _ hq) m4
   ·rw [List.getElem?_set_ne (fun h=>e h.symm)] at fa
    rw [ib _ _ e];exact (W.sr s x' xr fa oq).more zO
  ·have:pz S op { x with log:=x.log++[KQ (pJ (lyW S) (y.acc who op.a)) t.m],steps:=x.steps++[t.events.length],made:=x.made+1 } =y.stp ((2 * S:Nat):Int) 2 op ((y.acc who op.a).res sm):=by
    rw [<- m2];exact zE _ _ _ _ _ _ I6
   rw [this];exact k3
 ·right
  have I6:pz S op x= .out o:=by injection hy
  have hq:(q who).cur=some (.out o):=ja.trans (by rw [I6])
  have tR:ff (lyW S) want who t=(yY who x op o t,true):=by
   unfold ff;rw [hx,ho];simp only [hp];rw [I9,I6];rfl
  have hpo:vO who sm g op (.out o):=by
   have h1:=W.wk.sq who ops ho;unfold uF at h1;rw [hq] at h1;obtain ⟨op2,e1,e2⟩:=h1;exact e2
  have oe:o.gone.length<=6:=by
   have h1:=(W.wk.bounds who).2.2.2;have h2:=congrArg List.length hpo.2;rw [List.length_map] at h2;omega
  have k1:=W.wk.fin ho hpd hq;refine ⟨o,I6,?_,oe,by rw [tR],?_⟩
  ·intro h;have:gz op x.gone= .out o:=by rw [<- I6];unfold pz;rw [h,nR]
   have h2:=uT op x.gone
   revert this
   unfold gz uU uV C0 qW JW
   (repeat' split) <;> (intro h;cases h)
  ·rw [tR];refine ⟨_,_,⟨k1,W.mr,by simp [yY,W.sl],?_⟩,List.getElem?_set_self (a8.1 hx).1,rfl,rfl⟩
   intro s x' xr fa oq;simp only [yY] at fa;show Cc S xr _ x' t.events.length
   by_cases e:s=who
   ·subst e;rw [ho] at oq;injection oq with oq;subst oq
    rw [List.getElem?_set_self (a8.1 hx).1] at fa;injection fa with fa;subst fa
    rw [eV];refine ⟨by show _+1=_;rw [R.done],rfl,?_,rfl,aY _,(by intro r hr;cases hr),(by intro r hr;cases hr),oe,?_,R.md⟩
    ·show jE ops _ _=_;unfold jE;rw [R.done]
     congr 1;funext op;exact (nR _ _ _ _).symm
    ·intro z hz
     revert hz
     show jE ops _ _=some z->_;unfold jE;rw [Option.map_eq_some_iff];rintro ⟨op3,-,rfl⟩;exact uT _ _
   ·rw [List.getElem?_set_ne (fun h=>e h.symm)] at fa
    rw [ib _ _ e];exact W.sr s x' xr fa oq
theorem tq (hx:t.aM[who]? =some x) (ho:want[who]? =some ops) (hp:ops[x.pos]? =none) (l:Ly):ff l want who t=(t,false):=by
 unfold ff;rw [hx,ho];simp only [hp]
end
def stW (c:Loc) (v:Int):LAc:=⟨2,c,0,v⟩
def initW:List LAc:=
 [stW (.nd 1 0) 0,stW (.nd 1 1) 0,stW (.nd 1 2) 0,stW (.nd 1 6) 1,stW .msize 1,stW .mcount 0,stW (.bucket 0) (dS 1 false 0)]++
 (xF 6).map (fun (i:Nat)=>stW (.nd 2 (i:Int)) 0)++[stW .head (dS 2 false 0),stW .tail (dS 2 false 0)]++
 (xF 38).map (fun (i:Nat)=>stW (.nd ((i:Int)+3) 7) (if i=37 then 0 else (i:Int)+4))++[stW .free (dS 3 false 0),stW .era 1]
def m0 (S:Nat):List Int:=initW.foldl (fun m a=>(pJ (lyW S) a).make m) (List.replicate (336+12 * S) 0)
def sm0:Sm
 | .era=>1
 | .free=>dS 3 false 0
 | .msize=>1
 | .bucket b=>if b=0 then a9 1 else 0
 | .head=>dS 2 false 0
 | .tail=>dS 2 false 0
 | .nd n i=>if i=7 then (if 3<=n/\n < 40 then n+1 else 0) else if n=1/\i=6 then 1 else 0
 | _=>0
def yX:List Int:=(xF 38).map fun (i:Nat)=>(i:Int)+3
def g0:Gh where
 st:=fun n=>if n=1 then .li else if n=2 then .sg else .fr
 fl:=yX
 fc:=0
 ls:=[1]
 sk:=[]
 sg:=[2]
 dd:=fun _=>[]
 dl:=0
 ds:=0
 n:=0
 tk:=0
theorem st0 (n:Int):g0.st n=if n=1 then .li else if n=2 then .sg else .fr:=rfl
theorem Mx {n:Int}:g0.st n= .fr ↔ n≠1/\n≠2:=by
 rw [st0];(repeat' split) <;> simp_all
theorem st0_li {n:Int}:g0.st n= .li ↔ n=1:=by
 rw [st0];(repeat' split) <;> simp_all
theorem st0_sg {n:Int}:g0.st n= .sg ↔ n=2:=by
 rw [st0];(repeat' split) <;> simp_all
theorem My {n:Int}:(g0.st n).isL=true ↔ n=1:=by
 rw [st0];(repeat' split) <;> simp_all [Pl.isL]
theorem st0_S (n:Int):(g0.st n).isS=false:=by
 rw [st0];(repeat' split) <;> rfl
theorem st0_ow (n:Int) (s:Nat):g0.st n≠ .ow s:=by
 rw [st0];(repeat' split) <;> simp
theorem Lp (n:Int):n∈yX ↔ 3<=n/\n<=40:=by
 unfold yX;rw [List.mem_map]
 constructor
 ·rintro ⟨i,hi,rfl⟩;have:=List.mem_range.1 hi;omega
 ·rintro ⟨a,b⟩;exact ⟨(n - 3).toNat,List.mem_range.2 zO,zO⟩
theorem Lz:Chn (fun n=>sm0 (.nd n 7)) yX:=by
 have:∀ k:Nat,k<=37->Chn (fun n=>sm0 (.nd n 7)) ((List.range' (37 - k) (k+1)).map fun (i:Nat)=>(i:Int)+3):=by
  intro k
  induction k with
  | zero=>intro _;show sm0 (.nd ((37:Nat)+3) 7)=0;decide
  | succ k ih=>
   intro hk;have:=ih zO;rw [List.range'_succ,List.map_cons,show 37 - (k+1)+1=37 - k by omega]
   refine this.cons ?_;rw [List.range'_succ,List.map_cons,List.headD_cons];show sm0 (.nd (((37 - (k+1):Nat):Int)+3) 7)=_;simp only [sm0,if_true];rw [if_pos zO];omega
 have h:=this 37 zO;have e:xF 38=List.range' (37 - 37) (37+1):=zD;unfold yX;rw [e];exact h
theorem gl0:Gl sm0 g0:=by
 constructor
 ·intro n h;have:¬ (n≠1/\n≠2):=fun k=>h (Mx.2 k);omega
 ·decide
 ·exact Lz
 ·intro n;show n∈yX ↔ _;rw [Lp,Mx];omega
 ·show yX.Nodup;decide
 ·decide
 ·decide
 ·exact ⟨[],rfl⟩
 ·show idxOf (sm0 (.nd 1 0))=0;decide
 ·intro n;rw [st0_li];show n∈[(1:Int)] ↔ _;simp
 ·show List.Pairwise _ [(1:Int)];simp
 ·intro n h;obtain rfl:=My.1 h;exact ⟨0,zD,zD,.inl zD,.inl rfl⟩
 ·intro n s h;exact absurd h (by rw [st0];(repeat' split) <;> simp)
 ·intro n h;obtain rfl:=My.1 h;intro k;exact absurd k zD
 ·intro n h;obtain rfl:=My.1 h;decide
 ·decide
 ·decide
 ·exact .inl zD
 ·exact .inl zD
 ·exact ⟨0,zD⟩
 ·exact trivial
 ·intro n;constructor
  ·intro h;cases h
  ·intro h;exact absurd h (by rw [st0];(repeat' split) <;> simp)
 ·exact List.nodup_nil
 ·intro n h;rw [st0_S] at h;cases h
 ·exact ⟨0,zD⟩
 ·exact ⟨[],rfl⟩
 ·exact ⟨2,0,zD,zD⟩
 ·show sm0 (.nd 2 0)=0;decide
 ·intro n;rw [st0_sg];show n∈[(2:Int)] ↔ _;simp
 ·show List.Nodup [(2:Int)];decide
 ·intro n h k;exact absurd (eN.1 h) k
 ·intro n h k;obtain rfl:n=2:=eN.1 h;exact absurd zD k
 ·intro n h i a b;obtain rfl:n=2:=eN.1 h;have:i=1\/i=2\/i=3\/i=4\/i=5:=zO;rcases this with rfl | rfl | rfl | rfl | rfl <;> decide
 ·intro s n;constructor
  ·intro h;cases h
  ·intro h;exfalso;revert h;rw [st0];(repeat' split) <;> simp
 ·intro s;exact List.nodup_nil
 ·intro s;exact aY _
 ·decide
def e0 (S k:Nat):Int:=
 if k=2 then 1 else if k=3 then dS 3 false 0 else if k=8+12 * S then 1 else if k=10+12 * S then dS 1 false 0
 else if k=14+12 * S\/k=15+12 * S then dS 2 false 0
 else if 16+12 * S<=k then sm0 (.nd (((k - (16+12 * S)) / 8:Nat)+1) ((k - (16+12 * S)) % 8:Nat)) else 0
theorem Ns {S:Nat} (h1:1<=S) (h3:S<=3):m0 S=(xF (336+12 * S)).map (e0 S):=by
 have:S=1\/S=2\/S=3:=zO;rcases this with rfl | rfl | rfl <;> decide+kernel
attribute [irreducible] m0
theorem e0_loc {S:Nat} (h1:1<=S) (h3:S<=3) {c:Loc} (hc:tP S c):e0 S (lU S c).toNat=sm0 c:=by
 cases c with
 | nd n i=>
  obtain ⟨a,b,d,e⟩:=hc;obtain ⟨k,hk⟩:∃ k:Nat,n=k+1:=⟨(n - 1).toNat,zO⟩;obtain ⟨j,rfl⟩:∃ j:Nat,i=j:=⟨i.toNat,zO⟩;subst hk;have h:(lU S (.nd ((k:Int)+1) j)).toNat=16+12 * S+(k * 8+j):=by simp only [lU];omega
  rw [h];unfold e0;rw [if_neg zO,if_neg zO,if_neg zO,if_neg zO,if_neg zO,if_pos zO];rw [show (16+12 * S+(k * 8+j) - (16+12 * S)) / 8=k by omega,show (16+12 * S+(k * 8+j) - (16+12 * S)) % 8=j by omega]
 | resv s i=>
  obtain ⟨a,b,d,e⟩:=hc;have h:(lU S (.resv s i)).toNat=4+2 * S+(3 * s.toNat+i.toNat):=by simp only [lU];omega
  rw [h];unfold e0;rw [if_neg zO,if_neg zO,if_neg zO,if_neg zO,if_neg zO,if_neg zO];rfl
 | bucket b=>
  have:S=1\/S=2\/S=3:=zO;rcases (show b=0\/b=1 from hc) with rfl | rfl <;> rcases this with rfl | rfl | rfl <;> decide+kernel
 | _=>
  have:S=1\/S=2\/S=3:=zO;rcases this with rfl | rfl | rfl <;> decide+kernel
theorem sm0_big (c:Loc):Big (sm0 c):=by
 unfold sm0;split
 ·exact kd zD zD
 ·exact nQ _ _ _
 ·exact kd zD zD
 ·split
  ·exact nQ _ _ _
  ·exact uC
 ·exact nQ _ _ _
 ·exact nQ _ _ _
 ·split
  ·split
   ·exact kd zO zO
   ·exact uC
  ·split
   ·exact kd zD zD
   ·exact uC
 ·exact uC
theorem mrel0 {S:Nat} (h1:1<=S) (h3:S<=3):Ar S 0 (m0 S) sm0:=by
 refine ⟨by rw [Ns h1 h3];simp,?_,fun c _=>sm0_big c,zD,zD⟩
 intro c hc;have hb:=p8 h1 hc;rw [Ns h1 h3,List.getElem?_map,List.getElem?_range zO];exact congrArg some (e0_loc h1 h3 hc)
def CP:fZ:=⟨0,[],[],[],0⟩
def ni (S:Nat):dG:=⟨m0 S,List.replicate S CP,[],[]⟩
def q0 (want:List (List Opr)) (s:Nat):Sq:=⟨0,match want[s]? with | some ops=>jE ops 0 [] | none=>none,[]⟩
theorem own0 (s:Nat):eJ g0 s 0 0:=fun y=>⟨fun h=>absurd h (st0_ow y s),fun h=>by omega⟩
theorem winv0 {want:List (List Opr)} (h1:1<=want.length) (h3:want.length<=3) (hw:∀ ops∈want,ops.length<=3/\∀ op∈ops,zH op):sP want.length want (ni want.length) sm0 g0 (q0 want):=by
 have ja:∀ s ops,want[s]? =some ops->(q0 want s).cur=(ops[0]?).map fun op=>gz op []:=by
  intro s ops ho;show (match want[s]? with | some ops=>jE ops 0 [] | none=>none)=_
  rw [ho];rfl
 have hmr:Ar want.length (ni want.length).events.length (ni want.length).m sm0:=by
  unfold ni;exact mrel0 h1 h3
 have lg:(ni want.length).aM.length=want.length:=List.length_replicate;refine sP.mk (Wk.mk gl0 ⟨h1,h3⟩ rfl hw ?_ (fun s _=>⟨own0 s,rfl⟩) ?_ ?_ ?_ ?_ ?_) hmr lg ?_
 ·intro s ops ho;unfold uF;rw [ja s ops ho]
  cases hn:ops[0]? with
  | none=>exact ⟨by have:=List.getElem?_eq_none_iff.1 hn;show 0=ops.length;omega,own0 s,rfl⟩
  | some op=>
   obtain ⟨x,hx,hp,-,-⟩:=Az (m:=sm0) (g:=g0) (s:=s) ((hw ops (bX ho)).2 op (bX hn)) (own0 s) (gn:=[]) rfl;exact ⟨op,hn,by show vO s sm0 g0 op (gz op []);rw [hx];exact hp⟩
 ·intro s hs;have:want[s]? =none:=List.getElem?_eq_none_iff.2 hs;unfold Sq.eff Sq.tk q0;rw [this];exact ⟨rfl,rfl⟩
 ·show (0:Nat)<=_;exact aY _
 ·show (0:Nat)<=_;exact aY _
 ·show (0:Nat)<=0;exact az _
 ·show (0:Nat)<=_;exact aY _
 ·intro s x ops hx ho;simp only [ni] at hx;obtain rfl:x=CP:=List.eq_of_mem_replicate (bX hx);refine ⟨rfl,rfl,?_,rfl,aY _,(by intro r hr;cases hr),(by intro r hr;cases hr),aY _,?_,aY _⟩
  ·rw [ja s ops ho];show _=(ops[0]?).map _
   congr 1;funext op;exact (nR _ _ _ _).symm
  ·intro z hz;rw [ja s ops ho,Option.map_eq_some_iff] at hz;obtain ⟨op,-,rfl⟩:=hz;exact uT _ _
end Go.Proofs.YtikdaeddbkopeaaGreatR
namespace Go.Proofs.YtikdaeddbkopeaaGreatR
def iY (stops:List Nat) (who:Nat) (t:dG):Bool:=
 decide (who < 3)&&(decide (stops.getD (min who 2) 0 < 120)&&decide (stops.getD (min who 2) 0<=(t.aM.getD who CP).made))
def fW (l:Ly) (want:List (List Opr)) (stops:List Nat):List Nat->dG->dG
 | [],t=>t
 | u :: r,t=>fW l want stops r (if iY stops (u % want.length) t then t else (ff l want (u % want.length) t).1)
def fL (l:Ly) (want:List (List Opr)) (stops:List Nat) (all:Bool) (who:Nat):Nat->dG->dG
 | 0,t=>t
 | k+1,t=>if (!all&&iY stops who t) then t else
   match ff l want who t with
   | (t',true)=>t'
   | (t',false)=>fL l want stops all who k t'
def nI (l:Ly) (want:List (List Opr)) (stops:List Nat) (all:Bool) (who:Nat) (t:dG):dG:=
 fL l want stops all who 2001 (fL l want stops all who 2001 (fL l want stops all who 2001 t))
def oy (l:Ly) (want:List (List Opr)) (stops:List Nat) (all:Bool) (t:dG):dG:=
 (xF want.length).foldl (fun t who=>nI l want stops all who t) t
def WE (S:Nat) (want:List (List Opr)) (t:dG):Prop:=∃ sm g q,sP S want t sm g q
section
variable {S who:Nat} {want:List (List Opr)} {stops:List Nat} {all:Bool} {t:dG}
theorem ub (l:Ly) (want:List (List Opr)) (who:Nat) (t:dG):(ff l want who t).1.events.length<=t.events.length+1:=by
 unfold ff
 (repeat' split) <;> simp [tN,yY]
theorem CH (l:Ly) (want:List (List Opr)) {who s:Nat} (h:s≠who) (t:dG):(ff l want who t).1.aM[s]? =t.aM[s]?:=by
 unfold ff
 (repeat' split) <;> first | rfl | (simp only [tN,yY];rw [List.getElem?_set_ne (fun e=>h e.symm)])
theorem WE.xp (W:WE S want t) (hs:who < S) (hN:t.events.length+1<=200000000):WE S want (ff (lyW S) want who t).1:=by
 obtain ⟨sm,g,q,W⟩:=W;obtain ⟨x,ops,hx,ho⟩:=W.lt hs
 cases hp:ops[x.pos]? with
 | none=>rw [tq hx ho hp];exact ⟨sm,g,q,W⟩
 | some op=>
  rcases (W.xp hx ho hp hN).2 with ⟨y,-,-,-,-,-,x',sm',g',q',W',-⟩ | ⟨o,-,-,-,-,x',q',W',-⟩
  ·exact ⟨_,_,_,W'⟩
  ·exact ⟨_,_,_,W'⟩
theorem WE.turns (hS:want.length=S) (h1:1<=S):∀ (us:List Nat) (t:dG),WE S want t->t.events.length+us.length<=200000000->WE S want (fW (lyW S) want stops us t)/\(fW (lyW S) want stops us t).events.length<=t.events.length+us.length
 | [],t,W,_=>⟨W,by simp [fW]⟩
 | u :: r,t,W,hN=>by
  simp only [List.length_cons] at hN;have hw:u % want.length < S:=by rw [hS];exact Nat.mod_lt _ h1
  have h2:=ub (lyW S) want (u % want.length) t;unfold fW;split
  ·obtain ⟨a,b⟩:=WE.turns hS h1 r t W zO;exact ⟨a,by simp only [List.length_cons];omega⟩
  ·obtain ⟨a,b⟩:=WE.turns hS h1 r _ (W.xp hw zO) zO;exact ⟨a,by simp only [List.length_cons];omega⟩
theorem pS {s:Nat} (l:Ly) (h:s≠who):∀ (k:Nat) (t:dG),(fL l want stops all who k t).aM[s]? =t.aM[s]?
 | 0,t=>rfl
 | k+1,t=>by
  have h2:=CH l want h t;unfold fL;split
  ·rfl
  ·split
   ·rename_i t' e;rw [e] at h2;exact h2
   ·rename_i t' e;rw [e] at h2;rw [pS l h k t'];exact h2
theorem uW {x:fZ} {ops:List Opr} (hx:t.aM[who]? =some x) (ho:want[who]? =some ops) (hp:ops[x.pos]? =none) (l:Ly):∀ k,fL l want stops all who k t=t
 | 0=>rfl
 | k+1=>by
  unfold fL;rw [tq hx ho hp];split
  ·rfl
  ·exact uW hx ho hp l k
theorem Bj:∀ (k:Nat) {t:dG} {sm:Sm} {g:Gh} {q:Nat->Sq} {x:fZ} {ops:List Opr} {op:Opr},sP S want t sm g q->t.aM[who]? =some x->want[who]? =some ops->ops[x.pos]? =some op->
  (pz S op x).rho sm g+1<=k->t.events.length+k<=200000000->
  WE S want (fL (lyW S) want stops all who k t)/\(fL (lyW S) want stops all who k t).events.length<=t.events.length+k/\
  ∃ x',(fL (lyW S) want stops all who k t).aM[who]? =some x'/\x'.made<=x.made+(pz S op x).rho sm g/\(x'.pos=x.pos+1\/x'.pos=x.pos/\all=false/\iY stops who (fL (lyW S) want stops all who k t)=true)
 | 0,_,_,_,_,_,_,_,_,_,_,_,h,_=>by omega
 | k+1,t,sm,g,q,x,ops,op,W,hx,ho,hp,hk,hN=>by
  unfold fL
  by_cases aG:(!all&&iY stops who t)=true
  ·rw [if_pos aG];simp only [dq,Bool.not_eq_true'] at aG;exact ⟨⟨_,_,_,W⟩,zO,x,hx,zO,.inr ⟨rfl,aG⟩⟩
  ·rw [if_neg aG];have N9:=ub (lyW S) want who t;rcases (W.xp hx ho hp zO).2 with ⟨y,hy,-,-,-,hf,x',sm',g',q',W',AW,e1,e2,e3⟩ | ⟨o,hy,-,-,hf,x',q',W',AW,e1,e2⟩
   ·rw [hy] at hk ⊢;obtain ⟨t',ht'⟩:∃ t',ff (lyW S) want who t=(t',false):=⟨_,Prod.ext rfl hf⟩;rw [ht'] at W' AW N9 ⊢;have qL:y.rho sm g+1<=k+1:=hk;have W2:sP S want t' sm' g' q':=W';have Dm:t'.aM[who]? =some x':=AW;have hev2:t'.events.length<=t.events.length+1:=N9;obtain ⟨a,b,x2,c1,c2,c3⟩:=Bj k W2 Dm ho (by rw [e1];exact hp) zO zO
    refine ⟨a,by simp only [] at N9 b ⊢;omega,x2,c1,by show _<=_+y.rho sm g;omega,?_⟩
    rw [<- e1];exact c3
   ·obtain ⟨t',ht'⟩:∃ t',ff (lyW S) want who t=(t',true):=⟨_,Prod.ext rfl hf⟩;rw [ht'] at W' AW N9 ⊢;exact ⟨⟨_,_,_,W'⟩,by simp only [] at N9 ⊢;omega,x',AW,zO,.inl e1⟩
end
def tQ (want:List (List Opr)) (stops:List Nat) (all:Bool) (who:Nat) (t:dG):Prop:=
 (∃ x ops,t.aM[who]? =some x/\want[who]? =some ops/\x.pos=ops.length)\/(all=false/\iY stops who t=true)
theorem Bi {stops:List Nat} {who:Nat} {t t':dG} (h:t'.aM[who]? =t.aM[who]?):iY stops who t'=iY stops who t:=by
 unfold iY;rw [List.getD_eq_getElem?_getD,List.getD_eq_getElem?_getD,List.getD_eq_getElem?_getD,h]
theorem tQ.congr {want:List (List Opr)} {stops:List Nat} {all:Bool} {who:Nat} {t t':dG} (h:t'.aM[who]? =t.aM[who]?) (F:tQ want stops all who t):tQ want stops all who t':=by
 rcases F with ⟨x,ops,a,b,c⟩ | ⟨a,b⟩
 ·exact .inl ⟨x,ops,h.trans a,b,c⟩
 ·exact .inr ⟨a,(Bi h).trans b⟩
section
variable {S who:Nat} {want:List (List Opr)} {stops:List Nat} {all:Bool} {t:dG}
theorem sP.IM {sm:Sm} {g:Gh} {q:Nat->Sq} (W:sP S want t sm g q) {x:fZ} {ops:List Opr} (hx:t.aM[who]? =some x) (ho:want[who]? =some ops):x.pos<=ops.length/\ops.length<=3:=by
 refine ⟨?_,(W.wk.w3 ops (bX ho)).1⟩;have R:=W.sr who x ops hx ho;have h1:=W.wk.sq who ops ho;unfold uF at h1;rw [R.cur] at h1
 cases hp:ops[x.pos]? with
 | none=>rw [hp] at h1;have:=h1.1;rw [R.done] at this;omega
 | some op=>have:=(a8.1 hp).1;omega
theorem tQ.Iz (F:tQ want stops all who t) (l:Ly):∀ k,fL l want stops all who k t=t:=by
 intro k;rcases F with ⟨x,ops,a,b,c⟩ | ⟨a,b⟩
 ·exact uW a b (List.getElem?_eq_none_iff.2 zO) l k
 ·cases k with
  | zero=>rfl
  | succ k=>unfold fL;rw [if_pos (by simp [a,b])]
theorem WE.Iz (W:WE S want t) (hs:who < S) (hN:t.events.length+2001<=200000000):
  WE S want (fL (lyW S) want stops all who 2001 t)/\(fL (lyW S) want stops all who 2001 t).events.length<=t.events.length+2001/\
  ∀ x,t.aM[who]? =some x->tQ want stops all who (fL (lyW S) want stops all who 2001 t)\/∃ x',(fL (lyW S) want stops all who 2001 t).aM[who]? =some x'/\x'.pos=x.pos+1:=by
 obtain ⟨sm,g,q,W⟩:=W;obtain ⟨x,ops,hx,ho⟩:=W.lt hs;have lH:=W.IM hx ho
 cases hp:ops[x.pos]? with
 | none=>
  rw [uW hx ho hp];exact ⟨⟨sm,g,q,W⟩,zO,fun y hy=>.inl (.inl ⟨x,ops,hx,ho,by have:=List.getElem?_eq_none_iff.1 hp;omega⟩)⟩
 | some op=>
  have hr:(pz S op x).rho sm g<=1400:=by
   cases h:pz S op x with
   | go y=>exact Ph.IH _ _ _
   | _=>exact aY _
  obtain ⟨a,b,x',c1,-,c3⟩:=Bj (stops:=stops) (all:=all) 2001 W hx ho hp zO hN;refine ⟨a,b,fun y hy=>?_⟩
  rw [hx] at hy;injection hy with hy;subst hy
  rcases c3 with e | ⟨-,e⟩
  ·exact .inr ⟨x',c1,e⟩
  ·exact .inl (.inr e)
theorem WE.zX (W:WE S want t) (hs:who < S) (hN:t.events.length+6003<=200000000):
  WE S want (nI (lyW S) want stops all who t)/\(nI (lyW S) want stops all who t).events.length<=t.events.length+6003/\
  tQ want stops all who (nI (lyW S) want stops all who t)/\∀ s,s≠who->(nI (lyW S) want stops all who t).aM[s]? =t.aM[s]?:=by
 obtain ⟨t1,h1⟩:∃ t1,fL (lyW S) want stops all who 2001 t=t1:=⟨_,rfl⟩;obtain ⟨t2,h2⟩:∃ t2,fL (lyW S) want stops all who 2001 t1=t2:=⟨_,rfl⟩;obtain ⟨t3,h3⟩:∃ t3,fL (lyW S) want stops all who 2001 t2=t3:=⟨_,rfl⟩;have ht:nI (lyW S) want stops all who t=t3:=by unfold nI;rw [h1,h2,h3]
 rw [ht];have o1:∀ s,s≠who->t1.aM[s]? =t.aM[s]?:=fun s hs=>h1 ▸ pS _ hs _ _
 have o2:∀ s,s≠who->t2.aM[s]? =t1.aM[s]?:=fun s hs=>h2 ▸ pS _ hs _ _
 have o3:∀ s,s≠who->t3.aM[s]? =t2.aM[s]?:=fun s hs=>h3 ▸ pS _ hs _ _
 obtain ⟨a1,b1,c1⟩:=WE.Iz (stops:=stops) (all:=all) W hs zO;rw [h1] at a1 b1 c1;obtain ⟨a2,b2,c2⟩:=WE.Iz (stops:=stops) (all:=all) a1 hs zO;rw [h2] at a2 b2 c2;obtain ⟨a3,b3,c3⟩:=WE.Iz (stops:=stops) (all:=all) a2 hs zO;rw [h3] at a3 b3 c3;refine ⟨a3,zO,?_,fun s hs=>(o3 s hs).trans ((o2 s hs).trans (o1 s hs))⟩
 have f12:tQ want stops all who t1->tQ want stops all who t2:=fun F=>by rw [<- h2,F.Iz];exact F
 have f23:tQ want stops all who t2->tQ want stops all who t3:=fun F=>by rw [<- h3,F.Iz];exact F
 obtain ⟨sm,g,q,W0⟩:=W;obtain ⟨x,ops,hx,ho⟩:=W0.lt hs;rcases c1 x hx with F | ⟨x1,e1,p1⟩
 ·exact f23 (f12 F)
 ·rcases c2 x1 e1 with F | ⟨x2,e2,p2⟩
  ·exact f23 F
  ·rcases c3 x2 e2 with F | ⟨x3,e3,p3⟩
   ·exact F
   ·obtain ⟨_,_,_,W3⟩:=a3;have:=W3.IM e3 ho;exact .inl ⟨x3,ops,e3,ho,zO⟩
theorem WE.aM (h3:S<=3) (k:Nat):∀ (n:Nat) (t:dG),n+k=S->WE S want t->t.events.length+k * 6003<=200000000->(∀ s,s < n->tQ want stops all s t)->
  WE S want ((List.range' n k).foldl (fun t who=>nI (lyW S) want stops all who t) t)/\((List.range' n k).foldl (fun t who=>nI (lyW S) want stops all who t) t).events.length<=t.events.length+k * 6003/\
  ∀ s,s < S->tQ want stops all s ((List.range' n k).foldl (fun t who=>nI (lyW S) want stops all who t) t):=by
 induction k with
 | zero=>intro n t hn W _ F;exact ⟨W,zS,fun s hs=>F s zO⟩
 | succ k ih=>
  intro n t hn W hN F;obtain ⟨a,b,c,d⟩:=WE.zX (stops:=stops) (all:=all) W (who:=n) zO zO;obtain ⟨a2,b2,c2⟩:=ih (n+1) _ zO a zO (by
   intro s hs
   by_cases e:s=n
   ·subst e;exact c
   ·exact (F s zO).congr (d s e))
  rw [List.range'_succ,List.foldl_cons];exact ⟨a2,zO,c2⟩
theorem WE.rest (hS:want.length=S) (h3:S<=3) (W:WE S want t) (hN:t.events.length+18009<=200000000):
  WE S want (oy (lyW S) want stops all t)/\(oy (lyW S) want stops all t).events.length<=t.events.length+18009/\∀ s,s < S->tQ want stops all s (oy (lyW S) want stops all t):=by
 unfold oy;rw [hS,List.range_eq_range'];obtain ⟨a,b,c⟩:=WE.aM (stops:=stops) (all:=all) h3 S 0 t zO W zO (by intro s hs;omega)
 exact ⟨a,zO,c⟩
end
def sR:List (List Opr):=[[⟨2,0,5,9⟩,⟨4,0,3,0⟩,⟨6,0,4,0⟩],[⟨4,0,8,0⟩]]
def ye:List Nat:=[255,6,0]
def tA1:dG:=fW (lyW 2) sR ye [1,1,1,1,1,1,1,1] (ni 2)
def tA2:dG:=oy (lyW 2) sR ye false tA1
theorem Ay:tA2.calls.length=3:=by decide+kernel
def tA3:dG:=oy (lyW 2) sR ye true tA2
theorem KF:tA3.calls.length=4:=by decide+kernel
end Go.Proofs.YtikdaeddbkopeaaGreatR
namespace Go.Proofs.YtikdaeddbkopeaaGreatR
open Go.RowKit
def rK (w w':World):Prop:=∀ (g:Nat) (cs:Array Value) (t:bR) (fr:Nat × Nat),w.heap[g]? =some (ag cs t fr)->(t=75\/t=3\/t=52)->w'.heap[g]? =some (ag cs t fr)
section
variable {w w':World}
theorem eU.r {t0:bR} (h:eU t0 w w') (n1:t0≠75) (n2:t0≠3) (n3:t0≠52):rK w w':=fun g cs t fr hg ht=>h g cs t fr hg (by
 rcases ht with rfl | rfl | rfl
 ·exact fun e=>n1 e.symm
 ·exact fun e=>n2 e.symm
 ·exact fun e=>n3 e.symm)
theorem Dd (hb:Below w.heap.size w w'):rK w w':=fun g cs t fr hg _=>(hb.block g (bE.1 hg).1).trans hg
theorem rK.trans {w2:World} (h:rK w w') (h':rK w' w2):rK w w2:=fun g cs t fr hc ht=>h' g cs t fr (h g cs t fr hc ht) ht
theorem mu {base sz n:Nat} {e:bR} {v:Value} {xs:List Value} (h:w.ownsRow base e sz v n xs) (hk:rK w w') (ne:e=75\/e=3\/e=52):w'.ownsRow base e sz v n xs:=by
 rcases h.2 with h1 | ⟨g,cap,cur,h1,h2,h3,h4⟩
 ·exact ⟨h.1,.inl h1⟩
 ·exact ⟨h.1,.inr ⟨g,cap,cur,h1,h2,hk g cur e (0,0) h3 ne,h4⟩⟩
theorem bN.sV {v:Value} {g:cG} (h:bN w v g) (hk:rK w w'):bN w' v g:=by
 obtain ⟨G,c,h1,h2,h3⟩:=h;refine ⟨G,c,h1,h2,fun hl=>?_⟩
 obtain ⟨b,o,cs,e,ey,Dz,hc⟩:=h3 hl;have hbk':=hk b cs 52 (0,0) Dz (.inr (.inr rfl));have e2:∀ i,w'.cell? ⟨b,i,none⟩=w.cell? ⟨b,i,none⟩:=fun i=>by
  rw [cell_of_row w b i cs 52 (0,0) Dz,cell_of_row w' b i cs 52 (0,0) hbk']
 exact ⟨b,o,cs,e,(bE.1 hbk').1,hbk',fun k r hr=>⟨(e2 _).trans (hc k r hr).1,(e2 _).trans (hc k r hr).2⟩⟩
end
theorem Bt (l:List (Int × Bool)):∀ (k:Nat) (r:Int × Bool),l[k]? =some r->(iu l)[k * 2]? =some (aa ab r.1)/\(iu l)[k * 2+1]? =some (.bool r.2):=by
 induction l with
 | nil=>intro k r h;simp at h
 | cons a l ih=>
  intro k r h;have e:iu (a :: l)=[aa ab a.1,.bool a.2]++iu l:=rfl
  cases k with
  | zero=>simp at h;subst h;simp [e]
  | succ k=>
   obtain ⟨h1,h2⟩:=ih k r (by simpa using h)
   rw [e,show (k+1) * 2=2+k * 2 by omega]
   refine ⟨?_,?_⟩
   ·rw [List.getElem?_append_right zS];simpa using h1
   ·rw [show 2+k * 2+1=2+(k * 2+1) by omega,List.getElem?_append_right zS];simpa using h2
theorem KU {w:World} {base cap:Nat} {G:Option Addr} {log:Log} (h:lS w base (.slice G log.length cap) log):hH w w.heap.size G log:=by
 intro hl;obtain ⟨hl1,hs⟩:=Src.own h (az w.heap.size);rcases hs with ⟨_,h0,_⟩ | ⟨g,of,rfl,hg,hc⟩
 ·omega
 ·refine ⟨g,of,rfl,hg,fun k r hk=>?_⟩
  obtain ⟨h1,h2⟩:=Bt log k r hk;have q1:=hc _ _ h1;have q2:=hc _ _ h2
  first
   | exact ⟨q1,q2⟩
   | (rw [fV] at q1 q2;exact ⟨q1,q2⟩)
def lq (l:List Nat):List Int:=l.map fun (n:Nat)=>(n:Int)
theorem uS (l:List Nat):(lq l).length=l.length:=List.length_map _
abbrev evC (e:EvW):Array Value:=#[aa ab e.who,aa ab e.who,aa ab e.a.kind,aa ab e.a.cell,aa ab e.a.re,aa ab e.a.new,aa ab e.r.1,.bool e.r.2]
def oH (l:List EvW):List Value:=l.flatMap fun e=>(evC e).toList
theorem BW (l:List EvW) (e:EvW):oH (l++[e])=oH l++(evC e).toList:=by simp [oH]
abbrev jN (c:uH):Array Value:=#[aa ab c.who,aa ab c.op.kind,aa ab c.op.obj,aa ab c.op.a,aa ab c.op.b,aa ab c.val,.bool c.is,aa ab c.first,aa ab c.last,aa ab c.aH]
def kJ (l:List uH):List Value:=l.flatMap fun c=>(jN c).toList
theorem zu (l:List uH) (c:uH):kJ (l++[c])=kJ l++(jN c).toList:=by simp [kJ]
structure Ku (w:World) (cs:Array Value) (k:Nat) (x:fZ):Prop where
 at_:cs[k * 5]? =some (aa ab x.pos)
 log:∃ G c,cs[k * 5+1]? =some (.slice G x.log.length c)/\lS w 0 (.slice G x.log.length c) x.log
 steps:∃ G c,cs[k * 5+2]? =some (.slice G x.steps.length c)/\bd w 0 (.slice G x.steps.length c) (lq x.steps)
 gone:∃ gv,cs[k * 5+3]? =some gv/\bN w gv x.gone
 made:cs[k * 5+4]? =some (aa ab x.made)
structure rF (w:World) (gs:Nat) (ss:List fZ) (cs:Array Value):Prop where
 row:Bk w gs 46 cs
 size:cs.size=ss.length * 5
 at_:∀ k x,ss[k]? =some x->Ku w cs k x
section
variable {w w':World} {gs k:Nat} {cs:Array Value} {x:fZ} {ss:List fZ}
theorem Ku.sV (h:Ku w cs k x) (hk:rK w w'):Ku w' cs k x:=by
 obtain ⟨h1,⟨G,c,h2,h3⟩,⟨G2,c2,h4,h5⟩,⟨gv,h6,h7⟩,h8⟩:=h;exact ⟨h1,⟨G,c,h2,mu h3 hk (.inl rfl)⟩,⟨G2,c2,h4,mu h5 hk (.inr (.inl rfl))⟩,⟨gv,h6,h7.sV hk⟩,h8⟩
theorem rF.kept (h:rF w gs ss cs) (hk:rK w w') (hr:w'.heap[gs]? =w.heap[gs]?):rF w' gs ss cs:=
 ⟨hr.trans h.row,h.size,fun k x hx=>(h.at_ k x hx).sV hk⟩
abbrev ue (cs:Array Value) (who:Nat) (v0 v1 v2 v3 v4:Value):Array Value:=((((cs.setIfInBounds (who * 5) v0).setIfInBounds (who * 5+1) v1).setIfInBounds (who * 5+2) v2).setIfInBounds (who * 5+3) v3).setIfInBounds (who * 5+4) v4
abbrev o7 (w:World) (gs who:Nat) (v0 v1 v2 v3 v4:Value):World:=((((w.setCell ⟨gs,who * 5,none⟩ v0).setCell ⟨gs,who * 5+1,none⟩ v1).setCell ⟨gs,who * 5+2,none⟩ v2).setCell ⟨gs,who * 5+3,none⟩ v3).setCell ⟨gs,who * 5+4,none⟩ v4
theorem IG (h:Bk w gs 46 cs) (who:Nat) (v0 v1 v2 v3 v4:Value):Bk (o7 w gs who v0 v1 v2 v3 v4) gs 46 (ue cs who v0 v1 v2 v3 v4):=
 ((((h.stored _ _).stored _ _).stored _ _).stored _ _).stored _ _
theorem nj (h:Bk w gs 46 cs) (who:Nat) (v0 v1 v2 v3 v4:Value):eU 46 w (o7 w gs who v0 v1 v2 v3 v4):=
 ((((cy h _ _).trans (cy (h.stored _ _) _ _)).trans (cy ((h.stored _ _).stored _ _) _ _)).trans (cy (((h.stored _ _).stored _ _).stored _ _) _ _)).trans (cy ((((h.stored _ _).stored _ _).stored _ _).stored _ _) _ _)
theorem rF.set (h:rF w gs ss cs) {who:Nat} (hw:who < ss.length) {y:fZ} {v0 v1 v2 v3 v4:Value} (e0:v0=aa ab y.pos) (e1:∃ G c,v1= .slice G y.log.length c/\lS w 0 v1 y.log) (e2:∃ G c,v2= .slice G y.steps.length c/\bd w 0 v2 (lq y.steps)) (e3:bN w v3 y.gone) (e4:v4=aa ab y.made):
  rF (o7 w gs who v0 v1 v2 v3 v4) gs (ss.set who y) (ue cs who v0 v1 v2 v3 v4):=by
 have hs:=h.size;have hk:=(nj h.row who v0 v1 v2 v3 v4).r zD zD zD;refine ⟨IG h.row who v0 v1 v2 v3 v4,by simp [hs],fun k x hx=>?_⟩
 have nX:who * 5+4 < cs.size:=zO
 by_cases e:k=who
 ·subst e;rw [List.getElem?_set_self hw] at hx;injection hx with hx
  subst hx;obtain ⟨G,c,e1,o1⟩:=e1;obtain ⟨G2,c2,e2,o2⟩:=e2;subst e0 e1 e2 e4;refine ⟨?_,⟨G,c,?_,mu o1 hk (.inl rfl)⟩,⟨G2,c2,?_,mu o2 hk (.inr (.inl rfl))⟩,⟨v3,?_,e3.sV hk⟩,?_⟩ <;> simp [ue,Array.getElem?_setIfInBounds,hs] <;> omega
 ·rw [List.getElem?_set_ne zO] at hx;obtain ⟨h1,⟨G,c,h2,h3⟩,⟨G2,c2,h4,h5⟩,⟨gv,h6,h7⟩,h8⟩:=(h.at_ k x hx).sV hk;have dF:∀ i,i < 5->(ue cs who v0 v1 v2 v3 v4)[k * 5+i]? =cs[k * 5+i]?:=fun i hi=>by
   simp only [ue];rw [Array.getElem?_setIfInBounds_ne zO,Array.getElem?_setIfInBounds_ne zO,Array.getElem?_setIfInBounds_ne zO,Array.getElem?_setIfInBounds_ne zO,Array.getElem?_setIfInBounds_ne zO]
  exact ⟨(dF 0 zO).trans h1,⟨G,c,(dF 1 zO).trans h2,h3⟩,⟨G2,c2,(dF 2 zO).trans h4,h5⟩,⟨gv,(dF 3 zO).trans h6,h7⟩,(dF 4 zO).trans h8⟩
end
abbrev yd (l:Ly) (mv:Value) (gs S:Nat) (ev cv:Value):Array Value:=#[aa ab l.c.aM,aa ab l.c.nodes,aa ab l.c.buckets,aa ab l.c.slots,aa ab l.c.tasks,aa ab l.c.cells,aa ab l.c.maps,aa ab l.c.stacks,aa ab l.c.chans,aa ab l.done,aa ab l.count,aa ab l.era,aa ab l.free,aa ab l.alive,aa ab l.owner,aa ab l.resv,aa ab l.deque,aa ab l.ring,aa ab l.task,aa ab l.cell,aa ab l.map,aa ab l.stack,aa ab l.chan,aa ab l.node,aa ab l.size,mv,af (some ⟨gs,0,none⟩) S S,ev,cv,ah false,ah false]
theorem tab_lay (l:Ly) (mv:Value) (gs S:Nat) (ev cv:Value):∀ (j:Nat) (v:Value),(lyC l)[j]? =some v->(yd l mv gs S ev cv)[j]? =some v:=by
 have:yd l mv gs S ev cv=lyC l++#[mv,af (some ⟨gs,0,none⟩) S S,ev,cv,ah false,ah false]:=rfl;intro j v h;rw [this,Array.getElem?_append_left (bE.1 h).1];exact h
structure mz (w:World) (B gt gs:Nat) (l:Ly) (mv ev cv:Value) (t:dG):Prop where
 bt:B<=gt
 bs:B<=gs
 tab:Bk w gt 42 (yd l mv gs t.aM.length ev cv)
 aM:∃ cs,rF w gs t.aM cs
 mem:∃ g c,mv=af (some ⟨g,0,none⟩) t.m.length c/\bd w 0 mv t.m
 ev:w.ownsRow B 79 8 ev t.events.length (oH t.events)
 calls:w.ownsRow B 56 10 cv t.calls.length (kJ t.calls)
def lW (w:World) (B gt:Nat) (l:Ly) (t:dG):Prop:=∃ gs mv ev cv,mz w B gt gs l mv ev cv t
section
variable {w w':World} {B gt gs:Nat} {l:Ly} {mv ev cv:Value} {t:dG}
theorem mz.ay (h:mz w B gt gs l mv ev cv t) (hb:Below w.heap.size w w'):mz w' B gt gs l mv ev cv t:=by
 obtain ⟨g,c,e,ho⟩:=h.mem;obtain ⟨cs,hs⟩:=h.aM;exact ⟨h.bt,h.bs,h.tab.ay hb,⟨cs,hs.kept (Dd hb) (hb.block gs hs.row.lt)⟩,⟨g,c,e,bc ho hb⟩,bc h.ev hb,bc h.calls hb⟩
theorem lW.ay (h:lW w B gt l t) (hb:Below w.heap.size w w'):lW w' B gt l t:=by
 obtain ⟨gs,mv,ev,cv,h⟩:=h;exact ⟨gs,mv,ev,cv,h.ay hb⟩
theorem mz.lay (h:mz w B gt gs l mv ev cv t):∀ (j:Nat) (v:Value),(lyC l)[j]? =some v->w.cell? ⟨gt,0+j,none⟩=some v:=fun j v hj=>by
 rw [eE,h.tab.cell j];exact tab_lay l mv gs _ ev cv j v hj
theorem mz.turned {cs':Array Value} {mv' Lr Lt:Value} (h:mz w B gt gs l mv ev cv t) (hk:eU 42 w w') (k:Bk w' gt 42 (yd l mv' gs t.aM.length Lr Lt)) {t':dG} (hs:t'.aM=t.aM)
  (hm:∃ g c,mv'=af (some ⟨g,0,none⟩) t'.m.length c/\bd w 0 mv' t'.m) (he:w.ownsRow B 79 8 Lr t'.events.length (oH t'.events)) (hc:w.ownsRow B 56 10 Lt t'.calls.length (kJ t'.calls)):mz w' B gt gs l mv' Lr Lt t':=by
 obtain ⟨g,c,e,ho⟩:=hm;obtain ⟨cs,iV⟩:=h.aM;refine ⟨h.bt,h.bs,by rw [hs];exact k,⟨cs,by rw [hs];exact iV.kept (hk.r zD zD zD) (by rw [iV.row];exact hk _ _ _ _ iV.row zD)⟩,⟨g,c,e,cz ho hk zD⟩,cz he hk zD,cz hc hk zD⟩
theorem mz.setMem (h:mz w B gt gs l mv ev cv t) {g c:Nat} {m:List Int} (ho:bd w 0 (af (some ⟨g,0,none⟩) m.length c) m):mz (w.setCell ⟨gt,25,none⟩ (af (some ⟨g,0,none⟩) m.length c)) B gt gs l (af (some ⟨g,0,none⟩) m.length c) ev cv { t with m:=m }:=
 h.turned (cs':=#[]) (cy h.tab _ _) (h.tab.stored 25 _) rfl ⟨g,c,rfl,ho⟩ h.ev h.calls
theorem mz.zX (h:mz w B gt gs l mv ev cv t) {who:Nat} (hw:who < t.aM.length) {y:fZ} {v0 v1 v2 v3 v4:Value} (e0:v0=aa ab y.pos) (e1:∃ G c,v1= .slice G y.log.length c/\lS w 0 v1 y.log) (e2:∃ G c,v2= .slice G y.steps.length c/\bd w 0 v2 (lq y.steps)) (e3:bN w v3 y.gone) (e4:v4=aa ab y.made):
  mz (o7 w gs who v0 v1 v2 v3 v4) B gt gs l mv ev cv { t with aM:=t.aM.set who y }:=by
 obtain ⟨cs,hs⟩:=h.aM;have hk:=nj hs.row who v0 v1 v2 v3 v4;obtain ⟨g,c,e,ho⟩:=h.mem;exact ⟨h.bt,h.bs,by rw [List.length_set];exact h.tab.dh hk zD,⟨_,hs.set hw e0 e1 e2 e3 e4⟩,⟨g,c,e,cz ho hk zD⟩,cz h.ev hk zD,cz h.calls hk zD⟩
theorem mz.aside {b i:Nat} {ty:bR} {c:Array Value} (h:mz w B gt gs l mv ev cv t) (kX:Bk w b ty c) (n1:ty≠79) (n2:ty≠56) (n3:ty≠3) (n4:ty≠75) (n5:ty≠52) (ng:gt≠b) (ns:gs≠b) (u:Value):mz (w.setCell ⟨b,i,none⟩ u) B gt gs l mv ev cv t:=by
 obtain ⟨g,cp,h1,h2⟩:=h.mem;obtain ⟨cs,h3⟩:=h.aM;have hk:=cy kX i u;exact ⟨h.bt,h.bs,(pM w ⟨b,i,none⟩ u gt ng).trans h.tab,⟨cs,h3.kept (hk.r n4 n3 n5) (pM w ⟨b,i,none⟩ u gs ns)⟩,⟨g,cp,h1,cz h2 hk (fun e=>n3 e.symm)⟩,cz h.ev hk (fun e=>n1 e.symm),cz h.calls hk (fun e=>n2 e.symm)⟩
theorem mz.grownE (h:mz w B gt gs l mv ev cv t) (hg:w.grownBy w' ev.ownBlock) {Lr:Value} {es:List EvW} (ho:w'.ownsRow B 79 8 Lr es.length (oH es)):mz (w'.setCell ⟨gt,27,none⟩ Lr) B gt gs l mv Lr cv { t with events:=es }:=by
 have hk:=cI h.ev hg;obtain ⟨g,c,e,hm⟩:=h.mem;obtain ⟨cs,h3⟩:=h.aM;have kt:=h.tab.dh hk zD;have nY:=cy kt 27 Lr;refine ⟨h.bt,h.bs,kt.stored 27 _,⟨cs,h3.kept ((hk.r zD zD zD).trans (nY.r zD zD zD)) ?_⟩,⟨g,c,e,cz (cz hm hk zD) nY zD⟩,cz ho nY zD,cz (cz h.calls hk zD) nY zD⟩;rw [h3.row];exact nY _ _ _ _ (hk _ _ _ _ h3.row zD) zD
theorem mz.grownC (h:mz w B gt gs l mv ev cv t) (hg:w.grownBy w' cv.ownBlock) {Lt:Value} {es:List uH} (ho:w'.ownsRow B 56 10 Lt es.length (kJ es)):mz (w'.setCell ⟨gt,28,none⟩ Lt) B gt gs l mv ev Lt { t with calls:=es }:=by
 have hk:=cI h.calls hg;obtain ⟨g,c,e,hm⟩:=h.mem;obtain ⟨cs,h3⟩:=h.aM;have kt:=h.tab.dh hk zD;have nY:=cy kt 28 Lt;refine ⟨h.bt,h.bs,kt.stored 28 _,⟨cs,h3.kept ((hk.r zD zD zD).trans (nY.r zD zD zD)) ?_⟩,⟨g,c,e,cz (cz hm hk zD) nY zD⟩,cz (cz h.ev hk zD) nY zD,cz ho nY zD⟩;rw [h3.row];exact nY _ _ _ _ (hk _ _ _ _ h3.row zD) zD
end
structure jW (B:Nat) (w w':World):Prop where
 below:Below B w w'
 kept:∀ (g:Nat) (cs:Array Value) (ty:bR) (fr:Nat × Nat),w.heap[g]? =some (ag cs ty fr)->(ty≠42/\ty≠46/\ty≠79/\ty≠56)->w'.heap[g]? =some (ag cs ty fr)
section
variable {w w':World} {B gt gs:Nat}
theorem jW.refl (B:Nat) (w:World):jW B w w:=⟨Below.refl _ _,fun _ _ _ _ h _=>h⟩
theorem jW.trans {w2:World} (h:jW B w w') (k:jW B w' w2):jW B w w2:=⟨h.below.trans k.below,fun g cs ty fr hg n=>k.kept g cs ty fr (h.kept g cs ty fr hg n) n⟩
theorem jW.aS (hb:Below w.heap.size w w') (hB:B<=w.heap.size):jW B w w':=⟨hb.mono hB,fun g cs ty fr hg _=>by rw [hb.block g (bE.1 hg).1];exact hg⟩
theorem jW.ui {t0:bR} (hb:Below B w w') (hk:eU t0 w w') (h0:t0=42\/t0=46\/t0=79\/t0=56):jW B w w':=⟨hb,fun g cs ty fr hg n=>hk g cs ty fr hg (by
 rcases h0 with rfl | rfl | rfl | rfl
 ·exact n.1
 ·exact n.2.1
 ·exact n.2.2.1
 ·exact n.2.2.2)⟩
theorem jW.ay {g:Nat} {ty:bR} {cs:Array Value} (h:jW B w w') (k:Bk w g ty cs) (n:ty≠42/\ty≠46/\ty≠79/\ty≠56):Bk w' g ty cs:=h.kept g cs ty (0,0) k n
theorem jW.set {b:Nat} {ty:bR} (hg:B<=b) {cs:Array Value} (k:Bk w b ty cs) (h0:ty=42\/ty=46\/ty=79\/ty=56) (i:Nat) (u:Value):jW B w (w.setCell ⟨b,i,none⟩ u):=.ui ((Below.refl B w).setCell (p:=⟨b,i,none⟩) hg u) (cy k i u) h0
end
def tf (w:World) (B:Nat) (A:Option Addr) (l:List Opr):Prop:=
 0 < l.length->∃ b o,A=some ⟨b,o,none⟩/\b < B/\∀ k op,l[k]? =some op->w.cell? ⟨b,o+k * 4,none⟩=some (aa ab op.kind)/\w.cell? ⟨b,o+k * 4+1,none⟩=some (aa ab op.obj)/\w.cell? ⟨b,o+k * 4+2,none⟩=some (aa ab op.a)/\w.cell? ⟨b,o+k * 4+3,none⟩=some (aa ab op.b)
theorem tf.below {w w':World} {B:Nat} {A:Option Addr} {l:List Opr} (h:tf w B A l) (hb:Below B w w'):tf w' B A l:=by
 intro hl;obtain ⟨b,o,e,ey,hc⟩:=h hl;refine ⟨b,o,e,ey,fun k a ha=>?_⟩
 obtain ⟨h1,h2,h3,h4⟩:=hc k a ha;exact ⟨(hb.cell (p:=⟨b,_,none⟩) ey).trans h1,(hb.cell (p:=⟨b,_,none⟩) ey).trans h2,(hb.cell (p:=⟨b,_,none⟩) ey).trans h3,(hb.cell (p:=⟨b,_,none⟩) ey).trans h4⟩
theorem tf.more {w:World} {B B':Nat} {A:Option Addr} {l:List Opr} (h:tf w B A l) (hB:B<=B'):tf w B' A l:=by
 intro hl;obtain ⟨b,o,e,ey,hc⟩:=h hl;exact ⟨b,o,e,bg ey hB,hc⟩
def mB (w:World) (B:Nat) (A:Option Addr) (l:List (List Opr)):Prop:=
 0 < l.length->∃ b o,A=some ⟨b,o,none⟩/\b < B/\∀ k ops,l[k]? =some ops->∃ A' c,w.cell? ⟨b,o+k,none⟩=some (.slice A' ops.length c)/\tf w B A' ops
theorem mB.below {w w':World} {B:Nat} {A:Option Addr} {l:List (List Opr)} (h:mB w B A l) (hb:Below B w w'):mB w' B A l:=by
 intro hl;obtain ⟨b,o,e,ey,hc⟩:=h hl;refine ⟨b,o,e,ey,fun k a ha=>?_⟩
 obtain ⟨A',c,h1,h2⟩:=hc k a ha;exact ⟨A',c,(hb.cell (p:=⟨b,_,none⟩) ey).trans h1,h2.below hb⟩
theorem mB.more {w:World} {B B':Nat} {A:Option Addr} {l:List (List Opr)} (h:mB w B A l) (hB:B<=B'):mB w B' A l:=by
 intro hl;obtain ⟨b,o,e,ey,hc⟩:=h hl;refine ⟨b,o,e,bg ey hB,fun k a ha=>?_⟩
 obtain ⟨A',c,h1,h2⟩:=hc k a ha;exact ⟨A',c,h1,h2.more hB⟩
def zF (w:World) (B:Nat) (A:Option Addr) (l:List Nat):Prop:=
 0 < l.length->∃ b o,A=some ⟨b,o,none⟩/\b < B/\∀ k t,l[k]? =some t->w.cell? ⟨b,o+k,none⟩=some (.int .u8 (t:Nat))/\t < 256
theorem zF.below {w w':World} {B:Nat} {A:Option Addr} {l:List Nat} (h:zF w B A l) (hb:Below B w w'):zF w' B A l:=by
 intro hl;obtain ⟨b,o,e,ey,hc⟩:=h hl;refine ⟨b,o,e,ey,fun k a ha=>?_⟩
 obtain ⟨h1,h2⟩:=hc k a ha;exact ⟨(hb.cell (p:=⟨b,_,none⟩) ey).trans h1,h2⟩
theorem zF.more {w:World} {B B':Nat} {A:Option Addr} {l:List Nat} (h:zF w B A l) (hB:B<=B'):zF w B' A l:=by
 intro hl;obtain ⟨b,o,e,ey,hc⟩:=h hl;exact ⟨b,o,e,bg ey hB,hc⟩
abbrev cK (A:Option Addr) (n c:Nat) (T:Option Addr) (m d s0 s1 s2:Nat):Array Value:=#[.slice A n c,.slice T m d,.int .u8 s0,.int .u8 s1,.int .u8 s2]
end Go.Proofs.YtikdaeddbkopeaaGreatR
namespace Go.Proofs.YtikdaeddbkopeaaGreatR
open Go.ChangeShapes Go.WideShapes Go.ChangeAt Go.RowKit Go.Joins Go.Deep
section
variable {H:Type} {enc:bR × Value->H} {W:World} {base b0:Nat} {spare:Nat->Bool} {held:Bool} {v:Value} {d:DataW H} {p:List MemPlace}
theorem arr4 {α:Type} {l:List α} {a b c d:α} (hl:l.length=4) (h0:l[0]? =some a) (h1:l[1]? =some b) (h2:l[2]? =some c) (h3:l[3]? =some d):l=[a,b,c,d]:=by
 match l,hl with
 | [x,y,z,u],_=>simp at h0 h1 h2 h3;simp [h0,h1,h2,h3]
theorem M7 {fuel:Nat} {cs:List Value} {x:DataW H × List MemPlace} (hl:cs.length=4) (h:DataW.trod enc aw W b0 spare held fuel 54 cs=some x):∃ o:Opr,cs=[.int .i64 o.kind,.int .i64 o.obj,.int .i64 o.a,.int .i64 o.b]:=by
 obtain ⟨k,h0,_⟩:=xP Tryz.underlying54 zK zK h 0 _ rfl Tryz.underlying3;obtain ⟨c,h1,_⟩:=xP Tryz.underlying54 zK zK h 1 _ rfl Tryz.underlying3;obtain ⟨o,h2,_⟩:=xP Tryz.underlying54 zK zK h 2 _ rfl Tryz.underlying3;obtain ⟨n,h3,_⟩:=xP Tryz.underlying54 zK zK h 3 _ rfl Tryz.underlying3;exact ⟨⟨k,c,o,n⟩,arr4 hl h0 h1 h2 h3⟩
theorem Bz {α:Type} [Inhabited α] {n:Nat} {P:Nat->α->Prop} (h:∀ k,k < n->∃ a,P k a):∃ l:List α,l.length=n/\∀ k a,l[k]? =some a->P k a:=by
 have hex:∀ k,∃ a,k < n->P k a:=fun k=>by
  by_cases hk:k < n
  ·obtain ⟨a,ha⟩:=h k hk;exact ⟨a,fun _=>ha⟩
  ·exact ⟨default,fun hh=>absurd hh hk⟩
 refine ⟨(xF n).map fun k=>Classical.choose (hex k),zS,fun k a ha=>?_⟩
 have Jc:k < n:=by
  have:=(a8.1 ha).1
  simpa using this
 have hspec:=Classical.choose_spec (hex k) Jc;have e:Classical.choose (hex k)=a:=by
  rw [List.getElem?_map,List.getElem?_range Jc] at ha
  simpa using ha
 rwa [e] at hspec
instance:Inhabited Opr:=⟨⟨0,0,0,0⟩⟩
theorem C2 {fuel:Nat} {A:Option Addr} {n cap:Nat} {x:DataW H × List MemPlace} (hf:DataW.trod enc aw W b0 spare held fuel 47 [.slice A n cap]=some x):
  ∃ l:List Opr,l.length=n/\tf W W.heap.size A l:=by
 obtain ⟨_,hs⟩:=uX (sz:=4) Tryz.underlying47 zK zO hf
 by_cases hn:0 < n
 ·obtain ⟨b,o,rfl,hb,hk⟩:=hs hn;obtain ⟨l,hl,hP⟩:=Bz (α:=Opr) (n:=n) (P:=fun k op=>(W.cell? ⟨b,o+k * 4,none⟩=some (.int .i64 op.kind)/\W.cell? ⟨b,o+k * 4+1,none⟩=some (.int .i64 op.obj)/\W.cell? ⟨b,o+k * 4+2,none⟩=some (.int .i64 op.a)/\W.cell? ⟨b,o+k * 4+3,none⟩=some (.int .i64 op.b))/\True) (by
   intro k Jc;obtain ⟨cs,m,y,hl,hc,hr⟩:=hk k Jc;obtain ⟨op,rfl⟩:=M7 hl hr;exact ⟨op,⟨hc 0 zO,hc 1 zO,hc 2 zO,hc 3 zO⟩,trivial⟩)
  exact ⟨l,hl,fun _=>⟨b,o,rfl,hb,fun k op gk=>(hP k op gk).1⟩⟩
 ·obtain rfl:n=0:=zO;exact ⟨[],rfl,fun h=>absurd h zS⟩
theorem zW {fuel:Nat} {A:Option Addr} {n cap:Nat} {x:DataW H × List MemPlace} (hf:DataW.trod enc aw W b0 spare held fuel 22 [.slice A n cap]=some x):
  ∃ l:List (List Opr),l.length=n/\mB W W.heap.size A l:=by
 obtain ⟨_,hs⟩:=uX (sz:=1) Tryz.underlying22 zK zO hf
 by_cases hn:0 < n
 ·obtain ⟨b,o,rfl,hb,hk⟩:=hs hn;obtain ⟨l,hl,hP⟩:=Bz (α:=List Opr) (n:=n) (P:=fun k ops=>(∃ A' c,W.cell? ⟨b,o+k,none⟩=some (.slice A' ops.length c)/\tf W W.heap.size A' ops)/\True) (by
   intro k Jc;obtain ⟨cs,m,y,hl,hc,hr⟩:=hk k Jc;obtain ⟨v,rfl⟩:∃ v,cs=[v]:=by
    match cs,hl with
    | [v],_=>exact ⟨v,rfl⟩
   obtain ⟨A',n',c',rfl⟩:=qV Tryz.underlying47 hr;obtain ⟨ops,h1,h2⟩:=C2 hr;subst h1;have:=hc 0 zO;rw [Nat.mul_one,Nat.add_zero] at this;exact ⟨ops,⟨A',c',this,h2⟩,trivial⟩)
  exact ⟨l,hl,fun _=>⟨b,o,rfl,hb,fun k ops gk=>(hP k ops gk).1⟩⟩
 ·obtain rfl:n=0:=zO;exact ⟨[],rfl,fun h=>absurd h zS⟩
theorem CE {fuel:Nat} {A:Option Addr} {n cap:Nat} {x:DataW H × List MemPlace} (hf:DataW.trod enc aw W b0 spare held fuel 23 [.slice A n cap]=some x):
  ∃ l:List Nat,l.length=n/\zF W W.heap.size A l:=by
 obtain ⟨_,hs⟩:=uX (sz:=1) Tryz.underlying23 zK zO hf
 by_cases hn:0 < n
 ·obtain ⟨b,o,rfl,hb,hk⟩:=hs hn;obtain ⟨l,hl,hP⟩:=Bz (α:=Nat) (n:=n) (P:=fun k t=>W.cell? ⟨b,o+k,none⟩=some (.int .u8 (t:Nat))/\t < 256) (by
   intro k Jc;obtain ⟨cs,m,y,hl,hc,hr⟩:=hk k Jc;obtain ⟨v,rfl⟩:∃ v,cs=[v]:=by
    match cs,hl with
    | [v],_=>exact ⟨v,rfl⟩
   obtain ⟨z,hz,_,hw⟩:=DataW.trod_int Tryz.underlying5 hr;simp at hz;subst hz;have Kb:=bounds_u8 hw;have:=hc 0 zO;rw [Nat.mul_one,Nat.add_zero] at this;refine ⟨z.toNat,?_,zO⟩;rw [this];simp;omega)
  exact ⟨l,hl,fun _=>⟨b,o,rfl,hb,fun k t ht=>hP k t ht⟩⟩
 ·obtain rfl:n=0:=zO;exact ⟨[],rfl,fun h=>absurd h zS⟩
theorem o_u8n {P:Cn} {t:bR} (ht:P.underlying t=some (.int .u8)) (hv:Value.okWide P W .any base t v) (h:DataW.Trod enc P W 0 (fun _=>true) true t v d p):∃ n:Nat,v= .int .u8 (n:Nat)/\n < 256:=by
 obtain ⟨z,rfl,h0,h1⟩:=o_u8 ht hv h;exact ⟨z.toNat,by rw [show ((z.toNat:Nat):Int)=z by omega],zO⟩
theorem arr5 {α:Type} {l:List α} (hl:l.length=5):∃ a b c d e,l=[a,b,c,d,e]:=by
 match l,hl with
 | [a,b,c,d,e],_=>exact ⟨a,b,c,d,e,rfl⟩
theorem J0 (hv:Value.okWide aw W .any base 26 v) (h:DataW.Trod enc aw W 0 (fun _=>true) true 26 v d p):
  ∃ (X:Option Addr) (n c:Nat) (T:Option Addr) (m e s0 s1 s2:Nat) (want:List (List Opr)) (turns:List Nat),v= .agg (cK X n c T m e s0 s1 s2)/\want.length=n/\turns.length=m/\mB W W.heap.size X want/\zF W W.heap.size T turns/\s0 < 256/\s1 < 256/\s2 < 256:=by
 obtain ⟨cs,rfl,nX⟩:=okWide_struct fA hv;obtain ⟨fuel,hf⟩:=h;have hc:Tryz.prog.cellsOf 26=5:=zK;have hcW:Tryz.prog.cellsOf 22=1:=zK;have hcT:Tryz.prog.cellsOf 23=1:=zK;have hcS:Tryz.prog.cellsOf 24=3:=zK;have hcU:Tryz.prog.cellsOf 5=1:=zK;have hf':DataW.trod enc aw W 0 (fun _=>true) true fuel 26 cs.toList=some (d,p):=by simpa [Value.cells] using hf
 obtain ⟨a,b,c0,c1,c2,Em⟩:=arr5 (l:=cs.toList) (by simp [nX,hc])
 rw [Em] at hf';obtain ⟨xs,k,_,_,_,hxl,hg⟩:=DataW.trod_struct fA hf';have hx3:xs.length=3:=hxl;have g0:DataW.trod enc aw W 0 (fun _=>true) true k 22 (([a,b,c0,c1,c2].drop 0).take (Tryz.prog.cellsOf 22))=xs[0]?:=hg 0 _ rfl
 have g1:DataW.trod enc aw W 0 (fun _=>true) true k 23 (([a,b,c0,c1,c2].drop 1).take (Tryz.prog.cellsOf 23))=xs[1]?:=hg 1 _ rfl
 have g2:DataW.trod enc aw W 0 (fun _=>true) true k 24 (([a,b,c0,c1,c2].drop 2).take (Tryz.prog.cellsOf 24))=xs[2]?:=hg 2 _ rfl
 rw [hcW,aO zO] at g0;rw [hcT,aO zO] at g1;rw [hcS,aO zO] at g2;simp only [List.drop_zero,List.drop_succ_cons,List.take_succ_cons,List.take_zero] at g0 g1 g2;obtain ⟨X,n,c,rfl⟩:=qV Tryz.underlying22 g0;obtain ⟨T,m,e,rfl⟩:=qV Tryz.underlying23 g1;obtain ⟨want,a1,a2⟩:=zW g0;obtain ⟨turns,b1,b2⟩:=CE g1;obtain ⟨z0,h0,w0⟩:=B8 Tryz.underlying24 Tryz.underlying5 hcU rfl g2 0 zO;obtain ⟨z1,h1,w1⟩:=B8 Tryz.underlying24 Tryz.underlying5 hcU rfl g2 1 zO;obtain ⟨z2,h2,w2⟩:=B8 Tryz.underlying24 Tryz.underlying5 hcU rfl g2 2 zO;have q0:=bounds_u8 w0;have q1:=bounds_u8 w1;have q2:=bounds_u8 w2;simp at h0 h1 h2;subst h0 h1 h2;obtain ⟨y0,rfl⟩:∃ y:Nat,z0=(y:Int):=⟨z0.toNat,zO⟩;obtain ⟨y1,rfl⟩:∃ y:Nat,z1=(y:Int):=⟨z1.toNat,zO⟩;obtain ⟨y2,rfl⟩:∃ y:Nat,z2=(y:Int):=⟨z2.toNat,zO⟩;refine ⟨X,n,c,T,m,e,y0,y1,y2,want,turns,?_,a1,b1,a2,b2,zO,zO,zO⟩;rw [<- Array.toArray_toList (xs:=cs),Em]
end
end Go.Proofs.YtikdaeddbkopeaaGreatR
namespace Go.Proofs.YtikdaeddbkopeaaGreatR
open Go.RowKit
attribute [local go_sem ↓] aV aW
theorem nH (a:World) (gl n c:Nat) (G:Option Addr) (L:List Acc) (cell v:Int) (w:World) (kL:Bk w gl 102 #[.slice G n c]) (bz:Below a.heap.size a w) (bn:w.ownsRow a.heap.size 67 4 (.slice G n c) n (cq L)) (hB:a.heap.size<=gl) (hn:n<=1000):
  Calls aw 80 #[aa ab cell,aa ab v,ptr gl] w fun e w'=>e=ai (.tuple #[])/\∃ G' c',Bk w' gl 102 #[.slice G' (n+1) c']/\w'.ownsRow a.heap.size 67 4 (.slice G' (n+1) c') (n+1) (cq (L++[⟨2,cell,0,v⟩]))/\Below a.heap.size a w'/\
   ∀ g t cs,Bk w g t cs->t≠67->g≠gl->Bk w' g t cs:=by
 obtain ⟨i0,pP,jG,mw,mI⟩:=xE rE;have q0:=kL.cell 0;simp at q0;have l0:=kL.lt;have ew:=World.ownsRow.alloc bn (ag #[aa ab 2,aa ab cell,aa ab 0,aa ab v] 67);have s9:a.heap.size<=(w.alloc (ag #[aa ab 2,aa ab cell,aa ab 0,aa ab v] 67)).heap.size:=by have:=kL.lt;simp;omega
 have kL1:=kL.alloc (ag #[aa ab 2,aa ab cell,aa ab 0,aa ab v] 67);have qO:=aB bz (ag #[aa ab 2,aa ab cell,aa ab 0,aa ab v] 67);have HO:=ar bn;have HK:=ar kL;clear bn kL;go_enter Tryz.func80,Tryz.ntmps80
 go_wp2_with (at_builtin;go_must (refine cM _ rfl (.tmp 5) (.tmp 9) _ rfl a.heap.size 67 i0 _ 4 32 Tryz.underlying102 pP jG mw mI rfl zO (.slice G n c) n (cq L) rfl ew ⟨w.heap.size,0,none⟩ 1 1 [aa ab 2,aa ab cell,aa ab 0,aa ab v] rfl rfl (rD w _) (by simp [aD]) (by simp only [nu];omega) zO s9 ?_;intro v9 w5 eu hgrow4 _ _;obtain ⟨GA,cA,rfl⟩:=cj eu;have hkt5:=cI ew hgrow4;have kL5:=kL1.dh hkt5 zD;have f5:=kL5.free 0;have l5:=kL5.lt;have c5:=kL5.cell 0;simp at c5))
 have kL6:=kL5.stored 0 (.slice GA (n+1) cA);have J5:=cz eu (cy kL5 0 (.slice GA (n+1) cA)) zD;refine bodyPost_end (dY rfl _ _ _) rfl ⟨rfl,GA,cA,kL6,by rw [eD];exact J5,bK (bY qO ew hgrow4 s9 (az _)) hB _,?_⟩
 intro g t cs k ht hg;exact ((k.alloc _).dh hkt5 ht).other (p:=⟨gl,0,none⟩) hg _
def mj (l:Ly) (m n:Int):List Acc:=[⟨2,nodeAt l n 0,0,0⟩,⟨2,nodeAt l n 1,0,0⟩,⟨2,nodeAt l n 2,0,0⟩,⟨2,nodeAt l n 6,0,1⟩,⟨2,fP l m 0,0,1⟩,⟨2,fP l m 1,0,0⟩,⟨2,dE l m 0,0,dS n false 0⟩]
theorem KI (l:Ly) (m n:Int) (w:World) (f:dU l) (hn:0<=n/\n<=1000) (hm:0<=m/\m<=8):Calls aw 68 #[lyV l,aa ab m,aa ab n] w (uI (mj l m n) w):=by
 have k0:=(Bk.made w 34 (lyC l)).alloc (ag #[af none 0 0] 102);have kL:=Bk.new (w.alloc (ag (lyC l) 34)) (g:=w.heap.size+1) zS 102 #[af none 0 0];have bz:=aB (aB (Below.refl w.heap.size w) (ag (lyC l) 34)) (ag #[af none 0 0] 102);have bn:((w.alloc (ag (lyC l) 34)).alloc (ag #[af none 0 0] 102)).ownsRow w.heap.size 67 4 (af none 0 0) 0 (cq []):=cZ _ _ _ _;have F:=ar f;have HN:=ar (au hn hm);clear f hn hm;go_enter Tryz.func68,Tryz.ntmps68
 go_upto_region 3 with fail
 generalize (w.alloc (ag (lyC l) 34)).alloc (ag #[af none 0 0] 102)=w1 at *;obtain ⟨gl,oe⟩:∃ x,w.heap.size+1=x:=⟨_,rfl⟩;rw [oe] at kL ⊢;have HG:=ar oe;clear oe
 go_wp2_with (refine aL rfl 34 (.tmp 3) rfl w.heap.size rfl 34 (lyC l) (0,0) _ k0 aJ rfl zK ?_)
 (with_reducible refine (dt l n 0 _ F.out (by have:=HN.out;omega)).mono ?_)
 rintro e w2 ⟨rfl,cY⟩;obtain ⟨d0,xc⟩:∃ c,nodeAt l n 0=c:=⟨_,rfl⟩;rw [xc];replace k0:=k0.ay cY;replace kL:=kL.ay cY;replace bn:=bc bn cY;replace bz:=aF bz cY;clear cY
 go_wp2_with fail
 (with_reducible refine (nH w gl 0 _ _ [] d0 0 _ kL bz bn (by have:=HG.out;omega) zD).mono ?_)
 rintro e w2' ⟨rfl,G0,cc0,xM,kF,oQ,qL⟩;replace k0:=qL _ _ _ k0 zD (by have:=HG.out;omega)
 clear kL bn bz qL;have kL:=xM;have bn:=kF;have bz:=oQ;clear xM kF oQ
 go_wp2_with (refine aL rfl 34 (.tmp 3) rfl w.heap.size rfl 34 (lyC l) (0,0) _ k0 aJ rfl zK ?_)
 (with_reducible refine (dt l n 1 _ F.out (by have:=HN.out;omega)).mono ?_)
 rintro e w2 ⟨rfl,cY⟩;obtain ⟨d1,rr⟩:∃ c,nodeAt l n 1=c:=⟨_,rfl⟩;rw [rr];replace k0:=k0.ay cY;replace kL:=kL.ay cY;replace bn:=bc bn cY;replace bz:=aF bz cY;clear cY
 go_wp2_with fail
 (with_reducible refine (nH w gl 1 _ _ ([]++[⟨2,d0,0,0⟩]) d1 0 _ kL bz bn (by have:=HG.out;omega) zD).mono ?_)
 rintro e w2' ⟨rfl,G1,cc1,xM,kF,oQ,qL⟩;replace k0:=qL _ _ _ k0 zD (by have:=HG.out;omega)
 clear kL bn bz qL;have kL:=xM;have bn:=kF;have bz:=oQ;clear xM kF oQ
 go_wp2_with (refine aL rfl 34 (.tmp 3) rfl w.heap.size rfl 34 (lyC l) (0,0) _ k0 aJ rfl zK ?_)
 (with_reducible refine (dt l n 2 _ F.out (by have:=HN.out;omega)).mono ?_)
 rintro e w2 ⟨rfl,cY⟩;obtain ⟨d2,hc2⟩:∃ c,nodeAt l n 2=c:=⟨_,rfl⟩;rw [hc2];replace k0:=k0.ay cY;replace kL:=kL.ay cY;replace bn:=bc bn cY;replace bz:=aF bz cY;clear cY
 go_wp2_with fail
 (with_reducible refine (nH w gl 2 _ _ (([]++[⟨2,d0,0,0⟩])++[⟨2,d1,0,0⟩]) d2 0 _ kL bz bn (by have:=HG.out;omega) zD).mono ?_)
 rintro e w2' ⟨rfl,G2,cc2,xM,kF,oQ,qL⟩;replace k0:=qL _ _ _ k0 zD (by have:=HG.out;omega)
 clear kL bn bz qL;have kL:=xM;have bn:=kF;have bz:=oQ;clear xM kF oQ
 go_wp2_with (refine aL rfl 34 (.tmp 3) rfl w.heap.size rfl 34 (lyC l) (0,0) _ k0 aJ rfl zK ?_)
 (with_reducible refine (dt l n 6 _ F.out (by have:=HN.out;omega)).mono ?_)
 rintro e w2 ⟨rfl,cY⟩;obtain ⟨d3,hc3⟩:∃ c,nodeAt l n 6=c:=⟨_,rfl⟩;rw [hc3];replace k0:=k0.ay cY;replace kL:=kL.ay cY;replace bn:=bc bn cY;replace bz:=aF bz cY;clear cY
 go_wp2_with fail
 (with_reducible refine (nH w gl 3 _ _ ((([]++[⟨2,d0,0,0⟩])++[⟨2,d1,0,0⟩])++[⟨2,d2,0,0⟩]) d3 1 _ kL bz bn (by have:=HG.out;omega) zD).mono ?_)
 rintro e w2' ⟨rfl,G3,cc3,xM,kF,oQ,qL⟩;replace k0:=qL _ _ _ k0 zD (by have:=HG.out;omega)
 clear kL bn bz qL;have kL:=xM;have bn:=kF;have bz:=oQ;clear xM kF oQ
 go_wp2_with (refine aL rfl 34 (.tmp 3) rfl w.heap.size rfl 34 (lyC l) (0,0) _ k0 aJ rfl zK ?_)
 (with_reducible refine (rW l m 0 _ F.out).mono ?_)
 rintro e w2 ⟨rfl,cY⟩;obtain ⟨d4,hc4⟩:∃ c,fP l m 0=c:=⟨_,rfl⟩;rw [hc4];replace k0:=k0.ay cY;replace kL:=kL.ay cY;replace bn:=bc bn cY;replace bz:=aF bz cY;clear cY
 go_wp2_with fail
 (with_reducible refine (nH w gl 4 _ _ (((([]++[⟨2,d0,0,0⟩])++[⟨2,d1,0,0⟩])++[⟨2,d2,0,0⟩])++[⟨2,d3,0,1⟩]) d4 1 _ kL bz bn (by have:=HG.out;omega) zD).mono ?_)
 rintro e w2' ⟨rfl,G4,cc4,xM,kF,oQ,qL⟩;replace k0:=qL _ _ _ k0 zD (by have:=HG.out;omega)
 clear kL bn bz qL;have kL:=xM;have bn:=kF;have bz:=oQ;clear xM kF oQ
 go_wp2_with (refine aL rfl 34 (.tmp 3) rfl w.heap.size rfl 34 (lyC l) (0,0) _ k0 aJ rfl zK ?_)
 (with_reducible refine (rW l m 1 _ F.out).mono ?_)
 rintro e w2 ⟨rfl,cY⟩;obtain ⟨d5,hc5⟩:∃ c,fP l m 1=c:=⟨_,rfl⟩;rw [hc5];replace k0:=k0.ay cY;replace kL:=kL.ay cY;replace bn:=bc bn cY;replace bz:=aF bz cY;clear cY
 go_wp2_with fail
 (with_reducible refine (nH w gl 5 _ _ ((((([]++[⟨2,d0,0,0⟩])++[⟨2,d1,0,0⟩])++[⟨2,d2,0,0⟩])++[⟨2,d3,0,1⟩])++[⟨2,d4,0,1⟩]) d5 0 _ kL bz bn (by have:=HG.out;omega) zD).mono ?_)
 rintro e w2' ⟨rfl,G5,cc5,xM,kF,oQ,qL⟩;replace k0:=qL _ _ _ k0 zD (by have:=HG.out;omega)
 clear kL bn bz qL;have kL:=xM;have bn:=kF;have bz:=oQ;clear xM kF oQ
 go_wp2_with (refine aL rfl 34 (.tmp 3) rfl w.heap.size rfl 34 (lyC l) (0,0) _ k0 aJ rfl zK ?_)
 (with_reducible refine (nP l m 0 _ F.out).mono ?_)
 rintro e w2 ⟨rfl,cY⟩;obtain ⟨d6,hc6⟩:∃ c,dE l m 0=c:=⟨_,rfl⟩;rw [hc6];replace k0:=k0.ay cY;replace kL:=kL.ay cY;replace bn:=bc bn cY;replace bz:=aF bz cY;clear cY
 go_wp2_with fail
 (with_reducible refine (iy n false 0 _).mono ?_)
 rintro e w3 ⟨rfl,cY⟩;replace k0:=k0.ay cY;replace kL:=kL.ay cY;replace bn:=bc bn cY;replace bz:=aF bz cY;clear cY
 go_wp2_with fail
 (with_reducible refine (nH w gl 6 _ _ (((((([]++[⟨2,d0,0,0⟩])++[⟨2,d1,0,0⟩])++[⟨2,d2,0,0⟩])++[⟨2,d3,0,1⟩])++[⟨2,d4,0,1⟩])++[⟨2,d5,0,0⟩]) d6 (dS n false 0) _ kL bz bn (by have:=HG.out;omega) zD).mono ?_)
 rintro e w2' ⟨rfl,G6,cc6,xM,kF,oQ,qL⟩;replace k0:=qL _ _ _ k0 zD (by have:=HG.out;omega)
 clear kL bn bz qL;have kL:=xM;have bn:=kF;have bz:=oQ;clear xM kF oQ;have lg:lX w2' w2'.heap.size G6 (mj l m n):=by
  subst xc rr hc2 hc3 hc4 hc5 hc6;exact rS (n:=7) bn rfl
 have cl:=kL.cell 0;have ll:=kL.lt;simp at cl
 go_wp2_with fail
 go_ret
 exact ⟨G6,cc6,rfl,lg,bz⟩
def qd (l:Ly) (n:Int) (k:Nat):List Acc:=(xF k).map fun (i:Nat)=>⟨2,nodeAt l n i,0,0⟩
theorem DE (l:Ly) (n:Int) (k:Nat):qd l n (k+1)=qd l n k++[⟨2,nodeAt l n (k:Nat),0,0⟩]:=by simp [qd,List.range_succ]
def nN (l:Ly) (c n:Int):List Acc:=qd l n 6++[⟨2,dT l c,0,dS n false 0⟩,⟨2,fB l c,0,dS n false 0⟩]
def GiRel (w:World) (l:Ly) (n:Int) (v7 v20:Value) (wr:World):Prop:=
 ∃ k:Nat,k<=6/\v20=aa ab (k:Nat)/\Below w.heap.size w wr/\Bk wr w.heap.size 34 (lyC l)/\wr.ownsRow w.heap.size 67 4 v7 k (cq (qd l n k))
def giT:Nat->Nat | 3=>38 | 5=>40 | 8=>43 | 10=>45 | _=>46
def giP:Nat->List Nat | 5=>[3] | 10=>[8] | 11=>[5,10] | _=>[]
def giR (l:Ly) (c pk:Int) (i:Nat) (val:Nat->Option Value) (v:Value) (w:World):Prop:=match i with
 | 3=>v=aa ab (dT l c)
 | 5=>v= .agg #[aa ab 2,aa ab (dT l c),aa ab 0,aa ab pk]
 | 8=>v=aa ab (fB l c)
 | 10=>v= .agg #[aa ab 2,aa ab (fB l c),aa ab 0,aa ab pk]
 | 11=>∃ g,v=af (some ⟨g,0,none⟩) 2 2/\Bk w g 67 #[aa ab 2,aa ab (dT l c),aa ab 0,aa ab pk,aa ab 2,aa ab (fB l c),aa ab 0,aa ab pk]
 | _=>True
theorem Of {l:Ly} {c pk:Int} (i:Nat) (val dV:Nat->Option Value) (v:Value) (w1 w2:World) (_:∀ j u,val j=some u->dV j=some u) (hb:Below w1.heap.size w1 w2) (h:giR l c pk i val v w1):giR l c pk i dV v w2:=by
 unfold giR at h ⊢;split at h <;> first | exact h | (obtain ⟨g,h1,h2⟩:=h;exact ⟨g,h1,h2.ay hb⟩)
theorem Ln (l:Ly) (c n:Int) (w:World) (f:dU l) (hn:0<=n/\n<=1000) (h0:0<=dT l c) (h1:0<=nodeAt l n 0):Calls aw 69 #[lyV l,aa ab c,aa ab n] w (uI (nN l c n) w):=by
 have k0:=Bk.made w 34 (lyC l);have bz:=aB (Below.refl w.heap.size w) (ag (lyC l) 34);obtain ⟨i0,pP,jG,mw,mI⟩:=xE rE;have F:=ar f;have HN:=ar hn;clear f hn;go_enter Tryz.func69,Tryz.ntmps69
 go_wp2_with (refine aL rfl 34 (.tmp 3) rfl w.heap.size rfl 34 (lyC l) (0,0) _ k0 aJ rfl zK ?_)
 generalize w.alloc (ag (lyC l) 34)=w1 at *
 (with_reducible refine (uq l c _ F.out).mono ?_)
 rintro e w2 ⟨rfl,cY⟩;obtain ⟨d0,hd0⟩:∃ x,dT l c=x:=⟨_,rfl⟩;rw [hd0] at h0 ⊢;have g0:decide (d0 < 0)=false:=by simp;omega
 replace k0:=k0.ay cY;replace bz:=aF bz cY;clear cY
 go_wp2_with (refine split.ir rfl 34 (.tmp 3) rfl w.heap.size rfl 34 (lyC l) (0,0) _ k0 aJ rfl zK ?_)
 (with_reducible refine (dt l n 0 _ F.out (by have:=HN.out;omega)).mono ?_)
 rintro e w3 ⟨rfl,cY⟩;obtain ⟨d1,oV⟩:∃ x,nodeAt l n 0=x:=⟨_,rfl⟩;rw [oV] at h1 ⊢;have g1:decide (d1 < 0)=false:=by simp;omega
 replace k0:=k0.ay cY;replace bz:=aF bz cY;clear cY
 go_wp2_with fail
 go_loopw [7,20] (fun v7 v20 wr=>GiRel w l n v7 v20 wr) (fun _ v20 _=>6 - (intOf v20).toNat)
 case atStart=>exact ⟨0,zO,rfl,bz,k0,cZ _ _ _ _⟩
 case round=>
  obtain ⟨k,hk,rfl,hb,k1,bn⟩:=hrel
  by_cases dN:k < 6
  ·have g2:decide ((k:Int) < 6)=true:=by simp;omega
   have HO:=ar bn;clear bn g0 g1
   go_wp2_with (refine aL rfl 34 (.tmp 3) rfl w.heap.size rfl 34 (lyC l) (0,0) _ k1 aJ rfl zK ?_)
   (with_reducible refine (dt l n k _ F.out (by have:=HN.out;omega)).mono ?_)
   rintro e w4 ⟨rfl,cY⟩;obtain ⟨d7,hd7⟩:∃ x,nodeAt l n (k:Nat)=x:=⟨_,rfl⟩;rw [hd7];have k2:=(k1.ay cY).alloc (ag #[aa ab 2,aa ab d7,aa ab 0,aa ab 0] 67);have ew:=World.ownsRow.alloc (bc HO.out cY) (ag #[aa ab 2,aa ab d7,aa ab 0,aa ab 0] 67);have jg:=aF hb cY;have jR:=aB jg (ag #[aa ab 2,aa ab d7,aa ab 0,aa ab 0] 67);clear cY hb
   go_wp2_with (at_builtin;go_must (refine cM _ rfl (.tmp 23) (.tmp 29) _ rfl w.heap.size 67 i0 _ 4 32 Tryz.underlying102 pP jG mw mI rfl zO u7 k (cq (qd l n k)) rfl ew ⟨w4.heap.size,0,none⟩ 1 1 [aa ab 2,aa ab d7,aa ab 0,aa ab 0] rfl rfl (rD w4 _) (by simp [aD]) (by simp only [nu];omega) zO (by simp;have:=jg.size;omega) ?_;intro v9 w5 eu hgrow4 _ _))
   have wZ:=cI ew hgrow4;refine ⟨⟨k+1,zO,by go_num,bY jR ew hgrow4 jR.size (az _),k2.dh wZ zD,?_⟩,by simp [intOf];omega⟩
   rw [DE,eD,hd7];exact eu
  ·have g2:decide ((k:Int) < 6)=false:=by simp;omega
   obtain rfl:k=6:=zO;obtain ⟨G,cg,rfl⟩:=cj bn;clear hd0 oV h0 h1 g0 g1;obtain ⟨inf,AY⟩:=D8
   go_wp2_with fail
   (with_reducible refine (iy n false 0 _).mono ?_)
   rintro e w4 ⟨rfl,cY⟩;obtain ⟨pk,hpk⟩:∃ x,dS n false 0=x:=⟨_,rfl⟩;rw [hpk];replace k1:=k1.ay cY;replace bn:=bc bn cY;replace hb:=aF hb cY;clear cY k0 bz g2
   go_upto_region 10 with fail
   refine aP (S:=fun w'=>Bk w' w.heap.size 34 (lyC l)) (E:=fun _=>false) zK ?_
   replace k1:=k1.drew;replace hb:=hb.drew;replace bn:w4.drew.ownsRow w.heap.size 67 4 (.slice G 6 cg) 6 (cq (qd l n 6)):=bn;generalize w4.drew=w5 at *;refine da (i:=0) (oi:=_) (v:=.slice G 6 cg) rfl zK zK zK zK (fun _ _ _ h=>h) (jL ⟨by rfl,?_⟩) k1 ?_
   ·intro w' hSw
    (try simp only [aq,ao,an])
    go_simp
   (try simp only [aq,ao,an,Act.put,aj,ak,al])
   refine da (i:=1) (oi:=_) (v:=.agg (lyC l)) rfl zK zK zK zK (fun _ _ _ h=>h) (jL ⟨by rfl,?_⟩) k1 ?_
   ·intro w' hSw
    (try simp only [aq,ao,an])
    simp only [Av,Instr.loadAt,xG,di,dx,bQ];rw [show (Act.eval _ (Operand.tmp 3))=Value.pointer (some ⟨w.heap.size,0,none⟩) from rfl]
    simp only [Instr.loadAt,xG,di,dx,bQ,be w' w.heap.size 34 34 (lyC l) (0,0) _ hSw aJ rfl zK]
   (try simp only [aq,ao,an,Act.put,aj,ak,al])
   refine da (i:=2) (oi:=_) (v:=aa ab c) rfl zK zK zK zK (fun _ _ _ h=>h) (jL ⟨by rfl,?_⟩) k1 ?_
   ·intro w' hSw
    (try simp only [aq,ao,an])
    go_simp
   (try simp only [aq,ao,an,Act.put,aj,ak,al])
   refine da (i:=4) (oi:=_) (v:=aa ab pk) rfl zK zK zK zK (fun _ _ _ h=>h) (jL ⟨by rfl,?_⟩) k1 ?_
   ·intro w' hSw
    (try simp only [aq,ao,an])
    go_simp
   (try simp only [aq,ao,an,Act.put,aj,ak,al])
   refine da (i:=6) (oi:=_) (v:=.agg (lyC l)) rfl zK zK zK zK (fun _ _ _ h=>h) (jL ⟨by rfl,?_⟩) k1 ?_
   ·intro w' hSw
    (try simp only [aq,ao,an])
    simp only [Av,Instr.loadAt,xG,di,dx,bQ];rw [show (Act.eval _ (Operand.tmp 3))=Value.pointer (some ⟨w.heap.size,0,none⟩) from rfl]
    simp only [Instr.loadAt,xG,di,dx,bQ,be w' w.heap.size 34 34 (lyC l) (0,0) _ hSw aJ rfl zK]
   (try simp only [aq,ao,an,Act.put,aj,ak,al])
   refine da (i:=7) (oi:=_) (v:=aa ab c) rfl zK zK zK zK (fun _ _ _ h=>h) (jL ⟨by rfl,?_⟩) k1 ?_
   ·intro w' hSw
    (try simp only [aq,ao,an])
    go_simp
   (try simp only [aq,ao,an,Act.put,aj,ak,al])
   refine da (i:=9) (oi:=_) (v:=aa ab pk) rfl zK zK zK zK (fun _ _ _ h=>h) (jL ⟨by rfl,?_⟩) k1 ?_
   ·intro w' hSw
    (try simp only [aq,ao,an])
    go_simp
   (try simp only [aq,ao,an,Act.put,aj,ak,al])
   refine gF (U:=[3,5,8,10,11]) (tmp:=giT) (pre:=giP) (R:=giR l c pk) zK (fun _ _=>rfl) (fun w2 h=>k1.ay h) Of (fun i hi=>?_) 2 (fun val w7 bS jc=>?_)
   ·simp only [bD,cB,or_false] at hi;rcases hi with rfl | rfl | rfl | rfl | rfl
    ·refine ⟨_,rfl,fun val w2 K cY cd hK=>?_⟩
     simp only [giP,bq] at hK ⊢;go_simp
     (with_reducible refine (uq l c w2 F.out).mono ?_)
     rintro e w8 ⟨rfl,pQ⟩;exact hK _ _ rfl pQ
    ·refine ⟨_,rfl,fun val w2 K cY cd hK=>?_⟩
     obtain ⟨v,e,rfl⟩:=cd 3 (by simp [giP])
     simp only [giP,bq,e,giT] at hK ⊢;go_simp;exact hK _ _ rfl (Below.refl _ _)
    ·refine ⟨_,rfl,fun val w2 K cY cd hK=>?_⟩
     simp only [giP,bq] at hK ⊢;go_simp
     (with_reducible refine (CL l c w2 F.out).mono ?_)
     rintro e w8 ⟨rfl,pQ⟩;exact hK _ _ rfl pQ
    ·refine ⟨_,rfl,fun val w2 K cY cd hK=>?_⟩
     obtain ⟨v,e,rfl⟩:=cd 8 (by simp [giP])
     simp only [giP,bq,e,giT] at hK ⊢;go_simp;exact hK _ _ rfl (Below.refl _ _)
    ·refine ⟨_,rfl,fun val w2 K cY cd hK=>?_⟩
     obtain ⟨v,e,rfl⟩:=cd 5 (by simp [giP])
     obtain ⟨v,e',rfl⟩:=cd 10 (by simp [giP])
     simp only [giP,bq,e,e',giT] at hK ⊢;go_simp;exact hK _ _ ⟨_,rfl,Bk.made _ _ _⟩ (aB (Below.refl _ _) _)
   obtain ⟨v3,e3,rfl⟩:=bS 3 zS;obtain ⟨v5,e5,rfl⟩:=bS 5 zS;obtain ⟨v8,e8,rfl⟩:=bS 8 zS;obtain ⟨v10,xh,rfl⟩:=bS 10 zS;obtain ⟨v11,Jn,ga,rfl,ha⟩:=bS 11 zS;have qH:Src w7 w7.heap.size 4 (some ⟨ga,0,none⟩) 2 2 [aa ab 2,aa ab (dT l c),aa ab 0,aa ab pk,aa ab 2,aa ab (fB l c),aa ab 0,aa ab pk]:=
    ⟨rfl,.inr ⟨ga,0,rfl,ha.lt,fun j u hu=>by rw [eE,ha.cell j];simpa using hu⟩⟩
   replace k1:=k1.ay jc;have ew:=bc bn jc;have fz:=aF hb jc;simp only [giT,bq,dC,e3,e5,e8,xh,Jn,gQ,if_true];clear bS e3 e5 e8 xh Jn bn hb;refine aE (i:=12) (o:=_) zK rfl (fun K hK=>?_)
   rw [if_pos (by rfl)]
   refine eY AY (.tmp 35) (.tmp 46) rfl w.heap.size (.slice G 6 cg) 6 (cq (qd l n 6)) rfl ew (some ⟨ga,0,none⟩) 2 2 _ rfl qH (by simp [aD]) zO zO fz.size (fun v9 w6 gy de=>?_)
   have Mb:=bY fz ew de fz.size (az _);have wZ:=cI ew de;have k6:=k1.dh wZ zD;refine hK.out _ _ (fun _=>k6) ?_
   clear hK K;obtain ⟨GA,cA,rfl⟩:=cj gy;refine da (i:=13) (oi:=_) (v:=.slice GA (6+2) cA) rfl zK zK zK zK (fun _ _ _ h=>h) (jL ⟨by rfl,?_⟩) k6 ?_
   ·intro w' hSw
    (try simp only [aq,ao,an])
    go_simp
   (try simp only [aq,ao,an,Act.put,aj,ak,al])
   refine aN zK ?_ _;have lg:lX w6 w6.heap.size GA (nN l c n):=by
    refine rS (base:=w.heap.size) (cap:=cA) (n:=8) ?_ rfl;unfold nN;rw [eD,hpk];exact gy
   go_wp2
   go_ret
   exact ⟨GA,cA,rfl,lg,Mb⟩
theorem OI (gm:Nat) (A:Option Addr) (c:Nat) (zs:List Int) (n:Nat) (k:Int) (w:World) (kM:Bk w gm 37 #[.slice A n c]) (hn:zs.length=n) (h:gJ w w.heap.size A zs) (h0:0<=k) (h1:k < n):
  Calls aw 29 #[aa ab k,ptr gm] w (gh (zs.getD k.toNat 0) w):=by
 obtain ⟨j,rfl⟩:∃ j:Nat,k=j:=⟨k.toNat,zO⟩;have g0:decide ((j:Int) < 0)=false:=zS;have g1:decide ((n:Int)<=j)=false:=by simp;omega
 obtain ⟨x,hx⟩:∃ x,zs[j]? =some x:=⟨_,aO zO⟩;have e:zs.getD (j:Int).toNat 0=x:=by simp [hx]
 rw [e];obtain ⟨b,o,hA,ey,hc⟩:=h zO;have q:=hc j x hx;subst hA;have i1:(j:Int) < n:=zO;have q0:=kM.cell 0;simp at q0;clear e hc h hx hn kM;go_enter Tryz.func29,Tryz.ntmps29
 go_wp2
 go_ret
 exact ⟨rfl,Below.refl _ _⟩
def yW (l:Ly) (m:List Int):Int:=m.getD l.free.toNat 0
def BA (l:Ly) (m:List Int) (a:Int):Int:=m.getD (nodeAt l a 7).toNat 0
def lY (k:Int->Int):List Int->Prop
 | []=>True
 | a :: r=>k a=r.headD 0/\lY k r
def toldOf (N:Nat) (L:List Int):Array Value:=((xF (N+1)).map fun (a:Nat)=>Value.bool (decide ((a:Int)∈L))).toArray
theorem lY.drop {f:Int->Int}:∀ {L:List Int},lY f L->∀ k,lY f (L.drop k)
 | _,h,0=>h
 | [],_,_+1=>trivial
 | _ :: _,h,k+1=>lY.drop h.2 k
def lenOf:Value->Nat
 | .slice _ n _=>n
 | _=>0
theorem Mm (N:Nat) (L:List Int) (a:Nat) (h:a<=N):(toldOf N L).setIfInBounds a (ah true)=toldOf N (L++[(a:Int)]):=by
 apply Array.ext
 ·simp [toldOf]
 ·intro i h1 h2;simp [toldOf]
  by_cases e:a=i
  ·subst e;simp
  ·have:¬ ((i:Int)=a):=zO;simp [e,this]
theorem jC {w:World} (v:Value):∀ (j:Nat) (u:Value),[v][j]? =some u->(w.alloc (ag #[v] 3)).cell? ((⟨w.heap.size,0,none⟩:Addr).add j)=some u:=by
 intro j u hu;rw [fV,eE,(Bk.made w 3 #[v]).cell j]
 simpa using hu
def LsRel (w:World) (b0 bM gB N:Nat) (l:Ly) (mc:Array Value) (L:List Int) (v7 v8:Value) (wr:World):Prop:=
 ∃ k:Nat,k<=L.length/\v8=aa ab ((L.drop k).headD 0)/\Below w.heap.size w wr/\Bk wr b0 34 (lyC l)/\Bk wr bM 37 mc/\Bk wr gB 4 (toldOf N (L.take k))/\bd wr w.heap.size v7 (L.take k)
theorem LM:(Tryz.prog.info? 4).map (fun i=>(i.zero,i.size,i.bytes))=some (some (ah false),1,1):=zK
theorem yl (w:World) (N:Nat) (h:N<=1000000):(Instr.makeSlice 85 (aa ab N) (aa ab N)).run aw w= .ok (af (some ⟨w.heap.size,0,none⟩) N N) (w.alloc (ag (madeCells #[ah false] (N * 1)) 4)):=pT Tryz.underlying85 LM w N h zO
theorem Mn (N:Nat):madeCells #[Value.bool false] ((N+1) * 1)=toldOf N []:=by
 apply Array.ext
 ·simp [toldOf,madeCells]
 ·intro i h1 h2;simp [toldOf,madeCells,Nat.mod_one]
theorem Da (l:Ly) (A:Option Addr) (c n:Nat) (zs:List Int) (L:List Int) (w:World) (f:dU l) (w0:1<=l.c.nodes/\l.c.nodes<=40) (h:gJ w w.heap.size A zs) (hn:zs.length=n)
  (rp:0<=l.free/\l.free < n) (gu:∀ a,1<=a/\a<=l.c.nodes->0<=nodeAt l a 7/\nodeAt l a 7 < n) (ot:idxOf (yW l zs)=L.headD 0) (mK:lY (BA l zs) L) (nZ:∀ a∈L,1<=a/\a<=l.c.nodes) (jT:L.Nodup) (Md:L.length<=1000):
  Calls aw 12 #[lyV l,.agg #[.slice A n c]] w fun e w'=>∃ B d,e=ai (.slice B L.length d)/\bd w' w.heap.size (.slice B L.length d) L/\Below w.heap.size w w':=by
 have k0:=(Bk.made w 34 (lyC l)).alloc (ag #[.slice A n c] 37);have kM:=Bk.new (w.alloc (ag (lyC l) 34)) (g:=w.heap.size+1) zS 37 #[.slice A n c];have bz:=aB (aB (Below.refl w.heap.size w) (ag (lyC l) 34)) (ag #[.slice A n c] 37);have F:=ar f;have HS:=ar (au h hn);have HP:=ar (au gu (au ot (au mK (au nZ jT))));have hmax:∀ (w:World) (ts:Array bR) (t:bR),(Builtin.max_ ts t #[aa ab l.c.nodes,aa ab 0]).run aw w= .ok (aa ab l.c.nodes) w:=fun w ts t=>by
  rw [run_max_int2];split <;> first | rfl | (congr 2;omega)
 have HW0:=ar w0;clear h hn gu ot mK nZ jT f w0;go_enter Tryz.func12,Tryz.ntmps12
 go_upto_region 2 with fail
 generalize (w.alloc (ag (lyC l) 34)).alloc (ag #[.slice A n c] 37)=w1 at *;obtain ⟨N,hN⟩:∃ N:Nat,l.c.nodes=N:=⟨l.c.nodes.toNat,by have:=HW0.out;omega⟩
 have hN6:1<=N/\N<=40:=by have:=HW0.out;omega
 have q1:=k0.cell 1;have q12:=k0.cell 12;simp at q1 q12;rw [hN] at q1 hmax;have z0:=k0.lt;have zM:=kM.lt;have HN:=ar hN;clear hN
 go_wp2_with (refine qz rfl _ _ rfl (N+1) _ rfl rfl (yl _ (N+1) zO) ?_)
 have kB:=Bk.made w1 4 (madeCells #[ah false] (N+1));have e0:=Mn N;rw [Nat.mul_one] at e0;rw [e0] at kB
 try rw [e0]
 clear e0;replace k0:=k0.alloc (ag (toldOf N []) 4);replace kM:=kM.alloc (ag (toldOf N []) 4);replace bz:=aB bz (ag (toldOf N []) 4);clear q1 q12 hmax zM;generalize w1.alloc (ag (toldOf N []) 4)=w2 at *;have J9:w.heap.size<=w1.heap.size:=zO;generalize w1.heap.size=gB at *;have nV:Hid (w.heap.size<=gB):=ar J9;clear J9
 (with_reducible refine (OI (w.heap.size+1) A c zs n l.free _ kM HS.out.2 (by have:=HS.out.1.below bz;exact this.more bz.size) rp.1 rp.2).mono ?_)
 rintro e w3 ⟨rfl,hb⟩;rw [show zs.getD l.free.toNat 0=yW l zs from rfl]
 replace k0:=k0.ay hb;replace kM:=kM.ay hb;replace kB:=kB.ay hb;replace bz:=aF bz hb;clear hb;obtain ⟨fw,Cr⟩:∃ x,yW l zs=x:=⟨_,rfl⟩;rw [Cr]
 go_wp2_with fail
 (with_reducible refine (gV fw _).mono ?_)
 rintro e w4 ⟨rfl,hb⟩;replace k0:=k0.ay hb;replace kM:=kM.ay hb;replace kB:=kB.ay hb;replace bz:=aF bz hb;clear hb;have hx:fw % 65536=L.headD 0:=by rw [<- Cr];exact HP.out.2.1
 rw [hx];clear hx Cr;generalize (fw / 65536 % 2==1)=z1;generalize fw / 131072 % 268435456=z2;obtain ⟨hd,uN⟩:∃ x,L.headD 0=x:=⟨_,rfl⟩;rw [uN];have HHD:=ar uN;clear uN;have A6:∀ w:World,(uP 81 (.agg #[aa ab hd,.bool z1,aa ab z2]) 0).run aw w= .ok (aa ab hd) w:=fun w=>by kernel_rfl
 go_wp2_with fail
 clear A6
 go_loopw [7,8] (fun v7 v8 wr=>LsRel w w.heap.size (w.heap.size+1) gB N l #[.slice A n c] L v7 v8 wr) (fun v7 _ _=>L.length - lenOf v7)
 case atStart=>exact ⟨0,aY _,by rw [<- HHD.out];rfl,bz,k0,kM,kB,cZ _ _ _ _⟩
 case round=>
  obtain ⟨k,hk,rfl,hb,k1,pN,kB1,bn⟩:=hrel;clear k0 kM kB bz;obtain ⟨G,cg,rfl⟩:=cj bn;have q1:=k1.cell 1;simp at q1;rw [HN.out] at q1
  by_cases dN:k < L.length
  ·obtain ⟨a,ha⟩:∃ a,L[k]? =some a:=⟨_,aO dN⟩;obtain ⟨gu,ot,mK,nZ,jT⟩:=HP.out;have oV:L.drop k=a :: L.drop (k+1):=r9 ha;have Ke:=nZ a (bX ha);have rl:BA l zs a=(L.drop (k+1)).headD 0:=by
    have:lY (BA l zs) (L.drop k):=mK.drop k;rw [oV] at this;exact this.1
   have yO:¬ a∈L.take k:=by
    intro hm;obtain ⟨j,hj⟩:=List.getElem?_of_mem hm;have hjl:=(a8.1 hj).1;rw [jM] at hjl;rw [List.getElem?_take_of_lt zO] at hj;have:=(List.getElem?_inj zO jT).1 (hj.trans ha.symm);omega
   obtain ⟨x,rfl⟩:∃ x:Nat,a=x:=⟨a.toNat,zO⟩;have hxN:1<=x/\x<=N:=by have:=HN.out;omega
   have oG:(L.drop k).headD 0=x:=by rw [oV];rfl
   have jx:=gu x Ke;have oO:L.take (k+1)=L.take k++[(x:Int)]:=by rw [j7,ha];rfl
   have q6:wr.cell? ⟨gB,x,none⟩=some (ah false):=by
    rw [kB1.cell x];have:x < N+1:=zO;simp [toldOf,yO,this]
   have f6:=kB1.free x;have l6:=kB1.lt;rw [oG];have kB2:=kB1.stored x (ah true);rw [Mm N (L.take k) x hxN.2,<- oO] at kB2;have ne1:=bk_ne k1 kB1 zD;have ne2:=bk_ne pN kB1 zD;have k2:=k1.other (p:=⟨gB,x,none⟩) ne1 (ah true);have nA:=pN.other (p:=⟨gB,x,none⟩) ne2 (ah true);have cP:bd (wr.setCell ⟨gB,x,none⟩ (ah true)) w.heap.size (.slice G (L.take k).length cg) (L.take k):=cz bn (cy kB1 x (ah true)) zD;have cY:Below w.heap.size w (wr.setCell ⟨gB,x,none⟩ (ah true)):=bK hb nV.out _;have tJ:(L.take k).length=k:=by rw [jM];omega
   unfold bd at cP;rw [tJ] at cP ⊢;obtain ⟨nx,lJ⟩:∃ c,nodeAt l x 7=c:=⟨_,rfl⟩;rw [lJ] at jx;have xV:=ar lJ;have vR:=ar (au ha (au rl (au oO tJ)));have g1:decide ((1:Int)<=x)=true:=by simp;omega
   have g2:decide ((x:Int)<=N)=true:=by simp;omega
   have g3:decide ((x:Int) < N+1)=true:=by simp;omega
   have g4:(x:Int) < N+1:=zO;clear ot mK nZ jT gu oV Ke rl yO oG oO bn hk lJ ha tJ kB1
   go_upto_region 7 with fail
   clear q6 q1 f6 l6 k1 pN hb;generalize wr.setCell ⟨gB,x,none⟩ (ah true)=w5 at *;obtain ⟨i0,pP,jG,mw,mI⟩:=xE jw;have sK:=World.ownsRow.alloc cP (ag #[aa ab x] 3);have gS:=aB cY (ag #[aa ab x] 3);have fq:=aB (Below.refl w5.heap.size w5) (ag #[aa ab x] 3);have HO:=ar cP;clear cP
   go_upto_region 8 with (at_builtin;go_must (refine cM _ rfl (.tmp 41) (.tmp 43) _ rfl w.heap.size 3 i0 _ 1 8 su pP jG mw mI rfl zO (.slice G k cg) k (ints (L.take k)) rfl sK ⟨w5.heap.size,0,none⟩ 1 1 [aa ab x] rfl rfl (jC _) (by simp [aD]) (by simp only [nu];omega) zO (by simp;have:=cY.size;omega) ?_;intro v9 w6 eu hgrow4 _ _))
   have tU:=cI sK hgrow4;have k6:=(k2.ay fq).dh tU zD;have Df:=(nA.ay fq).dh tU zD;have kB6:=(kB2.ay fq).dh tU zD;have fz:=bY gS sK hgrow4 gS.size (az _);have HR4:=ar eu;clear eu tU hgrow4 sK gS fq k2 nA kB2 cY HO
   go_wp2_with (refine aL rfl 34 (.tmp 2) rfl w.heap.size rfl 34 (lyC l) (0,0) _ k6 aJ rfl zK ?_)
   (with_reducible refine (dt l x 7 _ F.out zO).mono ?_)
   rintro e w7 ⟨rfl,hb⟩;rw [xV.out];have k7:=k6.ay hb;have kM7:=Df.ay hb;have kB7:=kB6.ay hb;have jc:=aF fz hb;have HR7:=ar (bc HR4.out hb);clear k6 Df kB6 fz hb HR4
   go_wp2_with fail
   (with_reducible refine (OI (w.heap.size+1) A c zs n nx _ kM7 HS.out.2 (by have:=HS.out.1.below jc;exact this.more jc.size) jx.1 jx.2).mono ?_)
   rintro e w8 ⟨rfl,hb⟩;have k8:=k7.ay hb;have kM8:=kM7.ay hb;have kB8:=kB7.ay hb;have pQ:=aF jc hb;have HR8:=ar (bc HR7.out hb);clear k7 kM7 kB7 jc hb HR7;have hv:zs.getD nx.toNat 0=(L.drop (k+1)).headD 0:=by rw [<- vR.out.2.1,<- xV.out];rfl
   rw [hv];clear hv;obtain ⟨nn,Lh⟩:∃ y,(L.drop (k+1)).headD 0=y:=⟨_,rfl⟩;rw [Lh];have JH:=ar Lh;clear Lh
   go_wp2_with fail
   obtain ⟨G9,c9,rfl⟩:=cj HR8.out;refine ⟨⟨k+1,dN,by rw [JH.out],pQ,k8,kM8,kB8,?_⟩,by simp only [lenOf];omega⟩
   have h:=HR8.out;unfold bd;rw [vR.out.2.2.1,cJ,vR.out.2.2.2]
   simpa [ints] using h
  ·have hkL:k=L.length:=zO;subst hkL;have e0:(L.drop L.length).headD 0=0:=zS;rw [e0,pL];rw [pL] at bn kB1;have HO:=ar bn;clear e0 bn kB1 hk dN
   go_wp2
   go_ret
   exact ⟨G,cg,rfl,HO.out,hb⟩
end Go.Proofs.YtikdaeddbkopeaaGreatR
namespace Go.Proofs.YtikdaeddbkopeaaGreatR
theorem pD {f k:Int->Int}:∀ {L:List Int},(∀ a∈L,k a=f a)->Chn f L->lY k L
 | [],_,_=>trivial
 | [a],h,hc=>⟨(h a zS).trans hc,trivial⟩
 | a :: b :: r,h,hc=>⟨(h a zS).trans hc.1,pD (fun x hx=>h x (jk _ hx)) hc.2⟩
section
variable {S N:Nat} {m:List Int} {sm:Sm} {g:Gh}
theorem rU (R:Ar S N m sm) (h1:1<=S) (h3:S<=3) {c:Loc} (hc:tP S c):m.getD (adr (lyW S) c).toNat 0=sm c:=by
 rw [lO h1 h3 hc,List.getD_eq_getElem?_getD,R.cl c hc];rfl
theorem yB (h1:1<=S) (h3:S<=3) {n i:Int} (h:1<=n/\n<=40) (hi:0<=i/\i < 8):nodeAt (lyW S) n i=16+12 * S+(n - 1) * 8+i:=lO h1 h3 (c:=.nd n i) ⟨h.1,h.2,hi.1,hi.2⟩
structure OS (l:Ly) (zs L:List Int):Prop where
 fr:0<=l.free/\l.free < zs.length
 nd:∀ a,1<=a/\a<=l.c.nodes->0<=nodeAt l a 7/\nodeAt l a 7 < zs.length
 idx:idxOf (yW l zs)=L.headD 0
 ch:lY (BA l zs) L
 in_:∀ a∈L,1<=a/\a<=l.c.nodes
 nod:L.Nodup
 ln:L.length<=40
theorem nz:∀ (n:Nat) (L:List Int),L.Nodup->(∀ a∈L,1<=a/\a<=n)->L.length<=n
 | 0,[],_,_=>az _
 | 0,a :: L,_,h=>by have:=h a zS;omega
 | n+1,L,hd,h=>by
  by_cases hm:((n+1:Nat):Int)∈L
  ·have h1:=nz n (L.erase ((n+1:Nat):Int)) (hd.erase _) fun a ha=>by
    have h2:=(hd.mem_erase_iff).1 ha;have h3:=h a h2.2;have h4:=h2.1;omega
   rw [List.length_erase_of_mem hm] at h1;omega
  ·have h1:=nz n L hd fun a ha=>by
    have h3:=h a ha;have h4:a≠((n+1:Nat):Int):=fun e=>hm (e ▸ ha)
    omega
   omega
theorem J4 (G:Gl sm g) (R:Ar S N m sm) (h1:1<=S) (h3:S<=3):OS (lyW S) m g.fl:=by
 obtain ⟨e1,e2,e3,e4,e5,e6,e7,e8,e9⟩:=yD h1 h3;have nZ:∀ a∈g.fl,1<=a/\a<=40:=fun a ha=>⟨((G.fmem a).1 ha).1,((G.fmem a).1 ha).2.1⟩
 refine ⟨by rw [e2,R.len];omega,?_,?_,pD ?_ G.fch,?_,G.fnd,nz 40 _ G.fnd nZ⟩
 ·intro a ha;rw [e9] at ha;have hb:a<=40:=ha.2;rw [yB h1 h3 ⟨ha.1,hb⟩ zD,R.len];omega
 ·have:yW (lyW S) m=sm .free:=rU R h1 h3 (c:=.free) trivial;rw [this,G.fw];have hh:0<=g.fl.headD 0/\g.fl.headD 0<=40:=by
   cases hl:g.fl with
   | nil=>exact ⟨Int.le_refl _,zD⟩
   | cons a r=>have:=nZ a (by rw [hl];simp);exact ⟨by simp;omega,by simp;omega⟩
  exact iz _ _ _ hh.1 zO
 ·intro a ha;have:=nZ a ha;exact rU R h1 h3 (c:=.nd a 7) ⟨this.1,this.2,zD,zD⟩
 ·intro a ha;rw [e9];exact nZ a ha
theorem Nh (G:Gl sm g) (h1:1<=S) (h3:S<=3) {c:Loc} (hv:tP S c) (ho:nU g c) {n:Int} (hn:n∈g.fl):¬ (nodeAt (lyW S) n 0<=adr (lyW S) c/\adr (lyW S) c < nodeAt (lyW S) n 0+7):=by
 obtain ⟨a,b,hf⟩:=(G.fmem n).1 hn;rw [yB h1 h3 ⟨a,b⟩ zD,lO h1 h3 hv]
 cases c with
 | nd x i=>
  obtain ⟨b1,b2,b3,b4⟩:=hv;have b5:=ho.2.2.2.2;simp only [lU];rintro ⟨k1,k2⟩;have:x=n:=zO;subst this;exact b5 zO hf
 | _=>simp only [tP,lU] at hv ⊢;omega
end
def mQ (l:Ly):List Acc:=mj l 0 1++nN l 0 2++sY l++[⟨2,l.era,0,1⟩]
def accT (a:Acc):Int × Int × Int × Int:=(a.kind,a.cell,a.re,a.new)
theorem D9:∀ l l':List Acc,l.map accT=l'.map accT->l=l'
 | [],[],_=>rfl
 | [],b :: l',h=>by simp at h
 | a :: l,[],h=>by simp at h
 | a :: l,b :: l',h=>by
  simp only [List.map_cons,List.cons.injEq] at h;rw [D9 l l' h.2];obtain ⟨a1,a2,a3,a4⟩:=a;obtain ⟨b1,b2,b3,b4⟩:=b;simp only [accT,Prod.mk.injEq] at h;obtain ⟨⟨rfl,rfl,rfl,rfl⟩,-⟩:=h;rfl
theorem JZ {S:Nat} (h1:1<=S) (h3:S<=3):mQ (lyW S)=initW.map (pJ (lyW S)):=by
 have:S=1\/S=2\/S=3:=zO;refine D9 _ _ ?_;rcases this with rfl | rfl | rfl <;> decide+kernel
theorem te:∀ (l:List Acc) (zs:List Int),fj zs l=l.foldl (fun m a=>a.make m) zs
 | [],_=>rfl
 | a :: l,zs=>te l (a.make zs)
theorem m0_all {S:Nat} (h1:1<=S) (h3:S<=3):fj (List.replicate (336+12 * S) 0) (mQ (lyW S))=m0 S:=by
 rw [JZ h1 h3,te,List.foldl_map];unfold m0;rfl
theorem err0 {S:Nat} (h1:1<=S) (h3:S<=3):jA (List.replicate (336+12 * S) 0) (mQ (lyW S))=0:=by
 have:S=1\/S=2\/S=3:=zO;rcases this with rfl | rfl | rfl <;> decide+kernel
end Go.Proofs.YtikdaeddbkopeaaGreatR
namespace Go.Proofs.YtikdaeddbkopeaaGreatR
open Go.RowKit
attribute [local go_sem ↓] aV aW
theorem xj:∀ (l:List Acc) (j:Nat) (u:Value),(cq l)[j]? =some u->∃ (k:Nat) (a:Acc),l[k]? =some a/\((j=k * 4/\u=aa ab a.kind)\/(j=k * 4+1/\u=aa ab a.cell)\/(j=k * 4+2/\u=aa ab a.re)\/(j=k * 4+3/\u=aa ab a.new))
 | [],j,u,h=>by simp [cq] at h
 | a :: l,j,u,h=>by
  have e:cq (a :: l)=aa ab a.kind :: aa ab a.cell :: aa ab a.re :: aa ab a.new :: cq l:=rfl;rw [e] at h
  match j,h with
  | 0,h=>exact ⟨0,a,rfl,.inl ⟨rfl,by simpa using h.symm⟩⟩
  | 1,h=>exact ⟨0,a,rfl,.inr (.inl ⟨rfl,by simpa using h.symm⟩)⟩
  | 2,h=>exact ⟨0,a,rfl,.inr (.inr (.inl ⟨rfl,by simpa using h.symm⟩))⟩
  | 3,h=>exact ⟨0,a,rfl,.inr (.inr (.inr ⟨rfl,by simpa using h.symm⟩))⟩
  | j+4,h=>
   obtain ⟨k,r,h1,h2⟩:=xj l j u (by simpa using h)
   refine ⟨k+1,r,by simpa using h1,?_⟩
   rcases h2 with ⟨h2,h3⟩ | ⟨h2,h3⟩ | ⟨h2,h3⟩ | ⟨h2,h3⟩
   ·exact .inl ⟨zO,h3⟩
   ·exact .inr (.inl ⟨zO,h3⟩)
   ·exact .inr (.inr (.inl ⟨zO,h3⟩))
   ·exact .inr (.inr (.inr ⟨zO,h3⟩))
theorem Cb (l:List Acc):(cq l).length=l.length * 4:=by
 induction l with
 | nil=>rfl
 | cons a l ih=>show ([sj .i64 a.kind,aa ab a.cell,aa ab a.re,aa ab a.new]++cq l).length=_;rw [cJ,ih];simp;omega
theorem ql (l:List Acc):∀ v∈cq l,v.oneCell'=true:=by
 intro v hv;simp only [cq,List.mem_flatMap] at hv;obtain ⟨r,_,hr⟩:=hv;simp at hr;rcases hr with rfl | rfl | rfl | rfl <;> rfl
theorem uY {w:World} {A:Option Addr} {l:List Acc} (h:lX w w.heap.size A l) (hl:0 < l.length):∃ b o,A=some ⟨b,o,none⟩/\∀ (j:Nat) (u:Value),(cq l)[j]? =some u->w.cell? ((⟨b,o,none⟩:Addr).add j)=some u:=by
 obtain ⟨b,o,e,hb,hc⟩:=h hl;refine ⟨b,o,e,fun j u hj=>?_⟩
 rw [fV];obtain ⟨k,a,hk,hv⟩:=xj l j u hj;obtain ⟨c1,c2,c3,c4⟩:=hc k a hk;rcases hv with ⟨rfl,rfl⟩ | ⟨rfl,rfl⟩ | ⟨rfl,rfl⟩ | ⟨rfl,rfl⟩
 ·exact c1
 ·exact c2
 ·exact c3
 ·exact c4
def oA1 (l:Ly):Nat->List Acc
 | 0=>[]
 | _=>mj l 0 1
def oA2 (l:Ly):Nat->List Acc
 | 0=>mj l 0 1
 | _=>mj l 0 1++nN l 0 2
def OiR (w:World) (l:Ly) (f:Nat->List Acc) (v3 v9:Value) (wr:World):Prop:=
 ∃ k:Nat,k<=1/\v9=aa ab (k:Nat)/\Below w.heap.size w wr/\Bk wr w.heap.size 34 (lyC l)/\wr.ownsRow w.heap.size 67 4 v3 (f k).length (cq (f k))
theorem KW (l:Ly) (w:World) (f:dU l) (hm:l.c.maps=1) (hc:l.c.chans=1) (h1:3<=l.c.nodes) (h2:l.c.nodes<=1000) (hh:0<=dT l 0) (hn:0<=nodeAt l 2 0):Calls aw 44 #[lyV l] w (uI (mQ l) w):=by
 have k0:=Bk.made w 34 (lyC l);have bz:=aB (Below.refl w.heap.size w) (ag (lyC l) 34);obtain ⟨i0,pP,jG,mw,mI⟩:=xE rE;have F:=ar f;have H2:=ar (au hh (au hn (au h1 h2)));have HMC:=ar (au hm hc);have q6:(w.alloc (ag (lyC l) 34)).cell? ⟨w.heap.size,6,none⟩=some (aa ab 1):=by rw [k0.cell 6];show some (sj .i64 l.c.maps)=_;rw [hm]
 have hil:(sY l).length<=1000:=by rw [uo];simp [mR];omega
 clear f hm hc h1 h2 hh hn;go_enter Tryz.func44,Tryz.ntmps44
 go_wp2_with fail
 generalize w.alloc (ag (lyC l) 34)=w1 at *
 go_loopw [3,9] (fun v3 v9 wr=>OiR w l (oA1 l) v3 v9 wr) (fun _ v9 _=>1 - (intOf v9).toNat)
 case atStart=>exact ⟨0,zO,rfl,bz,k0,cZ _ _ _ _⟩
 case round=>
  obtain ⟨k,hk,rfl,hb,k1,bn⟩:=hrel;clear q6 k0 bz;rcases (show k=0\/k=1 by omega) with rfl | rfl
  ·go_wp2_with (refine aL rfl 34 (.tmp 1) rfl w.heap.size rfl 34 (lyC l) (0,0) _ k1 aJ rfl zK ?_)
   (with_reducible refine (KI l 0 1 _ F.out zD zD).mono ?_)
   rintro e w4 ⟨A,cA,rfl,lg,jR⟩;obtain ⟨ba,oa,rfl,qH⟩:=uY lg (by simp [mj])
   have k2:=k1.ay jR;have ew:=bc bn jR;have gS:=aF hb jR;clear lg jR hb bn k1
   go_wp2_with (at_builtin;go_must (refine cM _ rfl (.tmp 12) (.tmp 17) _ rfl w.heap.size 67 i0 _ 4 32 Tryz.underlying102 pP jG mw mI rfl zO u3 0 (cq []) rfl ew ⟨ba,oa,none⟩ 7 cA (cq (mj l 0 1)) rfl rfl qH (ql _) (by simp only [nu];omega) zO gS.size ?_;intro v9 w5 eu hgrow4 _ _))
   have wZ:=cI ew hgrow4;exact ⟨⟨1,zO,rfl,bY gS ew hgrow4 gS.size (az _),k2.dh wZ zD,eu⟩,by simp [intOf]⟩
  ·rw [show ((1:Nat):Int)=1 from rfl]
   have q8:=k1.cell 8;simp at q8;rw [HMC.out.2] at q8
   go_wp2_with fail
   go_loopw [3,23] (fun v3 v9 wr=>OiR w l (oA2 l) v3 v9 wr) (fun _ v9 _=>1 - (intOf v9).toNat)
   case atStart=>exact ⟨0,zO,rfl,hb,k1,bn⟩
   case round=>
    obtain ⟨k,hk,rfl,cY,k2,cP⟩:=hrel;clear q8 k1 hb bn;rcases (show k=0\/k=1 by omega) with rfl | rfl
    ·have q6:=k2.cell 6;simp at q6;rw [HMC.out.1] at q6
     go_wp2_with (refine aL rfl 34 (.tmp 1) rfl w.heap.size rfl 34 (lyC l) (0,0) _ k2 aJ rfl zK ?_)
     clear q6
     (with_reducible refine (Ln l 0 2 _ F.out zD H2.out.1 H2.out.2.1).mono ?_)
     rintro e w4 ⟨A,cA,rfl,lg,jR⟩;obtain ⟨ba,oa,rfl,qH⟩:=uY lg (by simp [nN])
     have k3:=k2.ay jR;have ew:=bc cP jR;have gS:=aF cY jR;clear lg jR cY cP k2
     go_wp2_with (at_builtin;go_must (refine cM _ rfl (.tmp 26) (.tmp 35) _ rfl w.heap.size 67 i0 _ 4 32 Tryz.underlying102 pP jG mw mI rfl zO u3 7 (cq (mj l 0 1)) rfl ew ⟨ba,oa,none⟩ 8 cA (cq (nN l 0 2)) rfl rfl qH (ql _) (by simp only [nu];omega) zO gS.size ?_;intro v9 w5 eu hgrow4 _ _))
     have wZ:=cI ew hgrow4;exact ⟨⟨1,zO,rfl,bY gS ew hgrow4 gS.size (az _),k3.dh wZ zD,by rw [<- eD] at eu;exact eu⟩,by simp [intOf]⟩
    ·rw [show ((1:Nat):Int)=1 from rfl]
     have q6:=k2.cell 6;have q8:=k2.cell 8;simp at q6 q8;rw [HMC.out.1] at q6;rw [HMC.out.2] at q8
     go_wp2_with (refine aL rfl 34 (.tmp 1) rfl w.heap.size rfl 34 (lyC l) (0,0) _ k2 aJ rfl zK ?_)
     clear q6 q8
     (with_reducible refine (NL l _ F.out H2.out.2.2.1 H2.out.2.2.2).mono ?_)
     rintro e w4 ⟨A,cA,rfl,lg,jR⟩;have hip:0 < (sY l).length:=by rw [uo];simp
     obtain ⟨ba,oa,rfl,qH⟩:=uY lg hip;have k3:=k2.ay jR;have ew:=bc cP jR;have gS:=aF cY jR;have BN:w4.ownsRow w.heap.size 67 4 u3 15 (cq (mj l 0 1++nN l 0 2)):=ew;clear lg jR cY cP k2 ew;obtain ⟨n,hn⟩:∃ n,(sY l).length=n:=⟨_,rfl⟩;rw [hn] at hil ⊢;clear hip
     go_upto_region 13 with (at_builtin;go_must (refine cM _ rfl (.tmp 38) (.tmp 48) _ rfl w.heap.size 67 i0 _ 4 32 Tryz.underlying102 pP jG mw mI rfl zO u3 15 (cq (mj l 0 1++nN l 0 2)) rfl BN ⟨ba,oa,none⟩ n cA (cq (sY l)) rfl (by rw [Cb,hn]) qH (ql _) (by simp only [nu];omega) zO gS.size ?_;intro v9 w5 eu hgrow4 _ _))
     have Mb:=bY gS BN hgrow4 gS.size (az _);have k4:=k3.dh (cI BN hgrow4) zD;rw [<- eD] at eu;have q11:=k4.cell 11;simp at q11;have kE:=World.ownsRow.alloc eu (ag #[aa ab 2,aa ab l.era,aa ab 0,aa ab 1] 67);have fz:=aB Mb (ag #[aa ab 2,aa ab l.era,aa ab 0,aa ab 1] 67);clear BN qH hgrow4 gS k3
     go_wp2_with (at_builtin;go_must (refine cM _ rfl (.tmp 50) (.tmp 54) _ rfl w.heap.size 67 i0 _ 4 32 Tryz.underlying102 pP jG mw mI rfl zO v9 (15+n) (cq (mj l 0 1++nN l 0 2++sY l)) rfl kE ⟨w5.heap.size,0,none⟩ 1 1 [aa ab 2,aa ab l.era,aa ab 0,aa ab 1] rfl rfl (rD w5 _) (by simp [aD]) (by simp only [nu];omega) zO fz.size ?_;intro v10 w6 J5 hgrow6 _ _))
     obtain ⟨GA,cA2,rfl⟩:=cj J5;have hlen:(mQ l).length=15+n+1:=by simp [mQ,mj,nN,qd,hn];omega
     go_ret
     refine ⟨GA,cA2,by rw [hlen];rfl,rS (base:=w.heap.size) (cap:=cA2) (n:=15+n+1) ?_ hlen,bY fz kE hgrow6 fz.size (az _)⟩
     unfold mQ;rw [eD];exact J5
end Go.Proofs.YtikdaeddbkopeaaGreatR
