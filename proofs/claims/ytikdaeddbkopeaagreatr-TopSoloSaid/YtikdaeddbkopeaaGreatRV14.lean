/- A part of the proof. -/
import Derived.Deep.CutRange
import Derived.Test.YtikdaeddbkopeaaGreatRV13
import Derived.Test.YtikdaeddbkopeaaGreatRV5
set_option linter.unusedVariables false
set_option linter.unusedSimpArgs false
set_option maxRecDepth 100000
set_option maxHeartbeats 16000000
open And renaming intro → au
open Go renaming execOp → Av, setRow_heap → Cm, wp_at_zero → aV, wp_at_succ → aW, TypeId → bR, run_loadVar_row → be, wp_store_row → dH, loadVar → dr, Ending → lb
open Go.Ending renaming returned → ai
open Go.Instr renaming sureAddr → xG
open Go.IntKind renaming i64 → ab
open Go.IntWalk renaming i64_in → cV
open Go.Lib renaming hid → ar
open Go.Obj renaming cells → ag
open Go.Proofs.Tryz renaming underlying34 → aJ, prog → aw, underlying67 → bU, underlying35 → su
open Go.Result renaming andThen_ok → bQ
open Go.RowKit.Below renaming heap_setCell → pM
open Go.Sem renaming run_bind → di, run_pure → dx
open Go.Value renaming oneCell' → aD, int → sj, bool → ah, int → aa, pointer → ae, slice → af
open Go.World renaming ownsRow_nil → cZ
open Go.World.ownsRow renaming cellAt → jj
open List renaming getElem?_eq_some_iff → a8, getElem?_eq_getElem → aO, setIfInBounds_toArray → aj, set_cons_zero → ak, set_cons_succ → al, getElem_cons_zero → an, getElem_cons_succ → ao, getElem_toArray → aq, mem_cons → bD, mem_of_getElem? → bX, not_mem_nil → cB, length_append → cJ, set_nil → iL
open Nat renaming le_trans → aQ, zero_le → aY, le_refl → az, lt_of_lt_of_le → bg, zero_add → eE, le_succ → uO
open Option renaming isSome_some → gQ
open Option.some renaming inj → aT
open Or renaming inl → jL
open True renaming intro → aC
namespace Go.Proofs.YtikdaeddbkopeaaGreatR
open Go.RowKit
attribute [local go_sem ↓] aV aW
theorem Ox {S:Nat} (h1:1<=S) (h3:S<=3):(cfW S).can:=by
 refine ⟨⟨fun j hj=>?_,show CY 2=true by decide+kernel⟩,show (1:Int)+1<=40 by decide,show (40:Int)<=1000 by decide⟩
 have:j=0\/j=1\/j=2\/j=3\/j=4\/j=5\/j=6\/j=7:=zO;rcases this with rfl | rfl | rfl | rfl | rfl | rfl | rfl | rfl <;> simp only [Cf.CR,cfW] <;> omega
theorem all_nT (A B:Option Addr) (M c d n k:Nat) (zs:List Int) (l:List Acc) (w:World) (hn:zs.length=n) (hk:l.length=k) (hB:M<=w.heap.size) (hM:nT w M A n c zs) (hl:lX w w.heap.size B l) (hm:n<=1000000) (J7:l.length<=1000000):
  Calls aw 42 #[rh A n c,.slice B k d] w (Cl M zs l w):=by
 subst hn hk;exact all_any A B M c d zs l w hB hM hl hm J7
theorem IW {w:World} {A:Option Addr} {n c:Nat} {zs:List Int} (h:nT w 0 A n c zs) (hn:0 < n):∃ g,A=some ⟨g,0,none⟩/\bd w 0 (af (some ⟨g,0,none⟩) n c) zs:=by
 rcases h.2 with h' | h'
 ·obtain ⟨b,o,_,hb,_⟩:=h'.2 hn;omega
 ·obtain ⟨g,cap,he,_,_⟩:=World.ownsRow.form h' (by rw [h.1];exact hn)
  injection he with he _ _
  subst he;exact ⟨g,rfl,h'⟩
def wbT:Nat->Nat | 4=>21 | 6=>23 | 7=>24 | 8=>16 | 9=>25 | 10=>26 | 11=>27 | 12=>5 | 14=>6 | 15=>7 | _=>38
def wbP:Nat->List Nat | 7=>[4,6] | 8=>[7] | 9=>[8] | 10=>[8] | 11=>[8] | 13=>[7,9,12] | 14=>[10] | 15=>[11] | _=>[]
def wbR (B N S:Nat) (l:Ly) (i:Nat) (val:Nat->Option Value) (v:Value) (w:World):Prop:=
 match i with
 | 4=>val 7=none->∃ g,v=rh (some ⟨g,0,none⟩) N N/\bd w 0 (af (some ⟨g,0,none⟩) N N) (List.replicate N 0)
 | 6=>val 7=none->∃ A c,v= .slice A (mQ l).length c/\lX w w.heap.size A (mQ l)
 | 7=>∃ g c r,v= .tuple #[rh (some ⟨g,0,none⟩) N c,r,aa ab 0]/\bd w 0 (af (some ⟨g,0,none⟩) N c) (m0 S)
 | 8=>∃ a b c,v= .tuple #[a,b,c]/\val 7=some v
 | 9=>∃ b c,val 7=some (.tuple #[v,b,c])
 | 11=>∃ a b,val 7=some (.tuple #[a,b,v])
 | 12=>∃ g,v=ae (some ⟨g,0,none⟩)/\B<=g/\(val 13=none->Bk w g 37 #[af none 0 0])
 | 13=>∃ g A c b d,val 12=some (ae (some ⟨g,0,none⟩))/\val 7=some (.tuple #[rh A N c,b,d])/\Bk w g 37 #[.slice A N c]
 | 15=>∃ a b,val 7=some (.tuple #[a,b,v])
 | _=>True
def wbG (B i:Nat) (w1 w2:World):Prop:=if i=13 then eU 37 w1 w2/\Below B w1 w2 else Below w1.heap.size w1 w2
theorem Mh (B N S:Nat) (l:Ly) (i j:Nat) (oP:i≠j) (val:Nat->Option Value) (v u:Value) (w1 w2:World) (hi:val i=some v) (hj:val j=none) (hp:∀ p∈wbP j,∃ x,val p=some x) (h:wbR B N S l i val v w1) (hg:wbG B j w1 w2):wbR B N S l i (upd val j u) v w2:=by
 have hv:∀ k x,val k=some x->upd val j u k=some x:=fun k x hk=>by
  simp only [upd];split
  ·rename_i e;subst e;rw [hj] at hk;cases hk
  ·exact hk
 have hn:∀ k,upd val j u k=none->val k=none/\k≠j:=fun k hk=>by
  simp only [upd] at hk;split at hk
  ·cases hk
  ·rename_i e;exact ⟨hk,e⟩
 have bn:∀ {b sz n:Nat} {v:Value} {xs:List Value} {t:bR},t≠37->w1.ownsRow b t sz v n xs->w2.ownsRow b t sz v n xs:=by
  intro b sz n v xs t ht ho;unfold wbG at hg;split at hg
  ·exact cz ho hg.1 ht
  ·exact bc ho hg
 have Jl:j≠13->Below w1.heap.size w1 w2:=fun e=>by unfold wbG at hg;rwa [if_neg e] at hg
 have h7:j=13->∃ x,val 7=some x:=fun e=>hp 7 (by rw [e];simp [wbP])
 have fI:i=4\/i=6\/i=7\/i=8\/i=9\/i=11\/i=12\/i=13\/i=15\/(i≠4/\i≠6/\i≠7/\i≠8/\i≠9/\i≠11/\i≠12/\i≠13/\i≠15):=zO;rcases fI with rfl | rfl | rfl | rfl | rfl | rfl | rfl | rfl | rfl | ⟨n1,n2,n3,n4,n5,n6,n7,n8,n9⟩
 ·intro hq;obtain ⟨g,h1,h2⟩:=h (hn 7 hq).1;exact ⟨g,h1,bn zD h2⟩
 ·intro hq;obtain ⟨A,c,h1,h2⟩:=h (hn 7 hq).1;have hb:=Jl fun e=>by
   obtain ⟨x,hx⟩:=h7 e;rw [(hn 7 hq).1] at hx
   cases hx
  refine ⟨A,c,h1,?_⟩;intro hl;obtain ⟨b,o,e,dN,hc⟩:=h2.below hb hl;exact ⟨b,o,e,bg dN hb.size,hc⟩
 ·obtain ⟨g,c,r,h1,h2⟩:=h;exact ⟨g,c,r,h1,bn zD h2⟩
 ·obtain ⟨a,b,c,h1,h2⟩:=h;exact ⟨a,b,c,h1,hv _ _ h2⟩
 ·obtain ⟨b,c,h1⟩:=h;exact ⟨b,c,hv _ _ h1⟩
 ·obtain ⟨b,c,h1⟩:=h;exact ⟨b,c,hv _ _ h1⟩
 ·obtain ⟨g,h1,h2,h3⟩:=h;exact ⟨g,h1,h2,fun hq=>(h3 (hn 13 hq).1).ay (Jl fun e=>(hn 13 hq).2 e.symm)⟩
 ·obtain ⟨g,A,c,b,d,h1,h2,h3⟩:=h;exact ⟨g,A,c,b,d,hv _ _ h1,hv _ _ h2,h3.ay (Jl fun e=>oP e.symm)⟩
 ·obtain ⟨b,c,h1⟩:=h;exact ⟨b,c,hv _ _ h1⟩
 ·unfold wbR;split <;> first | contradiction | trivial
theorem B7 {B:Nat} {a w w':World} (h1:Below B a w) (h2:Below B w w'):Below B a w':=h1.trans h2
theorem KO:(Tryz.prog.info? 46).map (fun i=>(i.zero,i.size,i.bytes))=some (some (.agg #[aa ab 0,af none 0 0,af none 0 0,af none 0 0,aa ab 0]),5,88):=zK
def qX (n:Nat):Array Value:=madeCells #[aa ab 0,af none 0 0,af none 0 0,af none 0 0,aa ab 0] (n * 5)
theorem yk (w:World) (N:Nat) (h:N<=1000000):
  (Instr.makeSlice 38 (aa ab N) (aa ab N)).run aw w= .ok (af (some ⟨w.heap.size,0,none⟩) N N) (w.alloc (ag (qX N) 46)):=
 pT Tryz.underlying38 KO w N h zO
theorem IF {w:World} {g n:Nat} (k:Bk w g 46 (qX n)):rF w g (List.replicate n CP) (qX n):=by
 refine ⟨k,by simp [qX,size_madeCells],fun i x hx=>?_⟩
 rw [List.getElem?_replicate] at hx;split at hx
 ·injection hx with hx
  subst hx;rename_i hi;have hm:∀ d,d < 5->(qX n)[i * 5+d]? =#[sj .i64 0,af none 0 0,af none 0 0,af none 0 0,aa ab 0][d]?:=by
   intro d hd;have e1:(i * 5+d) % 5=d:=zO;have e2:i * 5+d < n * 5:=zO;simp [qX,madeCells,e1,e2,hd]
  refine ⟨(hm 0 zO).trans rfl,⟨none,0,(hm 1 zO).trans rfl,cZ _ _ _ _⟩,⟨none,0,(hm 2 zO).trans rfl,cZ _ _ _ _⟩,⟨_,(hm 3 zO).trans rfl,none,0,rfl,fun _=>⟨rfl,rfl⟩,fun h=>absurd h (by simp [CP])⟩,(hm 4 zO).trans rfl⟩
 ·cases hx
def KD (S:Nat) (w:World) (e:lb) (w':World):Prop:=∃ gt,e=ai (ae (some ⟨gt,0,none⟩))/\lW w' w.heap.size gt (lyW S) (ni S)/\Below w.heap.size w w'
theorem Ir (S:Nat) (h1:1<=S) (h3:S<=3) (A T:Option Addr) (cw m d s0 s1 s2:Nat) (w:World):Calls aw 19 #[.agg (cK A S cw T m d s0 s1 s2)] w (KD S w):=by
 have k0:=Bk.made w 26 (cK A S cw T m d s0 s1 s2);have bz:=aB (Below.refl w.heap.size w) (ag (cK A S cw T m d s0 s1 s2) 26);have L:=xL h1 h3;obtain ⟨e1,e2,e3,e4,e5,e6,e7,e8,e9⟩:=yD h1 h3;have hh:0<=dT (lyW S) 0:=L.hd;have uL:0<=nodeAt (lyW S) 2 0:=(L.nd 2 zD zD).1;have Ek:=fun w=>KW (lyW S) w L.f (by rw [e9];rfl) (by rw [e9];rfl) (by rw [e9];show (3:Int)<=40;decide) (by rw [e9];show (40:Int)<=1000;decide) hh uL
 have A5:=m0_all h1 h3;have rq:=err0 h1 h3;have hz:(lyW S).size=((336+12 * S:Nat):Int):=by rw [e8];push_cast;rfl
 have hlen0:(m0 S).length=336+12 * S:=by rw [Ns h1 h3];simp
 have hil:(mQ (lyW S)).length<=1000000:=by rw [JZ h1 h3,List.length_map];decide
 have hof:∀ w,Calls aw 41 #[.agg #[aa ab S,aa ab 40,aa ab 2,aa ab 1,aa ab 1,aa ab 0,aa ab 1,aa ab 1,aa ab 1]] w (OR (lyW S) 0 w):=fun w=>of_ok (cfW S) w (Ox h1 h3)
 clear L e1 e2 e3 e4 e5 e6 e7 e8 e9 hh uL;have q0:=k0.cell 0;simp at q0;go_enter Tryz.func19,Tryz.ntmps19
 go_wp2_with fail
 generalize w.alloc (ag (cK A S cw T m d s0 s1 s2) 26)=w1 at *
 (with_reducible refine (hof _).mono ?_)
 rintro e w2 ⟨rfl,hb⟩;clear q0 hof;obtain ⟨N,hN⟩:∃ N:Nat,336+12 * S=N:=⟨_,rfl⟩;rw [hN] at A5 rq hz hlen0;have hN1:1<=N/\N<=1000:=zO;obtain ⟨tb,htb⟩:∃ t,ni S=t:=⟨_,rfl⟩;have HT:=ar htb;unfold KD;rw [htb];clear htb;obtain ⟨l,hl⟩:∃ l,lyW S=l:=⟨_,rfl⟩;rw [hl] at A5 rq hz Ek hil ⊢;replace k0:=k0.ay hb;replace bz:=aF bz hb;have HL:=ar hl;clear hb hl
 go_upto_region 2 with (refine dJ rfl 34 (.tmp 3) (.tmp 14) rfl rfl w2.heap.size _ _ (lyC l) rfl rfl rfl rfl zK rfl (by simp [aD]) ?_)
 have kL:=Bk.made w2 34 (lyC l);replace k0:=k0.alloc (ag (lyC l) 34);have oe:w.heap.size<=w2.heap.size:=bz.size;replace bz:=aB bz (ag (lyC l) 34);generalize w2.alloc (ag (lyC l) 34)=w3 at *;generalize w2.heap.size=gl at *;refine aP (S:=fun w'=>Below w3.drew.heap.size w3.drew w') (E:=fun _=>false) zK ?_
 replace k0:=k0.drew;replace kL:=kL.drew;replace bz:=bz.drew;generalize w3.drew=w4 at *;have hmin:∀ (w:World) (ts:Array bR) (t:bR),(Builtin.min_ ts t #[aa ab N,aa ab 1000]).run aw w= .ok (aa ab N) w:=fun w ts t=>by
  rw [run_min_int2];split <;> first | rfl | (congr 2;omega)
 have hmax:∀ (w:World) (ts:Array bR) (t:bR),(Builtin.max_ ts t #[aa ab 0,aa ab N]).run aw w= .ok (aa ab N) w:=fun w ts t=>by
  rw [run_max_int2];split <;> first | rfl | (congr 2;omega)
 refine da (i:=0) (oi:=_) (v:=ae (some ⟨gl,24,none⟩)) rfl zK zK zK zK (fun _ _ _ h=>h) (jL ⟨by rfl,?_⟩) (Below.refl _ _) ?_
 ·intro w' hSw
  (try simp only [aq,ao,an])
  go_simp
 (try simp only [aq,ao,an,Act.put,aj,ak,al])
 refine da (i:=1) (oi:=_) (v:=aa ab N) rfl zK zK zK zK (fun _ _ _ h=>h) (jL ⟨by rfl,?_⟩) (Below.refl _ _) ?_
 ·intro w' hSw;have s1:=(kL.ay hSw).cell 24;simp at s1;rw [hz] at s1
  (try simp only [aq,ao,an])
  go_simp
 (try simp only [aq,ao,an,Act.put,aj,ak,al])
 refine da (i:=2) (oi:=_) (v:=aa ab N) rfl zK zK zK zK (fun _ _ _ h=>h) (jL ⟨by rfl,?_⟩) (Below.refl _ _) ?_
 ·intro w' hSw
  (try simp only [aq,ao,an])
  go_simp
 (try simp only [aq,ao,an,Act.put,aj,ak,al])
 refine da (i:=3) (oi:=_) (v:=aa ab N) rfl zK zK zK zK (fun _ _ _ h=>h) (jL ⟨by rfl,?_⟩) (Below.refl _ _) ?_
 ·intro w' hSw
  (try simp only [aq,ao,an])
  go_simp
 (try simp only [aq,ao,an,Act.put,aj,ak,al])
 refine da (i:=5) (oi:=_) (v:=.agg (lyC l)) rfl zK zK zK zK (fun _ _ _ h=>h) (jL ⟨by rfl,?_⟩) (Below.refl _ _) ?_
 ·intro w' hSw
  (try simp only [aq,ao,an])
  simp only [Av,Instr.loadAt,xG,di,dx,bQ];rw [show (Act.eval _ (Operand.tmp 3))=Value.pointer (some ⟨gl,0,none⟩) from rfl]
  simp only [Instr.loadAt,xG,di,dx,bQ,be w' gl 34 34 (lyC l) (0,0) _ (kL.ay hSw) aJ rfl zK]
 (try simp only [aq,ao,an,Act.put,aj,ak,al])
 clear hmin hmax hz;refine ma (U:=[4,6,7,8,9,10,11,12,13,14,15]) (tmp:=wbT) (pre:=wbP) (T:=fun w2=>Below w4.heap.size w4 w2) (N:=fun _ _=>True) (G:=wbG w4.heap.size) (R:=wbR w4.heap.size N S l) zK (fun _ _=>rfl) (fun w2 h=>h) (Below.refl _ _) (fun i hi w2 w3 h1 h2=>?_) (fun _ _=>trivial) (fun _ _ _ _ _ _ _ _ _ _=>trivial)
  (fun i hi j hj oP val v u w2 w3 hT hvi Ah hp hr hg=>Mh _ _ _ _ i j oP val v u w2 w3 hvi Ah hp hr hg) (fun i hi o ho val w2 K qD cY _ cd hK=>?_) 0 (fun val w2 bS cY=>?_)
 ·unfold wbG at h2;split at h2
  ·exact B7 h1 h2.2
  ·exact aF h1 h2
 ·simp only [bD,cB,or_false] at hi;rcases hi with rfl | rfl | rfl | rfl | rfl | rfl | rfl | rfl | rfl | rfl | rfl
  ·obtain rfl:=aT ho;simp only [wbP,bq];go_simp
   (with_reducible refine (new_any N _ zO).mono ?_)
   rintro e w3 ⟨g,rfl,bn,hb⟩;exact hK _ _ (fun _=>⟨g,rfl,eI bn (aY _)⟩) hb
  ·obtain rfl:=aT ho;simp only [wbP,bq];go_simp
   (with_reducible refine (Ek _).mono ?_)
   rintro e w3 ⟨A,c,rfl,lg,hb⟩;exact hK _ _ (fun _=>⟨A,c,rfl,lg⟩) hb
  ·obtain rfl:=aT ho;obtain ⟨v4,e4,r4⟩:=cd 4 (by simp [wbP])
   obtain ⟨g,rfl,bn⟩:=r4 qD;obtain ⟨v6,e6,r6⟩:=cd 6 (by simp [wbP])
   obtain ⟨A,c,rfl,lg⟩:=r6 qD;simp only [wbP,bq,e4,e6,wbT] at hK ⊢;go_simp
   (with_reducible refine (all_nT (some ⟨g,0,none⟩) A 0 N c N (mQ l).length (List.replicate N 0) (mQ l) _ zS rfl (aY _) (nT.Na bn zS (aY _)) lg zO hil).mono ?_)
   rintro e w3 ⟨A',c',R,d,rfl,hM,-,hb⟩;unfold kK at hM;rw [if_pos rq] at hM;have he:(List.replicate N (0:Int)).length=N:=zS;rw [A5,he] at hM;obtain ⟨g2,rfl,cP⟩:=IW hM zO;refine hK _ _ ⟨g2,c',_,by rw [he,rq],cP⟩ hb
  ·obtain rfl:=aT ho;obtain ⟨v7,e7,g,c,r,rfl,bn⟩:=cd 7 (by simp [wbP])
   simp only [wbP,bq,e7,wbT] at hK ⊢;go_simp;exact hK _ _ ⟨_,_,_,rfl,by simp [upd,e7]⟩ (Below.refl _ _)
  ·obtain rfl:=aT ho;obtain ⟨v8,e8,a,b,c,rfl,e7⟩:=cd 8 (by simp [wbP])
   simp only [wbP,bq,e8,wbT] at hK ⊢;go_simp;exact hK _ _ ⟨b,c,by simp [upd,e7]⟩ (Below.refl _ _)
  ·obtain rfl:=aT ho;obtain ⟨v8,e8,a,b,c,rfl,e7⟩:=cd 8 (by simp [wbP])
   simp only [wbP,bq,e8,wbT] at hK ⊢;go_simp;exact hK _ _ trivial (Below.refl _ _)
  ·obtain rfl:=aT ho;obtain ⟨v8,e8,a,b,c,rfl,e7⟩:=cd 8 (by simp [wbP])
   simp only [wbP,bq,e8,wbT] at hK ⊢;go_simp;exact hK _ _ ⟨a,b,by simp [upd,e7]⟩ (Below.refl _ _)
  ·obtain rfl:=aT ho;simp only [wbP,bq] at hK ⊢;go_simp;exact hK _ _ ⟨_,rfl,cY.size,fun _=>Bk.made _ _ _⟩ (aB (Below.refl _ _) _)
  ·obtain rfl:=aT ho;obtain ⟨v7,e7,g,c,r,rfl,bn⟩:=cd 7 (by simp [wbP])
   obtain ⟨v9,e9,b9,c9,h9⟩:=cd 9 (by simp [wbP])
   rw [e7] at h9;injection h9 with h9
   injection h9 with h9
   obtain ⟨rfl,rfl,rfl⟩:rh (some ⟨g,0,none⟩) N c=v9/\r=b9/\sj .i64 0=c9:=by simpa using h9
   obtain ⟨v12,e12,ga,rfl,jQ,um⟩:=cd 12 (by simp [wbP])
   have ka:=um qD;have f0:=ka.free 0;have l0:=ka.lt;have q0:=ka.cell 0;simp at q0;simp only [wbP,bq,e7,e9,e12,wbT] at hK ⊢;go_simp;refine hK undef _ ⟨ga,some ⟨g,0,none⟩,c,r,aa ab 0,by simp [upd,e12],by simp [upd,e7],ka.stored 0 _⟩ ⟨cy ka 0 _,⟨rfl,rfl,rfl,by simp [World.setCell],fun b hb=>pM w2 ⟨ga,0,none⟩ _ b (show b≠ga by omega)⟩⟩
  ·obtain rfl:=aT ho;obtain ⟨v10,xh,-⟩:=cd 10 (by simp [wbP])
   simp only [wbP,bq,xh,wbT] at hK ⊢;go_simp;exact hK _ _ trivial (Below.refl _ _)
  ·obtain rfl:=aT ho;obtain ⟨v11,Jn,a,b,e7⟩:=cd 11 (by simp [wbP])
   simp only [wbP,bq,Jn,wbT] at hK ⊢;go_simp;exact hK _ _ ⟨a,b,by simp [upd,e7]⟩ (Below.refl _ _)
 ·obtain ⟨v4,e4,-⟩:=bS 4 zS;obtain ⟨v6,e6,-⟩:=bS 6 zS;obtain ⟨v7,e7,g,c,r,rfl,bn⟩:=bS 7 zS;obtain ⟨v8,e8,-⟩:=bS 8 zS;obtain ⟨v9,e9,-⟩:=bS 9 zS;obtain ⟨v10,xh,-⟩:=bS 10 zS;obtain ⟨v11,Jn,-⟩:=bS 11 zS;obtain ⟨v12,e12,ga,rfl,jQ,-⟩:=bS 12 zS;obtain ⟨v13,e13,gb,A',c',b',d',DD,h7,kb⟩:=bS 13 zS;obtain ⟨v14,e14,-⟩:=bS 14 zS;obtain ⟨v15,e15,a',b2,h15⟩:=bS 15 zS;rw [e12] at DD;injection DD with DD
  injection DD with DD
  injection DD with DD
  injection DD with DD
  subst DD;rw [e7] at h7 h15;injection h7 with h7
  injection h7 with h7
  injection h15 with h15
  injection h15 with h15
  obtain ⟨⟨rfl,rfl⟩,rfl,rfl⟩:(some ⟨g,0,none⟩=A'/\c=c')/\r=b'/\sj .i64 0=d':=by simpa using h7
  obtain ⟨-,-,rfl⟩:rh (some ⟨g,0,none⟩) N c=a'/\r=b2/\sj .i64 0=v15:=by simpa using h15
  clear bS h7 h15;refine aN (by simp only [dC,e4,e6,e7,e8,e9,xh,Jn,e12,e13,e14,e15,gQ,if_true];kernel_rfl) ?_ _
  simp only [bq,e4,e6,e7,e8,e9,xh,Jn,e12,e13,e14,e15,wbT];clear e4 e6 e7 e8 e9 xh Jn e12 e13 e14 e15
  (try simp only [Act.put,aj,ak,al,iL])
  have k0':=k0.ay cY;have xM:=kL.ay cY;have jg:=aF bz cY;clear cY bz k0 kL;clear A5 rq hil Ek
  go_upto_region 3 with fail
  refine aP (S:=fun w'=>Below w2.drew.heap.size w2.drew w') (E:=fun _=>false) zK ?_
  replace k0':=k0'.drew;replace xM:=xM.drew;replace kb:=kb.drew;replace jg:=jg.drew;replace bn:bd w2.drew 0 (af (some ⟨g,0,none⟩) N c) (m0 S):=bn;generalize w2.drew=w5 at *;refine wTk 1 [(0,28,lyV l)] ?_ (Below.refl _ _) ?_
  ·intro w' hS;have fg:(dr 34 ⟨gl,0,none⟩).run aw w'= .ok (lyV l) w':=be w' gl 34 34 (lyC l) (0,0) _ (xM.ay hS) aJ rfl zK
   (repeat' (first | exact aC | refine au ⟨_,rfl,.inl ⟨rfl,?_⟩⟩ ?_))
   all_goals exact list.bI rfl rfl fg
  simp only [aR,Act.put,aj,ak,al];refine wTk 6 [(1,29,.agg #[af (some ⟨g,0,none⟩) N c]),(2,30,ae (some ⟨w.heap.size,0,none⟩)),(3,31,.slice A S cw),(4,32,aa ab S),(6,34,aa ab 0),(7,35,ah false)] ?_ (Below.refl _ _) ?_
  ·intro w' hS;have c0:=(kb.ay hS).cell 0;have c1:=(k0'.ay hS).cell 0;simp at c0 c1
   (repeat' (first | exact aC | refine au ⟨_,rfl,.inl ⟨rfl,?_⟩⟩ ?_))
   all_goals exact zG
  simp only [aR,Act.put,aj,ak,al];have hms:=yk w5 S zO;refine aE (i:=5) (o:=_) zK rfl (fun K hK=>?_)
  (try simp only [aq,ao,an])
  go_simp;have kS:=Bk.made w5 46 (qX S);replace bn:=World.ownsRow.alloc bn (ag (qX S) 46);have jR:=aB jg (ag (qX S) 46);have hSn:Below w5.heap.size w5 (w5.alloc (ag (qX S) 46)):=aB (Below.refl _ _) _;clear hms;refine hK.out _ _ (fun _=>hSn) ?_
  clear hK K;generalize w5.alloc (ag (qX S) 46)=w6 at *
  (try simp only [Act.put,aj,ak,al])
  refine wTk 1 [(8,36,.agg (yd l (af (some ⟨g,0,none⟩) N c) w5.heap.size S (af none 0 0) (af none 0 0)))] ?_ hSn ?_
  ·intro w' hS
   (repeat' (first | exact aC | refine au ⟨_,rfl,.inl ⟨rfl,?_⟩⟩ ?_))
   all_goals kernel_rfl
  simp only [aR,Act.put,aj,ak,al];refine aE (i:=9) (o:=_) zK rfl (fun K hK=>?_)
  (try simp only [aq,ao,an])
  go_simp;have kT:=Bk.made w6 42 (yd l (af (some ⟨g,0,none⟩) N c) w5.heap.size S (af none 0 0) (af none 0 0));replace kS:=kS.alloc (ag (yd l (af (some ⟨g,0,none⟩) N c) w5.heap.size S (af none 0 0) (af none 0 0)) 42);replace bn:=World.ownsRow.alloc bn (ag (yd l (af (some ⟨g,0,none⟩) N c) w5.heap.size S (af none 0 0) (af none 0 0)) 42);have z6:w.heap.size<=w6.heap.size:=jR.size;replace jR:=aB jR (ag (yd l (af (some ⟨g,0,none⟩) N c) w5.heap.size S (af none 0 0) (af none 0 0)) 42);replace hSn:=aB hSn (ag (yd l (af (some ⟨g,0,none⟩) N c) w5.heap.size S (af none 0 0) (af none 0 0)) 42);refine hK.out _ _ (fun _=>hSn) ?_
  clear hK K;generalize w6.alloc (ag (yd l (af (some ⟨g,0,none⟩) N c) w5.heap.size S (af none 0 0) (af none 0 0)) 42)=w7 at *
  (try simp only [Act.put,aj,ak,al])
  refine wTk 1 [(10,2,ae (some ⟨w6.heap.size,0,none⟩))] ?_ hSn ?_
  ·intro w' hS
   (repeat' (first | exact aC | refine au ⟨_,rfl,.inl ⟨rfl,?_⟩⟩ ?_))
   all_goals exact zG
  simp only [aR,Act.put,aj,ak,al];refine aN zK ?_ _
  go_wp2_with fail
  go_ret
  obtain rfl:=HT.out;obtain rfl:=HL.out;have hl:(ni S).aM.length=S:=List.length_replicate;refine ⟨_,rfl,⟨w5.heap.size,af (some ⟨g,0,none⟩) N c,af none 0 0,af none 0 0,⟨z6,jg.size,by rw [hl];exact kT,⟨_,IF kS⟩,⟨g,c,?_,bn⟩,cZ _ _ _ _,cZ _ _ _ _⟩⟩,jR⟩
  show Value.slice _ N c= .slice _ (m0 S).length c;rw [hlen0]
theorem KT (A:Option Addr) (n c:Nat) (T:Option Addr) (m d:Nat) (s0 s1 s2 who:Nat) (h:who < 3):(cK A n c T m d s0 s1 s2)[2+who]? =some (.int .u8 (([s0,s1,s2].getD who 0:Nat))):=by
 have:who=0\/who=1\/who=2:=zO;rcases this with rfl | rfl | rfl <;> rfl
theorem Mt (stops:List Nat) {who:Nat} {t:dG} {x:fZ} (h:who < 3) (hx:t.aM[who]? =some x):iY stops who t=(decide (stops.getD who 0 < 120)&&decide (stops.getD who 0<=x.made)):=by
 unfold iY;rw [show min who 2=who by omega,List.getD_eq_getElem?_getD (l:=t.aM),hx]
 simp [h]
theorem uR (A:Option Addr) (n c:Nat) (T:Option Addr) (m d s0 s1 s2 who B gt:Nat) (l:Ly) (t:dG) (w:World) (hT:lW w B gt l t) (hw:who < t.aM.length) (h3:t.aM.length<=3) (mx:s0 < 256) (qO:s1 < 256) (cY:s2 < 256):
  Calls aw 20 #[ae (some ⟨gt,0,none⟩),.agg (cK A n c T m d s0 s1 s2),aa ab who] w (kW (iY [s0,s1,s2] who t) w):=by
 obtain ⟨gs,mv,ev,cv,X⟩:=hT;obtain ⟨x,hx⟩:∃ x,t.aM[who]? =some x:=⟨_,aO hw⟩;rw [Mt _ zO hx];have hps:=KT A n c T m d s0 s1 s2 who zO;obtain ⟨s,hs⟩:∃ s,[s0,s1,s2].getD who 0=s:=⟨_,rfl⟩;have hs256:s < 256:=by
  have:who=0\/who=1\/who=2:=zO;rw [<- hs];rcases this with rfl | rfl | rfl <;> assumption
 rw [hs] at hps ⊢;clear hs mx qO cY;obtain ⟨cs,iV⟩:=X.aM;have X5:=iV.at_ who x hx;have kT:=X.tab;have kS:=iV.row;have hSm:=X5.made;obtain ⟨S,qP⟩:∃ S,t.aM.length=S:=⟨_,rfl⟩;rw [qP] at kT hw h3;clear X iV X5 qP hx;have k0:=Bk.made w 26 (cK A n c T m d s0 s1 s2);have bz:=aB (Below.refl w.heap.size w) (ag (cK A n c T m d s0 s1 s2) 26);have hmin:∀ (w:World) (ts:Array bR) (t:bR),(Builtin.min_ ts t #[aa ab who,aa ab 2]).run aw w= .ok (aa ab who) w:=fun w ts t=>by
  rw [run_min_int2];split <;> first | rfl | (congr 2;omega)
 have j0:decide ((who:Int) < 3)=true:=by simp;omega
 have j1:(0:Int)<=who:=zO;have j2:(who:Int) < 3:=zO;have j3:(who:Int) < S:=zO;have hwr:IntKind.i64.wrap (s:Int)=s:=cV _ zO;go_enter Tryz.func20,Tryz.ntmps20
 go_upto_region 1 with fail
 replace kT:=kT.alloc (ag (cK A n c T m d s0 s1 s2) 26);replace kS:=kS.alloc (ag (cK A n c T m d s0 s1 s2) 26);generalize w.alloc (ag (cK A n c T m d s0 s1 s2) 26)=w1 at *;obtain ⟨g0,N6⟩:∃ g,w.heap.size=g:=⟨_,rfl⟩;have HG:=ar N6;rw [N6] at k0 bz ⊢;clear N6;refine aP (S:=fun w'=>Below w1.drew.heap.size w1.drew w') (E:=fun _=>false) zK ?_
 replace kT:=kT.drew;replace kS:=kS.drew;replace k0:=k0.drew;replace bz:=bz.drew;generalize w1.drew=w2 at *;refine wTk 8 [(0,7,aa ab who),(1,8,ah true),(2,9,ah true),(3,10,aa ab who),(4,11,aa ab who),(5,12,ae (some ⟨g0,2,none⟩)),(6,13,ae (some ⟨g0,2+who,none⟩)),(7,14,.int .u8 s)] ?_ (Below.refl _ _) ?_
 ·intro w' hS;have c0:=(k0.ay hS).cell (2+who);rw [hps] at c0
  (repeat' (first | exact aC | refine au ⟨_,rfl,.inl ⟨zK,?_⟩⟩ ?_))
  all_goals exact zG
 simp only [aR,Act.put,aj,ak,al]
 by_cases dN:s < 120
 ·have g0x:decide ((s:Int) < 120)=true:=by simp;omega
  have g0n:decide (s < 120)=true:=by simp;omega
  obtain ⟨q,hq⟩:∃ q,decide (s<=x.made)=q:=⟨_,rfl⟩;have hqi:decide ((s:Int)<=x.made)=q:=by rw [<- hq];simp
  refine wTk 20 [(8,15,ah true),(9,16,ah true),(10,17,ah true),(11,18,ae (some ⟨gt,0,none⟩)),(12,19,ae (some ⟨gt,0,none⟩)),(13,20,ae (some ⟨gt,26,none⟩)),(14,21,af (some ⟨gs,0,none⟩) S S),(15,22,aa ab who),(16,23,ae (some ⟨gs,who * 5,none⟩)),(17,24,ae (some ⟨gs,who * 5+4,none⟩)),(18,25,aa ab x.made),(19,26,aa ab who),(20,27,aa ab who),(21,28,ae (some ⟨g0,2,none⟩)),(22,29,ae (some ⟨g0,2+who,none⟩)),(23,30,.int .u8 s),(24,31,aa ab s),(25,32,.bool q),(26,33,.bool q),(27,6,.bool q)] ?_ (Below.refl _ _) ?_
  ·intro w' hS;have c0:=(k0.ay hS).cell (2+who);rw [hps] at c0;have c1:=(kT.ay hS).cell 26;have c2:=(kS.ay hS).cell (who * 5+4);rw [hSm] at c2;have lT:=(kT.ay hS).lt;simp at c1
   (repeat' (first | exact aC | refine au ⟨_,rfl,.inl ⟨zK,?_⟩⟩ ?_))
   all_goals exact zG
  simp only [aR,Act.put,aj,ak,al];refine aN zK ?_ _
  go_wp2_with fail
  go_ret
  refine ⟨?_,by rw [HG.out];exact bz⟩
  rw [g0n,hq];rfl
 ·have g0x:decide ((s:Int) < 120)=false:=by simp;omega
  have g0n:decide (s < 120)=false:=by simp;omega
  refine wTk 20 [(8,15,ah false),(9,16,ah false),(10,17,ah false),(11,18,undef),(12,19,undef),(13,20,undef),(14,21,undef),(15,22,undef),(16,23,undef),(17,24,undef),(18,25,undef),(19,26,undef),(20,27,undef),(21,28,undef),(22,29,undef),(23,30,undef),(24,31,undef),(25,32,undef),(26,33,ah false),(27,6,ah false)] ?_ (Below.refl _ _) ?_
  ·intro w' hS
   (repeat' (first | exact aC | refine au ⟨_,rfl,.inr ⟨zK,rfl⟩⟩ ?_ | refine au ⟨_,rfl,.inl ⟨zK,?_⟩⟩ ?_))
   all_goals exact zG
  simp only [aR,Act.put,aj,ak,al];refine aN zK ?_ _
  go_wp2_with fail
  go_ret
  refine ⟨?_,by rw [HG.out];exact bz⟩
  rw [g0n];rfl
end Go.Proofs.YtikdaeddbkopeaaGreatR
namespace Go.Proofs.YtikdaeddbkopeaaGreatR
def Lo (K:Nat) (p:Int):Prop:=-(K:Int) - 2<=p
theorem yI (K n:Nat):Lo K (n:Int):=by unfold Lo;omega
theorem Lo.more {K K':Nat} {p:Int} (h:Lo K p) (hK:K<=K'):Lo K' p:=by unfold Lo at *;omega
def SX.mb (K:Nat):SX->Prop
 | .go _ s=>s.made<=K
 | .ret _ s=>s.made<=K
 | .stuck=>True
theorem BZ {K:Nat} {s:Pz} (h:s.made<=K) (i:Nat):(dK s i).mb K:=by unfold dK;split <;> exact h
theorem Sub.stp_mb (th:Int) {z:Pz} {K:Nat} (h:z.made<=K) (x:Sub) (r:Int × Bool):(x.stp th z r).mb (K+1):=by
 have hg:z.got.made<=K+1:=by show z.made+1<=_;omega
 cases x <;> simp only [Sub.stp] <;> (repeat' split) <;> first | trivial | exact hg | exact BZ (by exact hg) _
def EK.pb (K:Nat):EK->Prop
 | .ug p=>p<=K
 | .oc o=>Lo K o.aH
 | .orr _ o=>Lo K o.aH
 | .od o=>Lo K o.aH
 | _=>True
def EPh.pb (K:Nat):EPh->Prop
 | .sub _ k=>k.pb K
 | .u7 _ _ _ p=>p<=K
 | .u8 _ _ p=>p<=K
 | .u9 _ _ p=>p<=K
 | _=>True
def EX.pb (K:Nat):EX->Prop
 | .go x s=>x.pb K/\s.made<=K
 | .out o=>Lo K o.aH
 | .stuck=>True
theorem EK.pb.more {K K':Nat} {k:EK} (h:k.pb K) (hK:K<=K'):k.pb K':=by
 cases k <;> first | trivial | exact aQ h hK | exact Lo.more h hK
theorem ya {K:Nat} {x:SX} (h:x.mb K) {k:EK} (hk:k.pb K) {f:Ret->Pz->EX} (hf:∀ r s,s.made<=K->(f r s).pb K):(x.mX k f).pb K:=by
 cases x with
 | go x s=>exact ⟨hk,h⟩
 | ret r s=>exact hf r s h
 | stuck=>trivial
theorem Kl {K:Nat} {s:Pz} (h:s.made<=K) (a:Int) (b:Bool) {c:Int} (hc:Lo K c):(zq a b c s).pb K:=ya (BZ h _) (k:=.oc ⟨a,b,c,[]⟩) hc fun _ _ _=>hc
theorem popE_pb {K:Nat} {s:Pz} (h:s.made<=K):(C0 s).pb K:=⟨trivial,h⟩
theorem resE_pb {K:Nat} {s:Pz} (h:s.made<=K) (r:Ret) {k:EK} (hk:k.pb K):(sx r s k).pb K:=by
 unfold sx
 cases k <;> simp only [] <;> (repeat' split) <;> first | trivial | exact ⟨trivial,h⟩ | exact Kl h _ _ (yI _ _) | exact ⟨hk,h⟩ | exact hk | (rename_i p;show Lo K (-(p:Int) - 2);unfold Lo;have:p<=K:=hk;omega)
theorem EPh.tw (th a:Int) {z:Pz} {K:Nat} (h:z.made<=K) {x:EPh} (hx:x.pb K) (r:Int × Bool):(x.stp th a z r).pb (K+1):=by
 have hg:z.got.made<=K+1:=by show z.made+1<=_;omega
 cases x with
 | sub x k=>
  have hk:k.pb K:=hx;exact ya (Sub.stp_mb th h x r) (hk.more (uO K)) fun t s hs=>resE_pb hs t (hk.more (uO K))
 | u6 n w=>simp only [EPh.stp];split;exact ⟨show z.made<=K+1 by omega,hg⟩;exact ⟨trivial,hg⟩
 | u7 j n w p=>have hp:p<=K:=hx;simp only [EPh.stp];(repeat' split) <;> exact ⟨show p<=K+1 by omega,hg⟩
 | u8 n w p=>have hp:p<=K:=hx;simp only [EPh.stp];split;exact ⟨trivial,hg⟩;exact ⟨show p<=K+1 by omega,hg⟩
 | u9 n w p=>have hp:p<=K:=hx;exact ⟨show p<=K+1 by omega,hg⟩
 | o4 n p=>exact ya (BZ hg _) (k:=.orr n ⟨r.1,true,p,[]⟩) (yI _ _) fun _ s hs=>⟨show Lo _ _ from yI _ _,hs⟩
 | _=>simp only [EPh.stp] <;> (repeat' split) <;> first | exact ⟨trivial,hg⟩ | exact yI _ _ | exact Kl hg _ _ (yI _ _) | exact popE_pb hg
def CPh.pb:CPh->Prop
 | .sub _ (.oc o)=>0<=o.aH
 | _=>True
def CX.pb:CX->Prop
 | .go x _=>x.pb
 | .out o=>0<=o.aH
 | .stuck=>True
theorem Cy {x:SX} {k:CK} (hk:∀ y,(CPh.sub y k).pb) {f:Ret->Pz->CX} (hf:∀ r s,(f r s).pb):(x.qS k f).pb:=by
 cases x with
 | go x s=>exact hk x
 | ret r s=>exact hf r s
 | stuck=>trivial
theorem Ko (a:Int) (b:Bool) (n:Nat) (s:Pz):(lN a b n s).pb:=Cy (k:=.oc ⟨a,b,n,[]⟩) (fun _=>Int.natCast_nonneg n) fun _ _=>Int.natCast_nonneg n
theorem resC_pb (r:Ret) (s:Pz) {k:CK} (hk:∀ y,(CPh.sub y k).pb):(sy r s k).pb:=by
 unfold sy
 cases k <;> simp only [] <;> (repeat' split) <;> first | trivial | exact Ko _ _ _ _ | exact hk .t1
theorem Ni (bP bF:Int) (i:Nat) (s:Pz):(mY bP bF i s).pb:=by unfold mY;split <;> trivial
theorem Nk (bF:Int) (i:Nat) (s:Pz):(mZ bF i s).pb:=by unfold mZ;split <;> trivial
theorem CPh.tw (th a:Int) (z:Pz) {x:CPh} (hx:x.pb) (r:Int × Bool):(x.stp th a z r).pb:=by
 cases x with
 | sub x k=>
  have hk:∀ y,(CPh.sub y k).pb:=fun y=>by cases k <;> exact hx
  exact Cy hk fun t s=>resC_pb t s hk
 | _=>simp only [CPh.stp] <;> (repeat' split) <;> first | trivial | exact Ko _ _ _ _ | exact Ni _ _ _ _ | exact Nk _ _ _
def MX.pb:MX->Prop
 | .out o=>0<=o.aH
 | _=>True
theorem JX (o:dA) (g:cG):(Ab o g).pb:=Int.natCast_nonneg _
theorem I4 (x:LX) (dm:Bool) (sz:Int) (m:Nat) (lo:LOp) {f:dA->Pz->MX} (hf:∀ o s,(f o s).pb):(x.inM dm sz m lo f).pb:=by
 cases x with
 | go x s=>trivial
 | out o s=>exact hf o s
 | stuck=>trivial
theorem Nx (op:MOp) (sz:Int) (o:dA) (n:Nat) (g:cG):(jf op sz o n g).pb:=by unfold jf;(repeat' split) <;> first | trivial | exact JX _ _
theorem Nq (op:MOp) (sz n:Int) (k:Nat) (g:cG):(ku op sz n k g).pb:=by
 unfold ku;split
 ·exact I4 _ _ _ _ _ fun _ _=>trivial
 ·trivial
theorem MPh.tw (th bk:Int) (op:MOp) (n:Nat) (g:cG) (x:MPh) (r:Int × Bool):(x.stp th bk op n g r).pb:=by
 cases x with
 | ml dm sz m lo x s=>
  refine I4 _ _ _ _ _ fun o s=>?_
  cases dm
  ·exact Nx _ _ _ _ _
  ·exact trivial
 | _=>simp only [MPh.stp] <;> (repeat' split) <;> first | trivial | exact Nq _ _ _ _ _ | exact JX _ _ | exact I4 _ _ _ _ _ fun _ _=>trivial
def PX.pb (K:Nat):PX->Prop
 | .go (.m _ _ _)=>True
 | .go (.e x s)=>x.pb K/\s.made<=K
 | .go (.c x _)=>x.pb
 | .out o=>Lo K o.aH
 | .stuck=>True
theorem Ph.tw (th bk:Int) (op:Opr) {K:Nat} {x:Ph} (hx:(PX.go x).pb K) (r:Int × Bool):(x.stp th bk op r).pb (K+1):=by
 cases x with
 | m x n g=>
  have h:=MPh.tw th bk ⟨op.kind,op.a,op.b⟩ n g x r;show (x.stp th bk ⟨op.kind,op.a,op.b⟩ n g r).p.pb _
  cases hh:x.stp th bk ⟨op.kind,op.a,op.b⟩ n g r <;> rw [hh] at h
  ·trivial
  ·rename_i o;have h2:0<=o.aH:=h;show Lo _ o.aH;unfold Lo;omega
  ·trivial
 | e x z=>
  have h:=EPh.tw th op.a hx.2 hx.1 r;show (x.stp th op.a z r).p.pb _
  cases hh:x.stp th op.a z r <;> rw [hh] at h <;> exact h
 | c x z=>
  have h:=CPh.tw th op.a z (x:=x) hx r;show (x.stp th op.a z r).p.pb _
  cases hh:x.stp th op.a z r <;> rw [hh] at h
  ·exact h
  ·rename_i o;have h2:0<=o.aH:=h;show Lo _ o.aH;unfold Lo;omega
  ·trivial
theorem KG (op:Opr) (g:cG):(gz op g).pb 0:=by
 unfold gz uU uV C0 qW JW
 (repeat' split) <;> first | trivial | exact ⟨trivial,az 0⟩
theorem Ks (th bk:Int) (op:Opr):∀ (l:Log) (K:Nat) (p:PX),p.pb K->(JC th bk op p l).pb (K+l.length)
 | [],K,p,h=>by rw [nR];exact h
 | r :: l,K,p,h=>by
  cases p with
  | go x=>
   have:=Ks th bk op l (K+1) _ (Ph.tw th bk op h r);rw [List.length_cons,show K+(l.length+1)=K+1+l.length by omega];exact this
  | out o=>exact Lo.more (show Lo K o.aH from h) zO
  | stuck=>trivial
theorem curW_lo {S:Nat} {op:Opr} {x:fZ} {o:Out} (h:pz S op x= .out o):-(x.log.length:Int) - 2<=o.aH:=by
 have:=Ks ((2 * S:Nat):Int) 2 op x.log 0 _ (KG op x.gone);unfold pz at h;rw [h] at this;have h2:Lo _ _:=this;unfold Lo at h2;omega
end Go.Proofs.YtikdaeddbkopeaaGreatR
namespace Go.Proofs.YtikdaeddbkopeaaGreatR
open Go.RowKit
attribute [local go_sem ↓] aV aW
def Be:Nat->Nat | 10=>73 | 11=>62 | 12=>74 | 13=>75 | 14=>76 | 15=>9 | 16=>10 | 17=>283 | 18=>284 | 19=>11 | _=>285
def Bd:Nat->Nat | 5=>225 | 6=>219 | 7=>226 | 8=>227 | 9=>228 | 10=>16 | 11=>17 | 12=>283 | 13=>284 | 14=>18 | _=>285
def NxX (l:Ly) (q:An Out) (c1 c2:Array Value) (v3:Value) (w:World):Prop:=
 ∃ ck cc co cv val is er pt gG gn gc dn,c1=bj ck cc co cv/\c2=br val is er pt (.slice gG gn gc)/\v3= .bool dn/\
  ((∃ a,q= .ask a/\ck=a.k/\cc=adr l a.c/\co=a.o/\cv=a.v/\dn=false)\/(∃ o,q= .fin o/\val=o.val/\is=o.is/\er=0/\pt=o.aH/\dn=true/\bN w (.slice gG gn gc) o.gone))
theorem Nd (l:Ly) (q:An Out) (c1 c2:Array Value) (v3:Value) (w1 w2:World) (h:NxX l q c1 c2 v3 w1) (hk:(eU 67 w1 w2\/eU 70 w1 w2\/Below w1.heap.size w1 w2)):NxX l q c1 c2 v3 w2:=by
 obtain ⟨ck,cc,co,cv,val,is,er,pt,gG,gn,gc,dn,rfl,rfl,rfl,hX⟩:=h;refine ⟨ck,cc,co,cv,val,is,er,pt,gG,gn,gc,dn,rfl,rfl,rfl,?_⟩;rcases hX with hX | ⟨o,h1,h2,h3,h4,h5,h6,h7⟩
 ·exact .inl hX
 ·refine .inr ⟨o,h1,h2,h3,h4,h5,h6,?_⟩;rcases hk with hk | hk | hk
  ·exact h7.sV (hk.r zD zD zD)
  ·exact h7.sV (hk.r zD zD zD)
  ·exact h7.ay hk
theorem Nc {l:Ly} {q:An Out} {w:World} {e:lb} {w':World} (h:jd l q w e w'):∃ c1 c2 v3,e=ai (tr c1 c2 v3)/\NxX l q c1 c2 v3 w'/\Below w.heap.size w w':=by
 obtain ⟨hc,hb⟩:=h;rcases hc with ⟨a,h1,rfl⟩ | ⟨o,gv,h1,rfl,h2⟩
 ·exact ⟨_,_,_,rfl,⟨_,_,_,_,_,_,_,_,_,_,_,_,rfl,rfl,rfl,.inl ⟨a,h1,rfl,rfl,rfl,rfl,rfl⟩⟩,hb⟩
 ·obtain ⟨G,c,rfl,h3,h4⟩:=h2;exact ⟨_,_,_,rfl,⟨_,_,_,_,_,_,_,_,_,_,_,_,rfl,rfl,rfl,.inr ⟨o,h1,rfl,rfl,rfl,rfl,rfl,G,c,rfl,h3,h4⟩⟩,hb⟩
theorem yj {w:World} {g:Nat} {t:bR} {cs:Array Value} {i:Nat} {u:Value} (k:Bk w g t cs) (h:cs[i]? =some u):w.setCell ⟨g,i,none⟩ u=w:=by
 have e:(w.setCell ⟨g,i,none⟩ u).heap=w.heap:=by
  apply Array.ext_getElem?;intro j
  by_cases hj:j=g
  ·subst hj;have h1:=k.stored i u;have h2:cs.setIfInBounds i u=cs:=by
    apply Array.ext_getElem?;intro m;rw [Array.getElem?_setIfInBounds];split
    ·rename_i e;subst e;split
     ·exact h.symm
     ·rw [Array.getElem?_eq_none zO]
    ·rfl
   rw [h2] at h1;rw [h1,k]
  ·exact pM w ⟨g,i,none⟩ u j hj
 have e2:w.setCell ⟨g,i,none⟩ u={ w with heap:=(w.setCell ⟨g,i,none⟩ u).heap }:=rfl
 rw [e2,e]
theorem own_cap {w:World} {base sz n m c:Nat} {e:bR} {G:Option Addr} {xs:List Value} (h:w.ownsRow base e sz (.slice G m c) n xs):n<=c:=by
 rcases h.2 with ⟨h1,h2⟩ | ⟨g,cap,cur,h1,_,_,h4,_⟩
 ·omega
 ·injection h1 with _ _ h1;subst h1;exact h4
theorem soN {w:World} {b c:Nat} {G:Option Addr} {l:List Nat} (h:bd w b (.slice G l.length c) (lq l)):w.ownsRow b 3 1 (.slice G l.length c) l.length (ints (lq l)):=by
 unfold bd at h;rw [uS] at h;exact h
def DoX (a:Acc) (m:List Int) (c1 c2:Array Value) (v3:Value) (w:World):Prop:=
 ∃ g cap,(c1=#[af (some ⟨g,0,none⟩) m.length cap]/\c2=#[aa ab (a.had m),ah (a.ok (a.had m))]/\v3=aa ab 0)/\bd w 0 (af (some ⟨g,0,none⟩) m.length cap) (a.make m)
theorem Oo {a:Acc} {m:List Int}:∀ (c1 c2:Array Value) (v3:Value) (w1 w2:World),DoX a m c1 c2 v3 w1->(eU 37 w1 w2\/eU 75 w1 w2\/Below w1.heap.size w1 w2)->DoX a m c1 c2 v3 w2:=by
 rintro c1 c2 v3 w1 w2 ⟨g,cap,h1,h2⟩ hd;refine ⟨g,cap,h1,?_⟩;rcases hd with h | h | h
 ·exact cz h2 h zD
 ·exact cz h2 h zD
 ·exact bc h2 h
theorem fJ {w:World} {base cap:Nat} {G:Option Addr} {zs:List Int} (h:bd w base (.slice G zs.length cap) zs):gJ w w.heap.size G zs:=by
 intro hl;obtain ⟨g,Jv,he,_,hg⟩:=World.ownsRow.form h hl;injection he with he _ _
 subst he;refine ⟨g,0,rfl,hg,fun k r hk=>?_⟩
 have dN:=(a8.1 hk).1;rw [eE,jj h k zO];simp [ints,hk]
def lQ (l:Ly) (want:List (List Opr)) (who B gt:Nat) (t:dG) (w:World) (e:lb) (w':World):Prop:=
 e=ai (ah (ff l want who t).2)/\lW w' B gt l (ff l want who t).1/\jW B w w'
structure WyH (w0 w:World) (B gt gs gx bw ow S cw m d s0 s1 s2 who:Nat) (T A':Option Addr) (c':Nat) (ops:List Opr) (Gl:Option Addr) (cl:Nat) (Gs:Option Addr) (vF:Nat) (Gg:Option Addr) (cg:Nat) (x:fZ) (mv ev cv:Value) (t:dG):Prop where
 kx:Bk w gx 46 #[aa ab x.pos,.slice Gl x.log.length cl,.slice Gs x.steps.length vF,.slice Gg x.gone.length cg,aa ab x.made]
 k0:Bk w w0.heap.size 26 (cK (some ⟨bw,ow,none⟩) S cw T m d s0 s1 s2)
 bl:Below w0.heap.size w0 w
 cw2:w.cell? ⟨bw,ow+who,none⟩=some (.slice A' ops.length c')
 bB:bw < B/\B<=w0.heap.size
 gl:gs < gx/\gt < gx/\w0.heap.size < gx
 X:mz w B gt gs (lyW S) mv ev cv t
 op:tf w B A' ops
 lo:lS w 0 (.slice Gl x.log.length cl) x.log
 so:bd w 0 (.slice Gs x.steps.length vF) (lq x.steps)
 go:bN w (.slice Gg x.gone.length cg) x.gone
 ts:jW B w0 w
theorem WyH.ay {w0 w w':World} {B gt gs gx bw ow S cw m d s0 s1 s2 who:Nat} {T A':Option Addr} {c':Nat} {ops:List Opr} {Gl:Option Addr} {cl:Nat} {Gs:Option Addr} {vF:Nat} {Gg:Option Addr} {cg:Nat} {x:fZ} {mv ev cv:Value} {t:dG}
  (h:WyH w0 w B gt gs gx bw ow S cw m d s0 s1 s2 who T A' c' ops Gl cl Gs vF Gg cg x mv ev cv t) (hb:Below w.heap.size w w'):WyH w0 w' B gt gs gx bw ow S cw m d s0 s1 s2 who T A' c' ops Gl cl Gs vF Gg cg x mv ev cv t:=
 have hB:B<=w.heap.size:=aQ h.bB.2 h.bl.size
 ⟨h.kx.ay hb,h.k0.ay hb,aF h.bl hb,(cO hb (bg h.bB.1 hB)).trans h.cw2,h.bB,h.gl,h.X.ay hb,h.op.below (hb.mono hB),bc h.lo hb,bc h.so hb,h.go.ay hb,h.ts.trans (.aS hb hB)⟩
structure WyK (w0 w:World) (B gt gs gx gA gR:Nat) (cx cA cR:Array Value) (vl vs vg:Value) (log:Log) (steps:List Nat) (gone:cG) (l:Ly) (mv ev cv:Value) (t:dG):Prop where
 kx:Bk w gx 46 cx
 kA:Bk w gA 67 cA
 kR:Bk w gR 75 cR
 X:mz w B gt gs l mv ev cv t
 ts:jW B w0 w
 gl:gs < gx/\gt < gx/\B<=gx/\B<=w.heap.size
 lo:lS w 0 vl log
 so:bd w 0 vs (lq steps)
 go:bN w vg gone
section
variable {w0 w w':World} {B gt gs gx gA gR:Nat} {cx cA cR:Array Value} {vl vs vg:Value} {log:Log} {steps:List Nat} {gone:cG} {l:Ly} {mv ev cv:Value} {t:dG}
theorem WyK.ay (h:WyK w0 w B gt gs gx gA gR cx cA cR vl vs vg log steps gone l mv ev cv t) (hb:Below w.heap.size w w'):WyK w0 w' B gt gs gx gA gR cx cA cR vl vs vg log steps gone l mv ev cv t:=
 ⟨h.kx.ay hb,h.kA.ay hb,h.kR.ay hb,h.X.ay hb,h.ts.trans (.aS hb h.gl.2.2.2),⟨h.gl.1,h.gl.2.1,h.gl.2.2.1,aQ h.gl.2.2.2 hb.size⟩,bc h.lo hb,bc h.so hb,h.go.ay hb⟩
theorem WyK.xp (h:WyK w0 w B gt gs gx gA gR cx cA cR vl vs vg log steps gone l mv ev cv t) {t0:bR} (hk:eU t0 w w') (h0:t0=42\/t0=46) (hs:w.heap.size<=w'.heap.size) (ts:jW B w w') {cx':Array Value} (kx:Bk w' gx 46 cx') {mv' Lr Lt:Value} {t':dG} (X:mz w' B gt gs l mv' Lr Lt t'):WyK w0 w' B gt gs gx gA gR cx' cA cR vl vs vg log steps gone l mv' Lr Lt t':=by
 have n1:t0≠75/\t0≠3/\t0≠52/\t0≠67:=by rcases h0 with rfl | rfl <;> decide
 have hr:=hk.r n1.1 n1.2.1 n1.2.2.1;exact ⟨kx,h.kA.dh hk (fun e=>n1.2.2.2 e.symm),h.kR.dh hk (fun e=>n1.1 e.symm),X,h.ts.trans ts,⟨h.gl.1,h.gl.2.1,h.gl.2.2.1,aQ h.gl.2.2.2 hs⟩,mu h.lo hr (.inl rfl),mu h.so hr (.inr (.inl rfl)),h.go.sV hr⟩
theorem WyK.setX (h:WyK w0 w B gt gs gx gA gR cx cA cR vl vs vg log steps gone l mv ev cv t) (i:Nat) (u:Value):WyK w0 (w.setCell ⟨gx,i,none⟩ u) B gt gs gx gA gR (cx.setIfInBounds i u) cA cR vl vs vg log steps gone l mv ev cv t:=
 h.xp (cy h.kx i u) (.inr rfl) zS (.set h.gl.2.2.1 h.kx (.inr (.inl rfl)) i u) (h.kx.stored i u) (h.X.aside h.kx zD zD zD zD zD (Nat.ne_of_lt h.gl.2.1) (Nat.ne_of_lt h.gl.1) u)
theorem WyK.rows (h:WyK w0 w B gt gs gx gA gR cx cA cR vl vs vg log steps gone l mv ev cv t) {vl' vs':Value} {log':Log} {steps':List Nat} (lo:lS w 0 vl' log') (so:bd w 0 vs' (lq steps')):WyK w0 w B gt gs gx gA gR cx cA cR vl' vs' vg log' steps' gone l mv ev cv t:=
 ⟨h.kx,h.kA,h.kR,h.X,h.ts,h.gl,lo,so,h.go⟩
end
theorem z7 (l:Log):∀ v∈iu l,v.oneCell'=true:=by
 intro v hv;simp only [iu,List.mem_flatMap] at hv;obtain ⟨r,_,hr⟩:=hv;simp at hr;rcases hr with rfl | rfl <;> rfl
theorem yt (l:Log) (r:Int × Bool):iu (l++[r])=iu l++[aa ab r.1,.bool r.2]:=by simp [iu]
theorem Lb (l:List Int):∀ v∈ints l,v.oneCell'=true:=by
 intro v hv;simp only [ints,List.mem_map] at hv;obtain ⟨r,_,rfl⟩:=hv;rfl
theorem MQ:∃ i,rI aw 43 75 i (.agg #[aa ab 0,ah false]) 2 16:=rI.of Tryz.underlying43 CU zK zD
theorem ph:∃ i,rI aw 35 3 i (aa ab 0) 1 8:=rI.of su jw zK zD
theorem LF:(Tryz.prog.info? 56).map (fun i=>(i.zero,i.size,i.bytes))=some (some (.agg #[aa ab 0,aa ab 0,aa ab 0,aa ab 0,aa ab 0,aa ab 0,ah false,aa ab 0,aa ab 0,aa ab 0]),10,80):=zK
theorem LD:∃ i,rI aw 40 56 i (.agg #[aa ab 0,aa ab 0,aa ab 0,aa ab 0,aa ab 0,aa ab 0,ah false,aa ab 0,aa ab 0,aa ab 0]) 10 80:=rI.of Tryz.underlying40 LF zK zD
theorem ev_info:(Tryz.prog.info? 79).map (fun i=>(i.zero,i.size,i.bytes))=some (some (.agg #[aa ab 0,aa ab 0,aa ab 0,aa ab 0,aa ab 0,aa ab 0,aa ab 0,ah false]),8,64):=zK
theorem ev_rowT:∃ i,rI aw 39 79 i (.agg #[aa ab 0,aa ab 0,aa ab 0,aa ab 0,aa ab 0,aa ab 0,aa ab 0,ah false]) 8 64:=rI.of Tryz.underlying39 ev_info zK zD
def zB (k:Nat):Code->Option Code
 | .seq (.region id ops b) y=>if id=k then some y else zB k y
 | .seq x y=>match zB k x with
  | some c=>some c
  | none=>zB k y
 | _=>none
def regR (k:Nat):Code->Option Code
 | .seq (.region id ops b) y=>if id=k then some (.region id ops b) else regR k y
 | .seq x y=>match regR k x with
  | some c=>some c
  | none=>regR k y
 | _=>none
noncomputable def turn26:Code:=((Tryz.f9.body.bind (regR 26)).getD .skip)
noncomputable def CG:Code:=((Tryz.f9.body.bind (zB 26)).getD .skip)
noncomputable def CI:Code:=((Tryz.f9.body.bind (zB 7)).getD .skip)
theorem turn_F {y1 y3 y4 y5 y6 y12 y13 y14 y15 y16 y17 y18 y19 y20 y21 y22 y23 y24 y25 y26 y27 y28 y29 y30 y31 y32 y33 y34 y35 y36 y37 y38 y39 y40 y41 y42 y43 y44 y45 y46 y47 y48 y49 y50 y51 y52 y53 y54 y55 y56 y57 y58 y59 y60 y61 y62 y63 y64 y65 y66 y67 y68 y69 y70 y71 y72 y73 y74 y75 y76 y77 y78 y79 y80 y81 y82 y83 y84 y85 y86 y87 y88 y89 y90 y91 y92 y93 y94 y95 y96 y97 y98 y99 Io Im Il Ik Ij Ii Ih Ig If Ie Ic Ib Ia H9 H8 H7 H6 H5 H4 H0 HU HI Hz Hy Hx Hw Hv Hu Ht Hs Hq Hp Ho Hn Hm Hl Hk Hj Hi Hh Hg Hf He Hc Hb Ha G8 G7 GZ GY GX GW GV GU GS GR GQ GP GO GN GM GL GK GJ GI GH GG GB Gz Gy Gx Gw Gv Gu Gt Gr Gq Gp Gn Gm Gk Gj Gi Gf Ge Gc Gb Ga F9 F8 F7 F6 F5 F4 F3 F2 F1 F0 FZ FY FX FW FV FU FT FR FQ FP FO FN FM FL FJ FI FH FF FE FD FC FB FA Fz Fy Fx Fw Fv Fu Ft Fs Fq Fo Fm Fl Fk Fj Fi Fh Fg Ff Fe Fc Fb Fa E9 E8 E7 E6 E5 E4 E3 E2 E1 E0 EZ EY EW EV EU ET ES ER EP EO EN EM EL EJ EI EH EG EF EE ED EC EB EA Ez Ey Ex Ew Ev Eu Et:Value} {S who B gt:Nat} {want:List (List Opr)} {t:dG} {x:fZ} {ops:List Opr} {op:Opr} {w wH:World} {gs gx bw ow cw m d s0 s1 s2 c' cl vF cg gO gA gU:Nat} {T A' Gl Gs Gg:Option Addr} {mv ev cv:Value} {q1:Sq}
  (H:WyH w wH B gt gs gx bw ow S cw m d s0 s1 s2 who T A' c' ops Gl cl Gs vF Gg cg x mv ev cv t) (kO:Bk wH gO 54 (eg op)) (jQ:gO < gA/\gO < gU) (Jg:gx < gO) (qP:t.aM.length=S) (om:who < S) (h1:1<=S) (h3:S<=3) (hN:t.events.length+1<=90000) (hC:t.calls.length+1<=90000) (hx:t.aM[who]? =some x) (R:Cc S ops q1 x t.events.length)
  {o:Out} {gG:Option Addr} {gn gc:Nat} (iO:Bk wH gU 70 (br o.val o.is 0 o.aH (.slice gG gn gc))) (qN:bN wH (.slice gG gn gc) o.gone) (tR:ff (lyW S) want who t=(yY who x op o t,true)) (Jb:-(x.steps.length:Int) - 2<=o.aH) (hne0:x.log≠[]) (hps:x.pos<=3):Code.wp aw CI (bodyPost aw Tryz.f9 (lQ (lyW S) want who B gt t w)) ⟨#[ae (some ⟨gt,0,none⟩),y1,aa ab who,y3,y4,y5,y6,ae (some ⟨gx,0,none⟩),ae (some ⟨gO,0,none⟩),ptr gA,ptr gU,ah true,y12,y13,y14,y15,y16,y17,y18,y19,y20,y21,y22,y23,y24,y25,y26,y27,y28,y29,y30,y31,y32,y33,y34,y35,y36,y37,y38,y39,y40,y41,y42,y43,y44,y45,y46,y47,y48,y49,y50,y51,y52,y53,y54,y55,y56,y57,y58,y59,y60,y61,y62,y63,y64,y65,y66,y67,y68,y69,y70,y71,y72,y73,y74,y75,y76,y77,y78,y79,y80,y81,y82,y83,y84,y85,y86,y87,y88,y89,y90,y91,y92,y93,y94,y95,y96,y97,y98,y99,Io,Im,Il,Ik,Ij,Ii,Ih,Ig,If,Ie,Ic,Ib,Ia,H9,H8,H7,H6,H5,H4,H0,HU,HI,Hz,Hy,Hx,Hw,Hv,Hu,Ht,Hs,Hq,Hp,Ho,Hn,Hm,Hl,Hk,Hj,Hi,Hh,Hg,Hf,He,Hc,Hb,Ha,G8,G7,GZ,GY,GX,GW,GV,GU,GS,GR,GQ,GP,GO,GN,GM,GL,GK,GJ,GI,GH,GG,GB,Gz,Gy,Gx,Gw,Gv,Gu,Gt,Gr,Gq,Gp,Gn,Gm,Gk,Gj,Gi,Gf,Ge,Gc,Gb,Ga,F9,F8,F7,F6,F5,F4,F3,F2,F1,F0,FZ,FY,FX,FW,FV,FU,FT,FR,FQ,FP,FO,FN,FM,FL,FJ,FI,FH,FF,FE,FD,FC,FB,FA,Fz,Fy,Fx,Fw,Fv,Fu,Ft,Fs,Fq,Fo,Fm,Fl,Fk,Fj,Fi,Fh,Fg,Ff,Fe,Fc,Fb,Fa,E9,E8,E7,E6,E5,E4,E3,E2,E1,E0,EZ,EY,EW,EV,EU,ET,ES,ER,EP,EO,EN,EM,EL,EJ,EI,EH,EG,EF,EE,ED,EC,EB,EA,Ez,Ey,Ex,Ew,Ev,Eu,Et],[]⟩ wH:=by
 have HR:=ar R;clear R
 conv=>arg 2;whnf
 have dF:x.steps.length≠0:=by have:=HR.out.sl;have:x.log.length≠0:=fun h=>hne0 (List.eq_nil_of_length_eq_zero h);omega
 have dD:x.steps.length<=90000:=by have:=HR.out.sl;have:=HR.out.ll;omega
 obtain ⟨gst,cgs,hGs,-,hgs⟩:=World.ownsRow.form H.so (by rw [uS];omega)
 injection hGs with hGs e1 e2
 clear e1 e2;subst hGs;have aG:∀ k v,x.steps[k]? =some v->wH.cell? ⟨gst,k,none⟩=some (aa ab (v:Nat)):=fun k v hk=>by
  have dN:=(a8.1 hk).1;rw [jj (soN H.so) k zO];simp [ints,lq,hk]
 obtain ⟨sF,hsF⟩:∃ v,x.steps[0]? =some v:=⟨_,aO zO⟩;obtain ⟨sL,hsL⟩:∃ v,x.steps[x.steps.length - 1]? =some v:=⟨_,aO zO⟩;have hF:x.steps.headD 0=sF:=by cases hl:x.steps with | nil=>rw [hl] at hsF;simp at hsF | cons a r=>rw [hl] at hsF;simpa using hsF
 have Md:x.steps.getLastD 0=sL:=by rw [List.getLastD_eq_getLast?,List.getLast?_eq_getElem?,hsL];rfl
 have xC:=ar (au aG (au hF (au Md hgs)));have kw:IntKind.i64.wrap ((x.steps.length:Int) - 1)=((x.steps.length - 1:Nat):Int):=by
  have:=cV ((x.steps.length:Int) - 1) zO;rw [this];omega
 have jn:x.steps≠[]:=fun h=>dF (by rw [h];rfl)
 have jb:(x.steps.length==0)=false/\decide (x.steps.length=0)=false/\((x.steps.length:Int)==0)=false/\decide ((x.steps.length:Int)=0)=false:=by simp [dF]
 obtain ⟨jb1,jb2,jb3,jb4⟩:=jb;have j5:(0:Int) < x.steps.length:=zO;have j6:((x.steps.length - 1:Nat):Int) < x.steps.length:=zO;have hsF':=aG 0 sF hsF;have hsL':=aG _ sL hsL;have c0:=H.kx.cell 2;have c1:=iO.cell 2;simp at c0 c1;clear aG hF Md hgs hsF hsL;have sQ:=ar (au tR qN);clear tR qN
 go_upto_region 12 with fail
 clear c0 c1;refine aP (S:=fun w'=>Below wH.drew.heap.size wH.drew w') (E:=fun _=>false) zK ?_
 have Kd:=aU (Below.refl wH.heap.size wH);have hsF2:=(cO Kd xC.out.2.2.2).trans hsF';have hsL2:=(cO Kd xC.out.2.2.2).trans hsL';have hgs2:=bg xC.out.2.2.2 Kd.size;replace H:=H.ay Kd;replace kO:=kO.ay Kd;replace iO:=iO.ay Kd;have qN:=sQ.out.2.ay Kd;clear hsF' hsL' Kd;generalize wH.drew=wI at *;refine wTk 1 [(1,91,.agg (eg op))] ?_ (Below.refl _ _) ?_
 ·intro w' hS;have fg:(dr 54 ⟨gO,0,none⟩).run aw w'= .ok (.agg (eg op)) w':=be w' gO 54 54 (eg op) (0,0) _ (kO.ay hS) Tryz.underlying54 rfl zK
  (repeat' (first | exact aC | refine au ⟨_,rfl,.inl ⟨rfl,?_⟩⟩ ?_))
  all_goals exact list.bI rfl rfl fg
 simp only [aR,Act.put,aj,ak,al];refine wTk 17 [(0,90,aa ab who),(2,92,ae (some ⟨gU,0,none⟩)),(3,93,aa ab o.val),(4,94,ae (some ⟨gU,1,none⟩)),(5,95,.bool o.is),(6,96,ae (some ⟨gx,2,none⟩)),(7,97,af (some ⟨gst,0,none⟩) x.steps.length vF),(8,98,ae (some ⟨gst,0,none⟩)),(9,99,aa ab (sF:Nat)),(10,100,ae (some ⟨gx,2,none⟩)),(11,101,af (some ⟨gst,0,none⟩) x.steps.length vF),(12,102,ae (some ⟨gx,2,none⟩)),(13,103,af (some ⟨gst,0,none⟩) x.steps.length vF),(14,104,aa ab (x.steps.length:Nat)),(15,105,aa ab (x.steps.length - 1:Nat)),(16,106,ae (some ⟨gst,x.steps.length - 1,none⟩)),(17,107,aa ab (sL:Nat))] ?_ (Below.refl _ _) ?_
 ·intro w' hS;have H':=H.ay hS;have c0:=H'.kx.cell 2;have k1:=iO.ay hS;have c1:=k1.cell 0;have c2:=k1.cell 1;have c3:=(cO hS hgs2).trans hsF2;have c4:=(cO hS hgs2).trans hsL2;simp at c0 c1 c2;clear H H'
  (repeat' (first | exact aC | refine au ⟨_,rfl,.inl ⟨rfl,?_⟩⟩ ?_))
  all_goals exact zG
 simp only [aR,Act.put,aj,ak,al];refine wTk 1 [(18,108,.agg (jN ⟨who,op,o.val,o.is,sF,sL,-1⟩))] ?_ (Below.refl _ _) ?_
 ·intro w' hS
  (repeat' (first | exact aC | refine au ⟨_,rfl,.inl ⟨rfl,?_⟩⟩ ?_))
  all_goals kernel_rfl
 simp only [aR,Act.put,aj,ak,al];refine aE (i:=19) (o:=_) zK rfl (fun K hK=>?_)
 (try simp only [aq,ao,an])
 go_simp;have kC:=Bk.made wI 56 #[aa ab 0,aa ab 0,aa ab 0,aa ab 0,aa ab 0,aa ab 0,ah false,aa ab 0,aa ab 0,aa ab 0];have hbD:=aB (Below.refl wI.heap.size wI) (ag #[aa ab 0,aa ab 0,aa ab 0,aa ab 0,aa ab 0,aa ab 0,ah false,aa ab 0,aa ab 0,aa ab 0] 56);refine hK.out _ _ (fun _=>hbD) ?_
 clear hK K;generalize wI.alloc (ag #[aa ab 0,aa ab 0,aa ab 0,aa ab 0,aa ab 0,aa ab 0,ah false,aa ab 0,aa ab 0,aa ab 0] 56)=wJ at *;obtain ⟨gC,hgC⟩:∃ z,wI.heap.size=z:=⟨_,rfl⟩;have HGC:=ar hgC;rw [hgC] at kC;refine aE (i:=20) (o:=_) zK rfl (fun K hK=>?_)
 (try simp only [aq,ao,an])
 rw [hgC];refine dH 56 (.tmp 12) (.tmp 108) rfl gC _ rfl rfl 56 #[aa ab 0,aa ab 0,aa ab 0,aa ab 0,aa ab 0,aa ab 0,ah false,aa ab 0,aa ab 0,aa ab 0] kC zK rfl (by simp [aD]) ?_
 have hbE:Below wI.heap.size wI (wJ.setRow gC (jN ⟨who,op,o.val,o.is,sF,sL,-1⟩)):=hbD.trans (fC (Nat.le_of_eq hgC) _);replace kC:Bk (wJ.setRow gC (jN ⟨who,op,o.val,o.is,sF,sL,-1⟩)) gC 56 (jN ⟨who,op,o.val,o.is,sF,sL,-1⟩):=Cm _ _ _ _ _ _ kC;refine hK.out _ _ (fun _=>hbE) ?_
 clear hK K hbD;generalize wJ.setRow gC (jN ⟨who,op,o.val,o.is,sF,sL,-1⟩)=wK at *
 (try simp only [Act.put,aj,ak,al])
 refine aN zK ?_ _;have hgC1:gx < gC/\gU < gC/\gt < gC:=by have:=H.kx.lt;have:=iO.lt;have:=H.gl;omega
 have aG:∀ k v,x.steps[k]? =some v->wK.cell? ⟨gst,k,none⟩=some (aa ab (v:Nat)):=fun k v hk=>by
  have dN:=(a8.1 hk).1;rw [jj (soN (bc H.so hbE)) k zO];simp [ints,lq,hk]
 have HST2:=ar (au aG hgs2);have hwI:=H;have HB0:=ar iO;replace iO:=iO.ay hbE;have c0:=(H.kx.ay hbE).cell 2;have c1:=iO.cell 3;have f9:=kC.free 9;have l9:=kC.lt;have c9:=kC.cell 9;simp at c0 c1 c9;clear aG hsF2 hsL2 hgs2 hgC;have HG9:=ar (au qN kO);clear c0 c1 f9 l9;have HB1:=ar iO;clear qN kO iO c9 jn jb1 jb2 jb3 jb4 j5 j6 kw hwI;obtain ⟨pt,hpt⟩:∃ p,o.aH=p:=⟨_,rfl⟩;have HPT:=ar hpt;rw [hpt] at Jb;clear hpt;obtain ⟨pA,hpA⟩:∃ p:Int,(if 0<=pt/\pt < x.steps.length then ((x.steps.getD pt.toNat 0:Nat):Int) else -1)=p:=⟨_,rfl⟩
 have HPA:=ar hpA;have HHL:=ar (au Jb dD);clear hpA Jb dD;have HBE:=ar hbE;have HKC:=ar kC;have HH:=ar H;clear hbE kC H;dsimp only [Exit.then]
 apply_assumption
 refine wp_seq_k (fun K1 hK1=>?_)
 go_cut [] from 109 to 126 (fun wx=>Below wI.heap.size wI wx/\Bk wx gC 56 (jN ⟨who,op,o.val,o.is,sF,sL,pA⟩))
 case first=>
  have H':=HH.out.ay HBE.out;have c0:=H'.kx.cell 2;have c1:=HB1.out.cell 3;have f9:=HKC.out.free 9;have l9:=HKC.out.lt;have c9:=HKC.out.cell 9;simp at c0 c1 c9;rw [HPT.out] at c1;clear H'
  by_cases p0:0<=pt
  ·have g1:decide (0<=pt)=true:=by simp;omega
   by_cases p1:pt < x.steps.length
   ·obtain ⟨k,rfl⟩:∃ k:Nat,pt=k:=⟨pt.toNat,zO⟩;obtain ⟨sv,NQ⟩:∃ v,x.steps[k]? =some v:=⟨_,aO zO⟩;have hs:=HST2.out.1 k sv NQ;have g2:decide ((k:Int) < x.steps.length)=true:=by simp;omega
    have g2n:k < x.steps.length:=zO;have j1:(0:Int)<=k:=zO;have Cp:=HPA.out;rw [if_pos ⟨p0,p1⟩] at Cp;simp [NQ] at Cp;subst Cp;clear p0 p1 NQ
    go_wp2_with fail
    go_meet
    exact ⟨HBE.out.setCell (by rw [HGC.out];exact az _) _,HKC.out.stored 9 _⟩
   ·have g2:decide (pt < x.steps.length)=false:=by simp;omega
    have Cp:=HPA.out;rw [if_neg zO] at Cp;subst Cp
    go_wp2_with fail
    go_meet
    exact ⟨HBE.out,HKC.out⟩
  ·have g1:decide (0<=pt)=false:=by simp;omega
   have Cp:=HPA.out;rw [if_neg zO] at Cp;subst Cp
   go_wp2_with fail
   go_meet
   exact ⟨HBE.out,HKC.out⟩
 case rest=>
  obtain ⟨hbx,xv⟩:=hcut;have HBX:=ar hbx;have JI:=ar xv;clear HKC HB1 HBE hbx xv
  apply_assumption
  clear hK1 K1;refine wp_seq_k (fun K1 hK1=>?_)
  go_cut [] from 127 to 150 (fun wx=>Below wI.heap.size wI wx/\Bk wx gC 56 (jN ⟨who,op,o.val,o.is,sF,sL,fS x.steps pt⟩))
  case first=>
   have H':=HH.out.ay HBX.out;have c0:=H'.kx.cell 2;have c1:=(HB0.out.ay HBX.out).cell 3;have f9:=JI.out.free 9;have l9:=JI.out.lt;have c9:=JI.out.cell 9;simp at c0 c1 c9;rw [HPT.out] at c1;have aG:∀ k v,x.steps[k]? =some v->wc.cell? ⟨gst,k,none⟩=some (aa ab (v:Nat)):=fun k v hk=>by
    have dN:=(a8.1 hk).1;rw [jj (soN H'.so) k zO];simp [ints,lq,hk]
   have HST3:=ar aG;clear H' aG
   by_cases p2:pt < -1
   ·have g3:decide (pt < -1)=true:=by simp;omega
    have hll:=HHL.out.1;have dD:=HHL.out.2;obtain ⟨k,hk⟩:∃ k:Nat,pt= -(k:Int) - 2:=⟨(-pt - 2).toNat,zO⟩;have w1:IntKind.i64.wrap (-pt)=(k:Int)+2:=by rw [cV _ zO];omega
    have w2:IntKind.i64.wrap ((k:Int)+2 - 2)=k:=by rw [cV _ zO];omega
    have w2b:IntKind.i64.wrap (k:Int)=k:=cV _ zO
    by_cases p3:k < x.steps.length
    ·obtain ⟨sv,NQ⟩:∃ v,x.steps[k]? =some v:=⟨_,aO p3⟩;have hs:=HST3.out k sv NQ;have g2:decide ((k:Int) < x.steps.length)=true:=by simp;omega
     have hsb:sv < 90000:=by have:=HR.out.st sv (bX NQ);omega
     have w3:IntKind.i64.wrap (-(sv:Int))= -(sv:Int):=cV _ zO;have w4:IntKind.i64.wrap (-(sv:Int) - 2)= -(sv:Int) - 2:=cV _ zO;have j1:(0:Int)<=k:=zO;have Cp:fS x.steps pt= -(sv:Int) - 2:=by
      unfold fS;rw [if_pos zO,show (-pt - 2).toNat=k by omega]
      simp [NQ]
     have HPW:=ar Cp;clear Cp hll dD hk hsb NQ
     go_wp2_with fail
     go_meet
     refine ⟨HBX.out.setCell (by rw [HGC.out];exact az _) _,?_⟩
     rw [HPW.out];exact JI.out.stored 9 _
    ·have g2:decide ((k:Int) < x.steps.length)=false:=by simp;omega
     have Cp:fS x.steps pt=pA:=by
      rw [<- HPA.out];unfold fS;rw [if_neg zO]
     have HPW:=ar Cp;clear Cp hll dD hk
     go_wp2_with fail
     go_meet
     refine ⟨HBX.out,?_⟩;rw [HPW.out];exact JI.out
   ·have g3:decide (pt < -1)=false:=by simp;omega
    have Cp:fS x.steps pt=pA:=by
     rw [<- HPA.out];unfold fS;rw [if_neg zO]
    have HPW:=ar Cp;clear Cp
    go_wp2_with fail
    go_meet
    refine ⟨HBX.out,?_⟩;rw [HPW.out];exact JI.out
  case rest=>
   clear HBX JI;obtain ⟨hbx,xv⟩:=hcut;rename_i wc0 wc;have H:=HH.out.ay hbx;have kU:=HB0.out.ay hbx;have qN:=HG9.out.1.ay hbx;have dF:∀ k,cv.ownBlock=some k->k < gC:=fun k hk=>by have:=(World.ownsRow.lt HH.out.X.calls k hk).2;have:=HGC.out;omega
   have hBc:B<=wc.heap.size:=aQ (aQ H.bB.2 H.bl.size) (az _);obtain ⟨GC,cC,rfl⟩:=cj H.X.calls;clear HH HB0 HG9 hbx
   go_upto_region 17 with fail
   refine aP (S:=fun w'=>eU 56 wc.drew w'/\Bk w' gC 56 (jN ⟨who,op,o.val,o.is,sF,sL,fS x.steps pt⟩)) (E:=fun i=>i==10) zK ?_
   have dD:=aU (Below.refl wc.heap.size wc);replace H:=H.ay dD;replace kU:=kU.ay dD;replace qN:=qN.ay dD;replace xv:=xv.ay dD;replace hBc:B<=wc.drew.heap.size:=hBc;clear dD;generalize wc.drew=wP at *;have BS:eU 56 wP wP/\Bk wP gC 56 (jN ⟨who,op,o.val,o.is,sF,sL,fS x.steps pt⟩):=⟨fun _ _ _ _ h _=>h,xv⟩
   refine wTk 5 [(0,151,ae (some ⟨gt,0,none⟩)),(1,152,ae (some ⟨gt,0,none⟩)),(2,153,ae (some ⟨gt,0,none⟩)),(3,154,ae (some ⟨gt,28,none⟩)),(4,155,.slice GC t.calls.length cC)] ?_ BS ?_
   ·intro w' hS;have c0:=(H.X.tab.dh hS.1 zD).cell 28;simp at c0;clear H
    (repeat' (first | exact aC | refine au ⟨_,rfl,.inl ⟨rfl,?_⟩⟩ ?_))
    all_goals exact zG
   simp only [aR,Act.put,aj,ak,al];refine wTk 1 [(5,156,.agg (jN ⟨who,op,o.val,o.is,sF,sL,fS x.steps pt⟩))] ?_ BS ?_
   ·intro w' hS;have fg:(dr 56 ⟨gC,0,none⟩).run aw w'= .ok (.agg (jN ⟨who,op,o.val,o.is,sF,sL,fS x.steps pt⟩)) w':=be w' gC 56 56 (jN ⟨who,op,o.val,o.is,sF,sL,fS x.steps pt⟩) (0,0) _ hS.2 Tryz.underlying56 rfl zK
    (repeat' (first | exact aC | refine au ⟨_,rfl,.inl ⟨rfl,?_⟩⟩ ?_))
    all_goals exact list.bI rfl rfl fg
   simp only [aR,Act.put,aj,ak,al];refine aE (i:=6) (o:=_) zK rfl (fun K hK=>?_)
   (try simp only [aq,ao,an])
   go_simp;have kN:=Bk.made wP 56 (jN ⟨who,op,o.val,o.is,sF,sL,fS x.steps pt⟩);have Oc:=aB (Below.refl wP.heap.size wP) (ag (jN ⟨who,op,o.val,o.is,sF,sL,fS x.steps pt⟩) 56);have hSQ:eU 56 wP (wP.alloc (ag (jN ⟨who,op,o.val,o.is,sF,sL,fS x.steps pt⟩) 56))/\Bk (wP.alloc (ag (jN ⟨who,op,o.val,o.is,sF,sL,fS x.steps pt⟩) 56)) gC 56 (jN ⟨who,op,o.val,o.is,sF,sL,fS x.steps pt⟩):=⟨jv Oc,xv.ay Oc⟩;refine hK.out _ _ (fun _=>hSQ) ?_
   clear hK K;replace H:=H.ay Oc;replace kU:=kU.ay Oc;replace qN:=qN.ay Oc;have hBQ:B<=(wP.alloc (ag (jN ⟨who,op,o.val,o.is,sF,sL,fS x.steps pt⟩) 56)).heap.size:=aQ hBc Oc.size;clear Oc;generalize wP.alloc (ag (jN ⟨who,op,o.val,o.is,sF,sL,fS x.steps pt⟩) 56)=wQ at *;generalize wP.heap.size=gN at *
   (try simp only [Act.put,aj,ak,al])
   obtain ⟨ri,AY⟩:=LD;refine aE (i:=7) (o:=_) zK rfl (fun K hK=>?_)
   (try simp only [aq,ao,an])
   refine eY AY (.tmp 155) (.tmp 157) rfl B (.slice GC t.calls.length cC) t.calls.length (kJ t.calls) rfl H.X.calls (some ⟨gN,0,none⟩) 1 1 _ rfl (pV kN rfl kN.lt) (by simp [aD]) zO zO hBQ (fun v9 wR gy de=>?_)
   have J8:=cI H.X.calls de;have hSR:eU 56 wP wR/\Bk wR gC 56 (jN ⟨who,op,o.val,o.is,sF,sL,fS x.steps pt⟩):=⟨hSQ.1.trans J8,by
    refine (de.block gC hSQ.2.lt ?_).trans hSQ.2;intro e;exact absurd (dF gC e.symm) (Nat.lt_irrefl _)⟩
   refine hK.out _ _ (fun _=>hSR) ?_
   clear hK K
   (try simp only [Act.put,aj,ak,al])
   refine jB (i:=8) (oi:=_) (v:=ae (some ⟨gt,0,none⟩)) rfl zK zK zK (fun _ _ _ h=>h) (jL ⟨by rfl,?_⟩) ?_
   ·intro w' hSw;clear hSw
    (try simp only [aq,ao,an])
    go_simp
   (try simp only [aq,ao,an,Act.put,aj,ak,al])
   refine jB (i:=9) (oi:=_) (v:=ae (some ⟨gt,28,none⟩)) rfl zK zK zK (fun _ _ _ h=>h) (jL ⟨by rfl,?_⟩) ?_
   ·intro w' hSw;clear hSw
    (try simp only [aq,ao,an])
    go_simp
   (try simp only [aq,ao,an,Act.put,aj,ak,al])
   have Dp:wR.ownsRow B 56 10 v9 (t.calls++[(⟨who,op,o.val,o.is,sF,sL,fS x.steps pt⟩:uH)]).length (kJ (t.calls++[(⟨who,op,o.val,o.is,sF,sL,fS x.steps pt⟩:uH)])):=by
    rw [zu,cJ];exact gy
   have XF:=H.X.grownC de Dp;have Kd:Below B wQ wR:=bY (Below.refl B wQ) H.X.calls de hBQ (az _);have ts2:=(H.ts.trans (.ui Kd J8 (.inr (.inr (.inr rfl))))).trans (.set H.X.bt (H.X.tab.dh J8 zD) (.inl rfl) 28 v9);have kt:=H.X.tab.dh J8 zD;have nY:=cy kt 28 v9;have kx:=(H.kx.dh J8 zD).dh nY zD;replace kU:=(kU.dh J8 zD).dh nY zD;replace qN:=(qN.sV (J8.r zD zD zD)).sV (nY.r zD zD zD);have pf:=kt.free 28;have pl:=kt.lt;have p0:=kt.cell 28;simp at p0;have oe:=H.gl;have hBR:B<=(wR.setCell ⟨gt,28,none⟩ v9).heap.size:=by simp;exact aQ hBQ de.size
   obtain ⟨G9,c9,rfl⟩:=cj gy;have HF9:=ar (au XF (au ts2 (au kx (au kU (au qN hBR)))));clear XF ts2 kx kU qN hBR H gy Dp de hSR hSQ BS Kd nY kt J8 kN xv
   (try simp only [Act.put,aj,ak,al])
   refine aE (i:=10) (o:=_) zK rfl (fun K hK=>?_)
   (try simp only [aq,ao,an])
   go_simp;refine hK.out _ (wR.setCell ⟨gt,28,none⟩ (.slice G9 (t.calls.length+1) c9)) (fun h=>absurd h zD) ?_
   clear hK K pf pl p0;refine aN zK ?_ _;obtain ⟨X,ts,kx,kU,qN,hBR⟩:=HF9.out;clear HF9;generalize wR.setCell ⟨gt,28,none⟩ (.slice G9 (t.calls.length+1) c9)=wT at *
   go_upto_region 18 with fail
   obtain ⟨DL,iV⟩:=X.aM;have Em:=iV.at_ who x hx;have p0:=(iV.row.cell (who * 5)).trans Em.at_;obtain ⟨_,_,e1,_⟩:=Em.log;have p1:=(iV.row.cell (who * 5+1)).trans e1;obtain ⟨_,_,e2,_⟩:=Em.steps;have p2:=(iV.row.cell (who * 5+2)).trans e2;obtain ⟨_,e3,_⟩:=Em.gone;have p3:=(iV.row.cell (who * 5+3)).trans e3;have p4:=(iV.row.cell (who * 5+4)).trans Em.made;have pf:=fun i=>iV.row.free i
   have pl:=iV.row.lt;have sJ:x.pos<=90000:=zO;refine aP (S:=fun w'=>Below wT.drew.heap.size wT.drew w') (E:=fun i=>i==14) zK ?_
   have dD:=aU (Below.refl wT.heap.size wT);replace X:=X.ay dD;have ts9:=ts.trans (.aS dD hBR);replace kx:=kx.ay dD;replace kU:=kU.ay dD;replace qN:=qN.ay dD;replace pl:=bg pl dD.size;replace p0:wT.drew.cell? ⟨gs,who * 5,none⟩=some (aa ab x.pos):=p0;replace p1:=(cO dD iV.row.lt).trans p1;replace p2:=(cO dD iV.row.lt).trans p2;replace p3:=(cO dD iV.row.lt).trans p3;replace p4:=(cO dD iV.row.lt).trans p4;replace pf:=fun i=>(iV.row.ay dD).free i
   clear dD ts iV Em;generalize wT.drew=wU at *;obtain ⟨gn2,hgn⟩:∃ z,gn=z:=⟨_,rfl⟩;have kw:IntKind.i64.wrap ((x.pos:Int)+1)=((x.pos+1:Nat):Int):=by rw [cV _ zO];omega
   have j2:(who:Int) < S:=zO;have jP:=X.tab.cell 26;rw [qP] at jP;refine wTk 13 [(0,161,ae (some ⟨gt,0,none⟩)),(1,162,ae (some ⟨gt,0,none⟩)),(2,163,ae (some ⟨gt,26,none⟩)),(3,164,af (some ⟨gs,0,none⟩) S S),(4,165,aa ab who),(5,166,ae (some ⟨gx,0,none⟩)),(6,167,aa ab x.pos),(7,168,aa ab ((x.pos+1:Nat):Int)),(8,169,ae (some ⟨gU,4,none⟩)),(9,170,.slice gG gn gc),(10,171,ae (some ⟨gx,4,none⟩)),(11,172,aa ab x.made),(12,173,.agg #[aa ab ((x.pos+1:Nat):Int),af none 0 0,af none 0 0,.slice gG gn gc,aa ab x.made])] ?_ (Below.refl _ _) ?_
   ·intro w' hS;have H':=X.ay hS;have c0:=(kx.ay hS).cell 0;have c1:=(kx.ay hS).cell 4;have c2:=(kU.ay hS).cell 4;have c3:=(cO hS X.tab.lt).trans jP;simp at c0 c1 c2 c3;clear X H' p0 p1 p2 p3 p4
    (repeat' (first | exact aC | refine au ⟨_,rfl,.inl ⟨rfl,?_⟩⟩ ?_))
    all_goals exact zG
   simp only [aR,Act.put,aj,ak,al];refine jB (i:=13) (oi:=_) (v:=ae (some ⟨gs,who * 5,none⟩)) rfl zK zK zK (fun _ _ _ h=>h) (jL ⟨by rfl,?_⟩) ?_
   ·intro w' hSw;clear hSw
    (try simp only [aq,ao,an])
    go_simp
   (try simp only [aq,ao,an,Act.put,aj,ak,al])
   have XF:=X.zX (who:=who) (by rw [qP];exact om) (y:=⟨x.pos+1,[],[],o.gone,x.made⟩) (v0:=aa ab ((x.pos+1:Nat):Int)) (v1:=af none 0 0) (v2:=af none 0 0) (v3:=.slice gG gn2 gc) (v4:=aa ab x.made) rfl ⟨none,0,rfl,cZ _ _ _ _⟩ ⟨none,0,rfl,cZ _ _ _ _⟩ (by rw [<- hgn];exact qN) rfl
   obtain ⟨cs3,lV⟩:=X.aM;have ts3:=ts9.trans (.ui ((((((Below.refl B wU).setCell (p:=⟨gs,who * 5,none⟩) X.bs (aa ab ((x.pos+1:Nat):Int))).setCell (p:=⟨gs,who * 5+1,none⟩) X.bs (af none 0 0)).setCell (p:=⟨gs,who * 5+2,none⟩) X.bs (af none 0 0)).setCell (p:=⟨gs,who * 5+3,none⟩) X.bs (.slice gG gn2 gc)).setCell (p:=⟨gs,who * 5+4,none⟩) X.bs (aa ab x.made)) (nj lV.row who _ _ _ _ _) (.inr (.inl rfl)));have HF:=ar (au XF ts3);clear XF ts3 lV ts9 kx kU qN jP X;subst hgn;refine aE (i:=14) (o:=_) zK rfl (fun K hK=>?_)
   (try simp only [aq,ao,an])
   go_simp;refine hK.out _ _ (fun h=>absurd h zD) ?_
   clear hK K p0 p1 p2 p3 p4 pf pl;refine aN zK ?_ _
   go_wp2_with fail
   go_ret
   unfold lQ;rw [sQ.out.1];have gW:yY who x op o t={ t with aM:=t.aM.set who ⟨x.pos+1,[],[],o.gone,x.made⟩,calls:=t.calls++[(⟨who,op,o.val,o.is,sF,sL,fS x.steps pt⟩:uH)] }:=by
    unfold yY;rw [xC.out.2.1,xC.out.2.2.1,HPT.out]
   rw [gW];exact ⟨rfl,⟨gs,mv,_,_,HF.out.1⟩,HF.out.2⟩
theorem turn_C {y1 y3 y4 y5 y6 y8 y10 y11 y12 y13 y14 y15 y19 y20 y21 y22 y23 y24 y25 y26 y27 y28 y29 y30 y31 y32 y33 y34 y35 y36 y37 y38 y39 y40 y41 y42 y43 y44 y45 y46 y47 y48 y49 y50 y51 y52 y53 y54 y55 y56 y57 y58 y59 y60 y61 y62 y63 y64 y65 y66 y67 y68 y69 y70 y71 y72 y73 y74 y75 y76 y77 y78 y79 y80 y81 y82 y83 y84 y85 y86 y87 y88 y89 y90 y91 y92 y93 y94 y95 y96 y97 y98 y99 Io Im Il Ik Ij Ii Ih Ig If Ie Ic Ib Ia H9 H8 H7 H6 H5 H4 H0 HU HI Hz Hy Hx Hw Hv Hu Ht Hs Hq Hp Ho Hn Hm Hl Hk Hj Hi Hh Hg Hf He Hc Hb Ha G8 G7 GZ GY GX GW GV GU GS GR GQ GP GO GN GM GL GK GJ GI GH GG GB Gz Gy Gx Gw Gv Gu Gt Gr Gq Gp Gn Gm Gk Gj Gi Gf Ge Gc Gb Ga F9 F8 F7 F6 F5 F4 F3 F2 F1 F0 FZ FY FX FW FV FU FT FR FQ FP FO FN FM FL FJ FI FH FF FE FD FC FB FA Fz Fy Fx Fw Fv Fu Ft Fs Fq Fo Fm Fl Fk Fj Fi Fh Fg Ff Fe Fc Fb Fa E9 E8 E7 E6 E5 E4 E3 E2 E1 E0 EZ EY EW EV EU ET ES ER EP EO EN EM EL EJ EI EH EG EF EE ED EC EB EA Ez Ey Ex Ew Ev Eu Et:Value} {S who B gt:Nat} {want:List (List Opr)} {t:dG} {x:fZ} {ops:List Opr} {w wH:World} {gs gx gA gM gR cl vF cg g6 c6:Nat} {Gl Gs Gg:Option Addr} {mv ev cv:Value} {q1:Sq} {a:LAc} {qk qc qo qv had:Int} {Al:Bool} {mm:List Int}
  (KK:WyK w wH B gt gs gx gA gR #[aa ab x.pos,.slice Gl x.log.length cl,.slice Gs x.steps.length vF,.slice Gg x.gone.length cg,aa ab x.made] (bj qk qc qo qv) #[aa ab had,.bool Al] (.slice Gl x.log.length cl) (.slice Gs x.steps.length vF) (.slice Gg x.gone.length cg) x.log x.steps x.gone (lyW S) mv ev cv t) (kM:Bk wH gM 37 #[af (some ⟨g6,0,none⟩) t.m.length c6]) (ho6:bd wH 0 (af (some ⟨g6,0,none⟩) t.m.length c6) mm) (J6:mm.length=t.m.length)
  (Aj:(⟨qk,qc,qo,qv⟩:Acc).had t.m=had/\(⟨qk,qc,qo,qv⟩:Acc).ok ((⟨qk,qc,qo,qv⟩:Acc).had t.m)=Al/\(⟨qk,qc,qo,qv⟩:Acc).make t.m=mm) (tR:ff (lyW S) want who t=(tN (lyW S) who x a t,false)) (BR:pJ (lyW S) a=⟨qk,qc,qo,qv⟩) (qP:t.aM.length=S) (om:who < S) (hN:t.events.length+1<=90000) (hx:t.aM[who]? =some x) (R:Cc S ops q1 x t.events.length):Code.wp aw CG (bodyPost aw Tryz.f9 (lQ (lyW S) want who B gt t w)) ⟨#[ae (some ⟨gt,0,none⟩),y1,aa ab who,y3,y4,y5,y6,ae (some ⟨gx,0,none⟩),y8,ptr gA,y10,y11,y12,y13,y14,y15,ptr gM,ptr gR,aa ab 0,y19,y20,y21,y22,y23,y24,y25,y26,y27,y28,y29,y30,y31,y32,y33,y34,y35,y36,y37,y38,y39,y40,y41,y42,y43,y44,y45,y46,y47,y48,y49,y50,y51,y52,y53,y54,y55,y56,y57,y58,y59,y60,y61,y62,y63,y64,y65,y66,y67,y68,y69,y70,y71,y72,y73,y74,y75,y76,y77,y78,y79,y80,y81,y82,y83,y84,y85,y86,y87,y88,y89,y90,y91,y92,y93,y94,y95,y96,y97,y98,y99,Io,Im,Il,Ik,Ij,Ii,Ih,Ig,If,Ie,Ic,Ib,Ia,H9,H8,H7,H6,H5,H4,H0,HU,HI,Hz,Hy,Hx,Hw,Hv,Hu,Ht,Hs,Hq,Hp,Ho,Hn,Hm,Hl,Hk,Hj,Hi,Hh,Hg,Hf,He,Hc,Hb,Ha,G8,G7,GZ,GY,GX,GW,GV,GU,GS,GR,GQ,GP,GO,GN,GM,GL,GK,GJ,GI,GH,GG,GB,Gz,Gy,Gx,Gw,Gv,Gu,Gt,Gr,Gq,Gp,Gn,Gm,Gk,Gj,Gi,Gf,Ge,Gc,Gb,Ga,F9,F8,F7,F6,F5,F4,F3,F2,F1,F0,FZ,FY,FX,FW,FV,FU,FT,FR,FQ,FP,FO,FN,FM,FL,FJ,FI,FH,FF,FE,FD,FC,FB,FA,Fz,Fy,Fx,Fw,Fv,Fu,Ft,Fs,Fq,Fo,Fm,Fl,Fk,Fj,Fi,Fh,Fg,Ff,Fe,Fc,Fb,Fa,E9,E8,E7,E6,E5,E4,E3,E2,E1,E0,EZ,EY,EW,EV,EU,ET,ES,ER,EP,EO,EN,EM,EL,EJ,EI,EH,EG,EF,EE,ED,EC,EB,EA,Ez,Ey,Ex,Ew,Ev,Eu,Et],[]⟩ wH:=by
 have HR:=ar R;clear R
 conv=>arg 2;whnf
 have HH:=ar (au Aj (au tR BR));clear Aj tR BR;have Lf:bd wH 0 (af (some ⟨g6,0,none⟩) mm.length c6) mm:=by rw [J6];exact ho6
 have q0:=kM.cell 0;have p0:=KK.X.tab.cell 25;have pf:=KK.X.tab.free 25;have pl:=KK.X.tab.lt;simp at q0 p0;have X7:=KK.X.setMem Lf;have hk7:=cy KK.X.tab 25 (af (some ⟨g6,0,none⟩) mm.length c6);have K7:=KK.xp hk7 (.inl rfl) zS (.set KK.X.bt KK.X.tab (.inl rfl) 25 _) (KK.kx.dh hk7 zD) X7;rw [J6] at K7;have HK7:=ar K7;clear K7 X7 hk7 KK ho6 Lf kM
 go_upto_region 31 with fail
 clear q0 p0 pf pl;show Code.wp aw _ _ _ (wH.setCell ⟨gt,25,none⟩ (af (some ⟨g6,0,none⟩) t.m.length c6));have H:=HK7.out;clear HK7;generalize wH.setCell ⟨gt,25,none⟩ (af (some ⟨g6,0,none⟩) t.m.length c6)=wI at *;generalize Value.slice (some ⟨g6,0,none⟩) t.m.length c6=mv7 at *;refine aP (S:=fun w'=>Below wI.drew.heap.size wI.drew w') (E:=fun i=>i==8) zK ?_
 replace H:=H.ay (aU (Below.refl _ wI));generalize wI.drew=wJ at *;obtain ⟨ri,AY⟩:=MQ;have hll:x.log.length<=90000:=by have:=HR.out.ll;omega
 have lg:x.steps.length<=90000:=by have:=HR.out.sl;omega
 refine wTk 3 [(1,239,ae (some ⟨gx,1,none⟩)),(2,240,.slice Gl x.log.length cl),(4,242,.agg #[aa ab had,.bool Al])] ?_ (Below.refl _ _) ?_
 ·intro w' hS;have H':=H.ay hS;have c0:=H'.kx.cell 1;have c1:=H'.kR.cell 0;have c2:=H'.kR.cell 1;simp at c0 c1 c2;clear H H'
  (repeat' (first | exact aC | refine au ⟨_,rfl,.inl ⟨rfl,?_⟩⟩ ?_))
  all_goals exact zG
 simp only [aR,Act.put,aj,ak,al];refine vT AY 0 3 5 6 238 241 243 244 (.tmp 240) (.tmp 242) rfl rfl rfl rfl ⟨rfl,rfl,rfl⟩ ⟨rfl,rfl,rfl⟩ ⟨rfl,rfl,rfl⟩ ⟨rfl,rfl,rfl⟩ zK zK zK zK zK zK zS ⟨of_decide_eq_true zK,of_decide_eq_true zK,of_decide_eq_true zK⟩ wJ.heap.size (az _) (Below.refl _ _) (fun w1 w2 DD h1=>h1.trans DD) Gl x.log.length cl (iu x.log) rfl (Src.own H.lo (az _)) (z7 x.log) (.agg #[aa ab had,.bool Al]) #[aa ab had,.bool Al] rfl (fun w=>by kernel_rfl) rfl (by simp [aD]) zO zO ?_
 intro vA vB vC vD wK hown9 Mc hS9
 (try simp only [Act.put,aj,ak,al])
 obtain ⟨GD,cD,rfl⟩:=cj hown9;refine wTk 1 [(7,245,ae (some ⟨gx,1,none⟩))] ?_ hS9 ?_
 ·intro w' hS
  (repeat' (first | exact aC | refine au ⟨_,rfl,.inl ⟨rfl,?_⟩⟩ ?_))
  all_goals exact zG
 simp only [aR,Act.put,aj,ak,al];have hlog9:lS wK 0 (.slice GD (x.log.length+1) cD) (x.log++[(had,Al)]):=by
  unfold lS;rw [yt,cJ];exact eI hown9 (aY _)
 replace H:=H.ay Mc;have x1:=H.kx.cell 1;have xf:=H.kx.free 1;have xl:=H.kx.lt;simp at x1;have H2:=(H.rows (steps':=x.steps) hlog9 H.so).setX 1 (.slice GD (x.log.length+1) cD);have OW:=ar H2;clear H2 H hown9 Mc hS9 hlog9;refine aE (i:=8) (o:=_) zK rfl (fun K hK=>?_)
 (try simp only [aq,ao,an])
 go_simp;refine hK.out _ (wK.setCell ⟨gx,1,none⟩ (.slice GD (x.log.length+1) cD)) (fun h=>absurd h zD) ?_
 clear hK K x1 xf xl;refine aN zK ?_ _;have H:=OW.out;clear OW AY ri;generalize wK.setCell ⟨gx,1,none⟩ (.slice GD (x.log.length+1) cD)=wL at *
 go_upto_region 32 with fail
 refine aP (S:=fun w'=>Below wL.drew.heap.size wL.drew w') (E:=fun i=>i==12) zK ?_
 replace H:=H.ay (aU (Below.refl _ wL));generalize wL.drew=wM at *;obtain ⟨GE,cE,rfl⟩:=cj H.X.ev;obtain ⟨ri,AY⟩:=ph;refine wTk 7 [(1,247,ae (some ⟨gx,2,none⟩)),(2,248,.slice Gs x.steps.length vF),(4,250,ae (some ⟨gt,0,none⟩)),(5,251,ae (some ⟨gt,0,none⟩)),(6,252,ae (some ⟨gt,27,none⟩)),(7,253,.slice GE t.events.length cE),(8,254,aa ab (t.events.length:Nat))] ?_ (Below.refl _ _) ?_
 ·intro w' hS;have H':=H.ay hS;have c0:=H'.kx.cell 2;have c1:=H'.X.tab.cell 27;simp at c0 c1;clear H H'
  (repeat' (first | exact aC | refine au ⟨_,rfl,.inl ⟨rfl,?_⟩⟩ ?_))
  all_goals exact zG
 simp only [aR,Act.put,aj,ak,al];refine vT AY 0 3 9 10 246 249 255 256 (.tmp 248) (.tmp 254) rfl rfl rfl rfl ⟨rfl,rfl,rfl⟩ ⟨rfl,rfl,rfl⟩ ⟨rfl,rfl,rfl⟩ ⟨rfl,rfl,rfl⟩ zK zK zK zK zK zK zS ⟨of_decide_eq_true zK,of_decide_eq_true zK,of_decide_eq_true zK⟩ wM.heap.size (az _) (Below.refl _ _) (fun w1 w2 DD h1=>h1.trans DD) Gs x.steps.length vF (ints (lq x.steps)) rfl (Src.own (soN H.so) (az _)) (Lb _) (aa ab (t.events.length:Nat)) #[aa ab (t.events.length:Nat)] rfl (fun w=>by kernel_rfl) rfl (by simp [aD]) zO zO ?_
 intro vA vB vC vD wN hown9 Mc hS9
 (try simp only [Act.put,aj,ak,al])
 obtain ⟨GF,cF,rfl⟩:=cj hown9;refine wTk 1 [(11,257,ae (some ⟨gx,2,none⟩))] ?_ hS9 ?_
 ·intro w' hS
  (repeat' (first | exact aC | refine au ⟨_,rfl,.inl ⟨rfl,?_⟩⟩ ?_))
  all_goals exact zG
 simp only [aR,Act.put,aj,ak,al];have hst9:bd wN 0 (.slice GF (x.steps.length+1) cF) (lq (x.steps++[t.events.length])):=by
  have e:lq (x.steps++[t.events.length])=lq x.steps++[(t.events.length:Int)]:=by simp [lq]
  unfold bd;rw [e,cJ,uS,show ints (lq x.steps++[(t.events.length:Int)])=ints (lq x.steps)++[aa ab (t.events.length:Nat)] by simp [ints]]
  exact eI hown9 (aY _)
 replace H:=H.ay Mc;have x1:=H.kx.cell 2;have xf:=H.kx.free 2;have xl:=H.kx.lt;simp at x1;have H2:=(H.rows (log':=x.log++[(had,Al)]) H.lo hst9).setX 2 (.slice GF (x.steps.length+1) cF);have OW:=ar H2;clear H2 H hown9 Mc hS9 hst9;refine aE (i:=12) (o:=_) zK rfl (fun K hK=>?_)
 (try simp only [aq,ao,an])
 go_simp;refine hK.out _ (wN.setCell ⟨gx,2,none⟩ (.slice GF (x.steps.length+1) cF)) (fun h=>absurd h zD) ?_
 clear hK K x1 xf xl;refine aN zK ?_ _;have H:=OW.out;clear OW AY ri;generalize wN.setCell ⟨gx,2,none⟩ (.slice GF (x.steps.length+1) cF)=wO at *;have x1:=H.kx.cell 4;have xf:=H.kx.free 4;have xl:=H.kx.lt;simp at x1;have kw:IntKind.i64.wrap ((x.made:Int)+1)=((x.made+1:Nat):Int):=by have:=HR.out.md;rw [cV _ zO];omega
 have H2:=H.setX 4 (aa ab ((x.made+1:Nat):Int));have OW:=ar H2;clear H2 H
 go_upto_region 34 with fail
 clear x1 xf xl kw;show Code.wp aw _ _ _ (wO.setCell ⟨gx,4,none⟩ (aa ab ((x.made+1:Nat):Int)));have H:=OW.out;clear OW;generalize wO.setCell ⟨gx,4,none⟩ (aa ab ((x.made+1:Nat):Int))=wP at *;refine aP (S:=fun w'=>Below wP.drew.heap.size wP.drew w') (E:=fun i=>i==7) zK ?_
 replace H:=H.ay (aU (Below.refl _ wP));generalize wP.drew=wQ at *;have hkx:Bk wQ gx 46 #[aa ab x.pos,.slice GD (x.log.length+1) cD,.slice GF (x.steps.length+1) cF,.slice Gg x.gone.length cg,aa ab ((x.made+1:Nat):Int)]:=H.kx;obtain ⟨DL,iV⟩:=H.X.aM;have Em:=iV.at_ who x hx;have p0:=(iV.row.cell (who * 5)).trans Em.at_;obtain ⟨_,_,e1,_⟩:=Em.log;have p1:=(iV.row.cell (who * 5+1)).trans e1;obtain ⟨_,_,e2,_⟩:=Em.steps;have p2:=(iV.row.cell (who * 5+2)).trans e2;obtain ⟨_,e3,_⟩:=Em.gone;have p3:=(iV.row.cell (who * 5+3)).trans e3;have p4:=(iV.row.cell (who * 5+4)).trans Em.made;have pf:=fun i=>iV.row.free i
 have pl:=iV.row.lt;have gy:=iV.row;clear e1 e2 e3 Em iV;have j2:(who:Int) < S:=zO;have jP:=H.X.tab.cell 26;have hSl2:({ t with m:=mm }:dG).aM.length=S:=qP
 rw [hSl2] at jP;refine wTk 5 [(0,262,ae (some ⟨gt,0,none⟩)),(1,263,ae (some ⟨gt,0,none⟩)),(2,264,ae (some ⟨gt,26,none⟩)),(3,265,af (some ⟨gs,0,none⟩) S S),(4,266,aa ab who)] ?_ (Below.refl _ _) ?_
 ·intro w' hS;have c3:=(cO hS H.X.tab.lt).trans jP;simp at c3;clear H p0 p1 p2 p3 p4 pf
  (repeat' (first | exact aC | refine au ⟨_,rfl,.inl ⟨rfl,?_⟩⟩ ?_))
  all_goals exact zG
 simp only [aR,Act.put,aj,ak,al];refine wTk 1 [(5,267,.agg #[aa ab x.pos,.slice GD (x.log.length+1) cD,.slice GF (x.steps.length+1) cF,.slice Gg x.gone.length cg,aa ab ((x.made+1:Nat):Int)])] ?_ (Below.refl _ _) ?_
 ·intro w' hS;have fg:(dr 46 ⟨gx,0,none⟩).run aw w'= .ok (.agg #[aa ab x.pos,.slice GD (x.log.length+1) cD,.slice GF (x.steps.length+1) cF,.slice Gg x.gone.length cg,aa ab ((x.made+1:Nat):Int)]) w':=be w' gx 46 46 #[aa ab x.pos,.slice GD (x.log.length+1) cD,.slice GF (x.steps.length+1) cF,.slice Gg x.gone.length cg,aa ab ((x.made+1:Nat):Int)] (0,0) _ (hkx.ay hS) Tryz.underlying46 rfl zK
  (repeat' (first | exact aC | refine au ⟨_,rfl,.inl ⟨rfl,?_⟩⟩ ?_))
  all_goals exact list.bI rfl rfl fg
 simp only [aR,Act.put,aj,ak,al];refine jB (i:=6) (oi:=_) (v:=ae (some ⟨gs,who * 5,none⟩)) rfl zK zK zK (fun _ _ _ h=>h) (jL ⟨by rfl,?_⟩) ?_
 ·intro w' hSw;clear hSw
  (try simp only [aq,ao,an])
  go_simp
 (try simp only [aq,ao,an,Act.put,aj,ak,al])
 have XF:=H.X.zX (who:=who) (by rw [hSl2];exact om) (y:={ x with log:=x.log++[(had,Al)],steps:=x.steps++[t.events.length],made:=x.made+1 }) (v0:=aa ab x.pos) (v1:=.slice GD (x.log.length+1) cD) (v2:=.slice GF (x.steps.length+1) cF) (v3:=.slice Gg x.gone.length cg) (v4:=aa ab ((x.made+1:Nat):Int)) rfl ⟨GD,cD,zS,H.lo⟩ ⟨GF,cF,zS,H.so⟩ H.go rfl
 have dF:gx≠gs:=Nat.ne_of_gt H.gl.1;have hkS:=nj gy who (aa ab x.pos) (.slice GD (x.log.length+1) cD) (.slice GF (x.steps.length+1) cF) (.slice Gg x.gone.length cg) (aa ab ((x.made+1:Nat):Int));have H2:=H.xp hkS (.inr rfl) zS (.ui ((((((Below.refl B wQ).setCell (p:=⟨gs,who * 5,none⟩) H.X.bs (aa ab x.pos)).setCell (p:=⟨gs,who * 5+1,none⟩) H.X.bs (.slice GD (x.log.length+1) cD)).setCell (p:=⟨gs,who * 5+2,none⟩) H.X.bs (.slice GF (x.steps.length+1) cF)).setCell (p:=⟨gs,who * 5+3,none⟩) H.X.bs (.slice Gg x.gone.length cg)).setCell (p:=⟨gs,who * 5+4,none⟩) H.X.bs (aa ab ((x.made+1:Nat):Int))) hkS (.inr (.inl rfl))) (((((hkx.other (p:=⟨gs,who * 5,none⟩) dF _).other (p:=⟨gs,who * 5+1,none⟩) dF _).other (p:=⟨gs,who * 5+2,none⟩) dF _).other (p:=⟨gs,who * 5+3,none⟩) dF _).other (p:=⟨gs,who * 5+4,none⟩) dF _) XF;have OW:=ar H2;clear H2 XF hkS H hkx jP gy;refine aE (i:=7) (o:=_) zK rfl (fun K hK=>?_)
 (try simp only [aq,ao,an])
 go_simp;refine hK.out _ (o7 wQ gs who (aa ab x.pos) (.slice GD (x.log.length+1) cD) (.slice GF (x.steps.length+1) cF) (.slice Gg x.gone.length cg) (aa ab ((x.made+1:Nat):Int))) (fun h=>absurd h zD) ?_
 clear hK K p0 p1 p2 p3 p4 pf pl;refine aN zK ?_ _;have H:=OW.out;clear OW;generalize o7 wQ gs who (aa ab x.pos) (.slice GD (x.log.length+1) cD) (.slice GF (x.steps.length+1) cF) (.slice Gg x.gone.length cg) (aa ab ((x.made+1:Nat):Int))=wR at *
 go_upto_region 35 with fail
 refine aP (S:=fun w'=>eU 79 wR.drew w') (E:=fun i=>i==14) zK ?_
 replace H:=H.ay (aU (Below.refl _ wR));generalize wR.drew=wS at *;have BS:eU 79 wS wS:=fun _ _ _ _ h _=>h
 refine wTk 7 [(0,269,ae (some ⟨gt,0,none⟩)),(1,270,ae (some ⟨gt,0,none⟩)),(2,271,ae (some ⟨gt,0,none⟩)),(3,272,ae (some ⟨gt,27,none⟩)),(4,273,.slice GE t.events.length cE),(5,274,aa ab who),(6,275,aa ab who)] ?_ BS ?_
 ·intro w' hS;have c1:=(H.X.tab.dh hS zD).cell 27;simp at c1;clear H
  (repeat' (first | exact aC | refine au ⟨_,rfl,.inl ⟨rfl,?_⟩⟩ ?_))
  all_goals exact zG
 simp only [aR,Act.put,aj,ak,al];refine wTk 1 [(7,276,.agg (bj qk qc qo qv))] ?_ BS ?_
 ·intro w' hS;have fg:(dr 67 ⟨gA,0,none⟩).run aw w'= .ok (.agg (bj qk qc qo qv)) w':=be w' gA 67 67 (bj qk qc qo qv) (0,0) _ (H.kA.dh hS zD) bU rfl zK
  (repeat' (first | exact aC | refine au ⟨_,rfl,.inl ⟨rfl,?_⟩⟩ ?_))
  all_goals exact list.bI rfl rfl fg
 simp only [aR,Act.put,aj,ak,al];refine wTk 1 [(8,277,.agg #[aa ab had,.bool Al])] ?_ BS ?_
 ·intro w' hS;have fg:(dr 75 ⟨gR,0,none⟩).run aw w'= .ok (.agg #[aa ab had,.bool Al]) w':=be w' gR 75 75 #[aa ab had,.bool Al] (0,0) _ (H.kR.dh hS zD) Tryz.underlying75 rfl zK
  (repeat' (first | exact aC | refine au ⟨_,rfl,.inl ⟨rfl,?_⟩⟩ ?_))
  all_goals exact list.bI rfl rfl fg
 simp only [aR,Act.put,aj,ak,al];refine wTk 1 [(9,278,.agg (evC (⟨who,⟨qk,qc,qo,qv⟩,(had,Al)⟩:EvW)))] ?_ BS ?_
 ·intro w' hS
  (repeat' (first | exact aC | refine au ⟨_,rfl,.inl ⟨rfl,?_⟩⟩ ?_))
  all_goals kernel_rfl
 simp only [aR,Act.put,aj,ak,al];refine aE (i:=10) (o:=_) zK rfl (fun K hK=>?_)
 (try simp only [aq,ao,an])
 go_simp;have kN:=Bk.made wS 79 (evC (⟨who,⟨qk,qc,qo,qv⟩,(had,Al)⟩:EvW));have Oc:=aB (Below.refl wS.heap.size wS) (ag (evC (⟨who,⟨qk,qc,qo,qv⟩,(had,Al)⟩:EvW)) 79);have hSQ:eU 79 wS (wS.alloc (ag (evC (⟨who,⟨qk,qc,qo,qv⟩,(had,Al)⟩:EvW)) 79)):=jv Oc;refine hK.out _ _ (fun _=>hSQ) ?_
 clear hK K;replace H:=H.ay Oc;clear Oc;generalize wS.alloc (ag (evC (⟨who,⟨qk,qc,qo,qv⟩,(had,Al)⟩:EvW)) 79)=wT at *;generalize wS.heap.size=gN at *
 (try simp only [Act.put,aj,ak,al])
 obtain ⟨ri,AY⟩:=ev_rowT;refine aE (i:=11) (o:=_) zK rfl (fun K hK=>?_)
 (try simp only [aq,ao,an])
 refine eY AY (.tmp 273) (.tmp 279) rfl B (.slice GE t.events.length cE) t.events.length (oH t.events) rfl H.X.ev (some ⟨gN,0,none⟩) 1 1 _ rfl (pV kN rfl kN.lt) (by simp [aD]) zO zO H.gl.2.2.2 (fun v9 wU gy de=>?_)
 have J8:=cI H.X.ev de;refine hK.out _ _ (fun _=>hSQ.trans J8) ?_
 clear hK K
 (try simp only [Act.put,aj,ak,al])
 refine jB (i:=12) (oi:=_) (v:=ae (some ⟨gt,0,none⟩)) rfl zK zK zK (fun _ _ _ h=>h) (jL ⟨by rfl,?_⟩) ?_
 ·intro w' hSw;clear hSw
  (try simp only [aq,ao,an])
  go_simp
 (try simp only [aq,ao,an,Act.put,aj,ak,al])
 refine jB (i:=13) (oi:=_) (v:=ae (some ⟨gt,27,none⟩)) rfl zK zK zK (fun _ _ _ h=>h) (jL ⟨by rfl,?_⟩) ?_
 ·intro w' hSw;clear hSw
  (try simp only [aq,ao,an])
  go_simp
 (try simp only [aq,ao,an,Act.put,aj,ak,al])
 have Dp:wU.ownsRow B 79 8 v9 (t.events++[(⟨who,⟨qk,qc,qo,qv⟩,(had,Al)⟩:EvW)]).length (oH (t.events++[(⟨who,⟨qk,qc,qo,qv⟩,(had,Al)⟩:EvW)])):=by
  rw [BW,cJ];exact gy
 have XF:=H.X.grownE de Dp;have Kd:Below B wT wU:=bY (Below.refl B wT) H.X.ev de H.gl.2.2.2 (az _);have ts2:=(H.ts.trans (.ui Kd J8 (.inr (.inr (.inl rfl))))).trans (.set H.X.bt (H.X.tab.dh J8 zD) (.inl rfl) 27 v9);have kt:=H.X.tab.dh J8 zD;have pf:=kt.free 27;have pl:=kt.lt;have p0:=kt.cell 27;simp at p0;obtain ⟨G9,c9,rfl⟩:=cj gy;have HF:=ar (au XF ts2);clear XF ts2 H gy Dp de hSQ BS Kd kt J8 kN;refine aE (i:=14) (o:=_) zK rfl (fun K hK=>?_)
 (try simp only [aq,ao,an])
 go_simp;refine hK.out _ (wU.setCell ⟨gt,27,none⟩ (.slice G9 (t.events.length+1) c9)) (fun h=>absurd h zD) ?_
 clear hK K pf pl p0;refine aN zK ?_ _
 go_wp2_with fail
 go_ret
 unfold lQ;rw [HH.out.2.1];have gW:tN (lyW S) who x a t={ m:=mm,aM:=t.aM.set who { x with log:=x.log++[(had,Al)],steps:=x.steps++[t.events.length],made:=x.made+1 },events:=t.events++[(⟨who,⟨qk,qc,qo,qv⟩,(had,Al)⟩:EvW)],calls:=t.calls }:=by
  unfold tN KQ;rw [HH.out.2.2,HH.out.1.1,HH.out.1.2.2,<- HH.out.1.2.1,HH.out.1.1]
 rw [gW];exact ⟨rfl,⟨gs,_,_,cv,HF.out.1⟩,HF.out.2⟩
theorem turn_B {y1 y3 y4 y5 y6 y12 y13 y14 y15 y16 y17 y18 y19 y20 y21 y22 y23 y24 y25 y26 y27 y28 y29 y30 y31 y32 y33 y34 y35 y36 y37 y38 y39 y40 y41 y42 y43 y44 y45 y46 y47 y48 y49 y50 y51 y52 y53 y54 y55 y56 y57 y58 y59 y60 y61 y62 y63 y64 y65 y66 y67 y68 y69 y70 y71 y72 y73 y74 y75 y76 y77 y78 y79 y80 y81 y82 y83 y84 y85 y86 y87 y88 y89 y90 y91 y92 y93 y94 y95 y96 y97 y98 y99 Io Im Il Ik Ij Ii Ih Ig If Ie Ic Ib Ia H9 H8 H7 H6 H5 H4 H0 HU HI Hz Hy Hx Hw Hv Hu Ht Hs Hq Hp Ho Hn Hm Hl Hk Hj Hi Hh Hg Hf He Hc Hb Ha G8 G7 GZ GY GX GW GV GU GS GR GQ GP GO GN GM GL GK GJ GI GH GG GB Gz Gy Gx Gw Gv Gu Gt Gr Gq Gp Gn Gm Gk Gj Gi Gf Ge Gc Gb Ga F9 F8 F7 F6 F5 F4 F3 F2 F1 F0 FZ FY FX FW FV FU FT FR FQ FP FO FN FM FL FJ FI FH FF FE FD FC FB FA Fz Fy Fx Fw Fv Fu Ft Fs Fq Fo Fm Fl Fk Fj Fi Fh Fg Ff Fe Fc Fb Fa E9 E8 E7 E6 E5 E4 E3 E2 E1 E0 EZ EY EW EV EU ET ES ER EP EO EN EM EL EJ EI EH EG EF EE ED EC EB EA Ez Ey Ex Ew Ev Eu Et:Value} {S who B gt:Nat} {want:List (List Opr)} {t:dG} {x:fZ} {ops:List Opr} {w wH:World} {gs gx bw ow cw m d s0 s1 s2 c' cl vF cg gO gA gU:Nat} {T A' Gl Gs Gg:Option Addr} {mv ev cv:Value} {q1:Sq}
  (H:WyH w wH B gt gs gx bw ow S cw m d s0 s1 s2 who T A' c' ops Gl cl Gs vF Gg cg x mv ev cv t) (jQ:gO < gA/\gO < gU) (Jg:gx < gO) (qP:t.aM.length=S) (om:who < S) (h1:1<=S) (h3:S<=3) (hN:t.events.length+1<=90000) (hC:t.calls.length+1<=90000) (hx:t.aM[who]? =some x) (R:Cc S ops q1 x t.events.length)
  {a:LAc} {qk qc qo qv:Int} {K:Act->World->Prop} (kA:Bk wH gA 67 (bj qk qc qo qv)) (tR:ff (lyW S) want who t=(tN (lyW S) who x a t,false)) (BR:pJ (lyW S) a=⟨qk,qc,qo,qv⟩) (rq:(⟨qk,qc,qo,qv⟩:Acc).err t.m.length=0) (A4:t.m.length<=1000000) (hK:∀ a w2,Code.wp aw CG (bodyPost aw Tryz.f9 (lQ (lyW S) want who B gt t w)) a w2->K a w2):Code.wp aw turn26 (Exit.then K (bodyPost aw Tryz.f9 (lQ (lyW S) want who B gt t w))) ⟨#[ae (some ⟨gt,0,none⟩),y1,aa ab who,y3,y4,y5,y6,ae (some ⟨gx,0,none⟩),ae (some ⟨gO,0,none⟩),ptr gA,ptr gU,ah false,y12,y13,y14,y15,y16,y17,y18,y19,y20,y21,y22,y23,y24,y25,y26,y27,y28,y29,y30,y31,y32,y33,y34,y35,y36,y37,y38,y39,y40,y41,y42,y43,y44,y45,y46,y47,y48,y49,y50,y51,y52,y53,y54,y55,y56,y57,y58,y59,y60,y61,y62,y63,y64,y65,y66,y67,y68,y69,y70,y71,y72,y73,y74,y75,y76,y77,y78,y79,y80,y81,y82,y83,y84,y85,y86,y87,y88,y89,y90,y91,y92,y93,y94,y95,y96,y97,y98,y99,Io,Im,Il,Ik,Ij,Ii,Ih,Ig,If,Ie,Ic,Ib,Ia,H9,H8,H7,H6,H5,H4,H0,HU,HI,Hz,Hy,Hx,Hw,Hv,Hu,Ht,Hs,Hq,Hp,Ho,Hn,Hm,Hl,Hk,Hj,Hi,Hh,Hg,Hf,He,Hc,Hb,Ha,G8,G7,GZ,GY,GX,GW,GV,GU,GS,GR,GQ,GP,GO,GN,GM,GL,GK,GJ,GI,GH,GG,GB,Gz,Gy,Gx,Gw,Gv,Gu,Gt,Gr,Gq,Gp,Gn,Gm,Gk,Gj,Gi,Gf,Ge,Gc,Gb,Ga,F9,F8,F7,F6,F5,F4,F3,F2,F1,F0,FZ,FY,FX,FW,FV,FU,FT,FR,FQ,FP,FO,FN,FM,FL,FJ,FI,FH,FF,FE,FD,FC,FB,FA,Fz,Fy,Fx,Fw,Fv,Fu,Ft,Fs,Fq,Fo,Fm,Fl,Fk,Fj,Fi,Fh,Fg,Ff,Fe,Fc,Fb,Fa,E9,E8,E7,E6,E5,E4,E3,E2,E1,E0,EZ,EY,EW,EV,EU,ET,ES,ER,EP,EO,EN,EM,EL,EJ,EI,EH,EG,EF,EE,ED,EC,EB,EA,Ez,Ey,Ex,Ew,Ev,Eu,Et],[]⟩ wH:=by
 have HR:=ar R;clear R
 conv=>arg 2;whnf
 conv at hK=>enter [a,w,1,2];whnf
 have LT:=ar (xL h1 h3);have sQ:=ar (au tR (au BR rq));have Ed:=ar A4;have fU:=ar hK;clear tR BR rq A4 jQ Jg hK;obtain ⟨gm,cm,rfl,-⟩:=H.X.mem;refine aP (S:=fun w'=>Below wH.drew.heap.size wH.drew w') (E:=fun _=>false) zK ?_
 replace H:=H.ay (aU (Below.refl _ wH));replace kA:=kA.drew;generalize wH.drew=wM at *;refine wTk 3 [(0,220,ae (some ⟨gt,0,none⟩)),(1,221,ae (some ⟨gt,0,none⟩)),(2,222,ae (some ⟨gt,25,none⟩))] ?_ (Below.refl _ _) ?_
 ·intro w' hS
  (repeat' (first | exact aC | refine au ⟨_,rfl,.inl ⟨rfl,?_⟩⟩ ?_))
  all_goals exact zG
 simp only [aR,Act.put,aj,ak,al];refine wTk 1 [(3,223,.agg #[af (some ⟨gm,0,none⟩) t.m.length cm])] ?_ (Below.refl _ _) ?_
 ·intro w' hS;have c0:=((H.ay hS).X.tab.cell 25).trans (show _=some (Value.slice (some ⟨gm,0,none⟩) t.m.length cm) from rfl)
  clear H
  (repeat' (first | exact aC | refine au ⟨_,rfl,.inl ⟨rfl,?_⟩⟩ ?_))
  all_goals exact zG
 simp only [aR,Act.put,aj,ak,al];refine wTk 1 [(4,224,.agg (bj qk qc qo qv))] ?_ (Below.refl _ _) ?_
 ·intro w' hS;have fg:(dr 67 ⟨gA,0,none⟩).run aw w'= .ok (.agg (bj qk qc qo qv)) w':=be w' gA 67 67 (bj qk qc qo qv) (0,0) _ (kA.ay hS) bU rfl zK
  (repeat' (first | exact aC | refine au ⟨_,rfl,.inl ⟨rfl,?_⟩⟩ ?_))
  all_goals exact list.bI rfl rfl fg
 simp only [aR,Act.put,aj,ak,al];refine ma (U:=[5,6,7,8,9,10,11,12,13,14]) (tmp:=Bd) (pre:=c3P 5) (T:=fun w'=>Below wM.heap.size wM w') (N:=fun _ _=>True) (G:=c3G 5 wM.heap.size 37 75) (R:=c3R 5 wM.heap.size 37 75 #[af none 0 0] #[aa ab 0,ah false] (DoX ⟨qk,qc,qo,qv⟩ t.m)) zK (fun _ _=>rfl) (fun w2 h=>h) (Below.refl _ _) (fun i hi w3 w4 h1 h2=>zw h1 h2) (fun _ _=>trivial) (fun _ _ _ _ _ _ _ _ _ _=>trivial)
  (fun i hi j hj oP oZ v u w3 w4 hT hvi Ah hp hr hg=>zx zD Oo oP hvi Ah hr hg) (fun i hi o ho oZ w3 K qD hT _ cd hK=>?_) 0 (fun oZ wN bS hT=>?_)
 ·simp only [bD,cB,or_false] at hi;rcases hi with rfl | rfl | rfl | rfl | rfl | rfl | rfl | rfl | rfl | rfl
  ·obtain rfl:=aT ho;simp only [show c3P 5 5=[] from rfl,bq] at hK ⊢
   go_simp;obtain ⟨g7,c7,e7,hm7⟩:=(H.ay hT).X.mem
   (with_reducible refine (do_ok (some ⟨gm,0,none⟩) cm t.m ⟨qk,qc,qo,qv⟩ _ (M2 hm7 rfl) Ed.out sQ.out.2.2).mono ?_)
   rintro e w6 ⟨g6,c6,rfl,ho6,hb⟩;exact hK _ _ ⟨_,_,_,rfl,g6,c6,⟨rfl,rfl,rfl⟩,eI ho6 (aY _)⟩ hb
  ·obtain rfl:=aT ho;obtain ⟨v0,e0,d1,d2,d3,rfl,oR⟩:=cd 5 (by simp [c3P])
   simp only [show c3P 5 6=[5] from rfl,bq,e0,Bd] at hK ⊢
   go_simp;exact hK _ _ ⟨d1,d2,d3,rfl,by simp only [upd];exact e0⟩ (Below.refl _ _)
  ·obtain rfl:=aT ho;obtain ⟨v1,e1,d1,d2,d3,rfl,e0⟩:=cd 6 (by simp [c3P])
   simp only [show c3P 5 7=[6] from rfl,bq,e1,Bd] at hK ⊢
   go_simp;exact hK _ _ ⟨d1,d2,d3,by simp only [upd];exact e0,rfl⟩ (Below.refl _ _)
  ·obtain rfl:=aT ho;obtain ⟨v1,e1,d1,d2,d3,rfl,e0⟩:=cd 6 (by simp [c3P])
   simp only [show c3P 5 8=[6] from rfl,bq,e1,Bd] at hK ⊢
   go_simp;exact hK _ _ ⟨d1,d2,d3,by simp only [upd];exact e0,rfl⟩ (Below.refl _ _)
  ·obtain rfl:=aT ho;obtain ⟨v1,e1,d1,d2,d3,rfl,e0⟩:=cd 6 (by simp [c3P])
   simp only [show c3P 5 9=[6] from rfl,bq,e1,Bd] at hK ⊢
   go_simp;exact hK _ _ ⟨d1,d2,d3,by simp only [upd];exact e0,rfl⟩ (Below.refl _ _)
  ·obtain rfl:=aT ho;simp only [show c3P 5 10=[] from rfl,bq] at hK ⊢
   go_simp;exact hK _ _ ⟨_,rfl,hT.size,fun _=>Bk.made _ _ _⟩ (aB (Below.refl _ _) _)
  ·obtain rfl:=aT ho;simp only [show c3P 5 11=[] from rfl,bq] at hK ⊢
   go_simp;exact hK _ _ ⟨_,rfl,hT.size,fun _=>Bk.made _ _ _⟩ (aB (Below.refl _ _) _)
  ·obtain rfl:=aT ho;obtain ⟨v0,e0,d1,d2,d3,rfl,oR⟩:=cd 5 (by simp [c3P])
   obtain ⟨v2,e2,f1,f2,f3,jh,rfl⟩:=cd 7 (by simp [c3P])
   rw [e0] at jh;obtain ⟨rfl,rfl,rfl⟩:=dz jh;obtain ⟨v5,e5,ga,rfl,jQ,k5⟩:=cd 10 (by simp [c3P])
   have ka:=k5 qD;obtain ⟨g6,c6,⟨rfl,rfl,rfl⟩,ho6⟩:=oR;simp only [show c3P 5 12=[5,7,10] from rfl,bq,e0,e2,e5,Bd] at hK ⊢
   (try simp only [aq,ao,an])
   refine dH 37 (.tmp 16) (.tmp 226) rfl ga _ rfl rfl 37 #[af none 0 0] ka zK rfl (by simp [aD]) ?_
   exact hK undef _ ⟨ga,_,_,_,by simp only [upd];exact e0,by simp only [upd];exact e5,jQ,Cm _ _ _ _ _ _ ka⟩ ⟨iS ka,fC jQ _⟩
  ·obtain rfl:=aT ho;obtain ⟨v0,e0,d1,d2,d3,rfl,oR⟩:=cd 5 (by simp [c3P])
   obtain ⟨v2,e2,f1,f2,f3,jh,rfl⟩:=cd 8 (by simp [c3P])
   rw [e0] at jh;obtain ⟨rfl,rfl,rfl⟩:=dz jh;obtain ⟨v5,e5,ga,rfl,jQ,k5⟩:=cd 11 (by simp [c3P])
   have ka:=k5 qD;obtain ⟨g6,c6,⟨rfl,rfl,rfl⟩,ho6⟩:=oR;simp only [show c3P 5 13=[5,8,11] from rfl,bq,e0,e2,e5,Bd] at hK ⊢
   (try simp only [aq,ao,an])
   refine dH 75 (.tmp 17) (.tmp 227) rfl ga _ rfl rfl 75 #[aa ab 0,ah false] ka zK rfl (by simp [aD]) ?_
   exact hK undef _ ⟨ga,_,_,_,by simp only [upd];exact e0,by simp only [upd];exact e5,jQ,Cm _ _ _ _ _ _ ka⟩ ⟨iS ka,fC jQ _⟩
  ·obtain rfl:=aT ho;obtain ⟨v4,e4,f1,f2,f3,e4',rfl⟩:=cd 9 (by simp [c3P])
   simp only [show c3P 5 14=[9] from rfl,bq,e4,Bd] at hK ⊢
   go_simp;exact hK _ _ ⟨_,_,_,by simp only [upd];exact e4',rfl⟩ (Below.refl _ _)
 obtain ⟨v0,e0,d1,d2,d3,rfl,oR⟩:=bS 5 zS;obtain ⟨v1,e1,f1,f2,f3,rfl,Ki⟩:=bS 6 zS;rw [e0] at Ki;obtain ⟨rfl,rfl,rfl⟩:=dz Ki;obtain ⟨v2,e2,f1,f2,f3,jh,rfl⟩:=bS 7 zS;rw [e0] at jh;obtain ⟨rfl,rfl,rfl⟩:=dz jh;obtain ⟨v3,e3,f1,f2,f3,jh,rfl⟩:=bS 8 zS;rw [e0] at jh;obtain ⟨rfl,rfl,rfl⟩:=dz jh;obtain ⟨v4,e4,f1,f2,f3,jh,rfl⟩:=bS 9 zS;rw [e0] at jh;obtain ⟨rfl,rfl,rfl⟩:=dz jh;obtain ⟨v5,e5,Kf,rfl,N5,-⟩:=bS 10 zS;obtain ⟨v6,e6,ta,rfl,N4,-⟩:=bS 11 zS;obtain ⟨v7,e7,gb0,f1,f2,f3,jh,zd,-,uJ⟩:=bS 12 zS;rw [e0] at jh;obtain ⟨rfl,rfl,rfl⟩:=dz jh;rw [e5] at zd;obtain rfl:=oz zd;obtain ⟨v8,e8,gb1,f1,f2,f3,jh,zd,-,iO⟩:=bS 13 zS;rw [e0] at jh;obtain ⟨rfl,rfl,rfl⟩:=dz jh;rw [e6] at zd;obtain rfl:=oz zd;obtain ⟨v9,e9,f1,f2,f3,jh,rfl⟩:=bS 14 zS;rw [e0] at jh;obtain ⟨rfl,rfl,rfl⟩:=dz jh;clear bS;refine aN (by simp only [dC,e0,e1,e2,e3,e4,e5,e6,e7,e8,e9,gQ,if_true];kernel_rfl) ?_ _
 simp only [bq,e0,e1,e2,e3,e4,e5,e6,e7,e8,e9,Bd];clear e0 e1 e2 e3 e4 e5 e6 e7 e8 e9
 (try simp only [Act.put,aj,ak,al,iL])
 obtain ⟨g6,c6,⟨rfl,rfl,rfl⟩,ho6⟩:=oR;obtain ⟨had,tK⟩:∃ z,(⟨qk,qc,qo,qv⟩:Acc).had t.m=z:=⟨_,rfl⟩;obtain ⟨Al,hgok⟩:∃ z,(⟨qk,qc,qo,qv⟩:Acc).ok ((⟨qk,qc,qo,qv⟩:Acc).had t.m)=z:=⟨_,rfl⟩;obtain ⟨mm,zR⟩:∃ z,(⟨qk,qc,qo,qv⟩:Acc).make t.m=z:=⟨_,rfl⟩;have J6:mm.length=t.m.length:=by rw [<- zR,Acc.mG]
 rw [hgok] at iO ⊢;rw [tK] at iO ⊢;rw [zR] at ho6;have HRES:=ar (au tK (au hgok zR));clear tK hgok zR Ki jh zd;replace H:=H.ay hT;replace kA:=kA.ay hT;clear hT N5 N4;have hnR:ta < wN.heap.size:=iO.lt;have oe:=H.gl;have KK:WyK w wN B gt gs gx gA ta _ _ _ (.slice Gl x.log.length cl) (.slice Gs x.steps.length vF) (.slice Gg x.gone.length cg) x.log x.steps x.gone (lyW S) _ ev cv t:=⟨H.kx,kA,iO,H.X,H.ts,⟨oe.1,oe.2.1,by have:=H.bB;omega,aQ H.bB.2 H.bl.size⟩,H.lo,H.so,H.go⟩
 clear H kA iO oe;have hK:=fU.out;clear fU;dsimp only [Exit.then];exact hK _ _ (turn_C KK uJ ho6 J6 HRES.out sQ.out.1 sQ.out.2.1 qP om hN hx HR.out)
theorem turn_A {y1 y3 y4 y5 y6 y12 y13 y14 y15 y16 y17 y18 y19 y20 y21 y22 y23 y24 y25 y26 y27 y28 y29 y30 y31 y32 y33 y34 y35 y36 y37 y38 y39 y40 y41 y42 y43 y44 y45 y46 y47 y48 y49 y50 y51 y52 y53 y54 y55 y56 y57 y58 y59 y60 y61 y62 y63 y64 y65 y66 y67 y68 y69 y70 y71 y72 y73 y74 y75 y76 y77 y78 y79 y80 y81 y82 y83 y84 y85 y86 y87 y88 y89 y90 y91 y92 y93 y94 y95 y96 y97 y98 y99 Io Im Il Ik Ij Ii Ih Ig If Ie Ic Ib Ia H9 H8 H7 H6 H5 H4 H0 HU HI Hz Hy Hx Hw Hv Hu Ht Hs Hq Hp Ho Hn Hm Hl Hk Hj Hi Hh Hg Hf He Hc Hb Ha G8 G7 GZ GY GX GW GV GU GS GR GQ GP GO GN GM GL GK GJ GI GH GG GB Gz Gy Gx Gw Gv Gu Gt Gr Gq Gp Gn Gm Gk Gj Gi Gf Ge Gc Gb Ga F9 F8 F7 F6 F5 F4 F3 F2 F1 F0 FZ FY FX FW FV FU FT FR FQ FP FO FN FM FL FJ FI FH FF FE FD FC FB FA Fz Fy Fx Fw Fv Fu Ft Fs Fq Fo Fm Fl Fk Fj Fi Fh Fg Ff Fe Fc Fb Fa E9 E8 E7 E6 E5 E4 E3 E2 E1 E0 EZ EY EW EV EU ET ES ER EP EO EN EM EL EJ EI EH EG EF EE ED EC EB EA Ez Ey Ex Ew Ev Eu Et:Value} {S who B gt:Nat} {want:List (List Opr)} {t:dG} {x:fZ} {ops:List Opr} {op:Opr} {w wH:World} {gs gx bw ow cw m d s0 s1 s2 c' cl vF cg gO gA gU:Nat} {T A' Gl Gs Gg:Option Addr} {mv ev cv:Value} {q1:Sq}
  (H:WyH w wH B gt gs gx bw ow S cw m d s0 s1 s2 who T A' c' ops Gl cl Gs vF Gg cg x mv ev cv t) (kO:Bk wH gO 54 (eg op)) (jQ:gO < gA/\gO < gU) (Jg:gx < gO) (qP:t.aM.length=S) (om:who < S) (h1:1<=S) (h3:S<=3) (hN:t.events.length+1<=90000) (hC:t.calls.length+1<=90000) (hx:t.aM[who]? =some x) (R:Cc S ops q1 x t.events.length)
  {sm:Sm} {g:Gh} {a:LAc} (kA:Bk wH gA 67 (bj a.k (adr (lyW S) a.c) a.o a.v)) (tR:ff (lyW S) want who t=(tN (lyW S) who x a t,false)) (hao:O1 S t g a) (G0:_root_.Go.Proofs.YtikdaeddbkopeaaGreatR.Gl sm g) (R0:Ar S t.events.length t.m sm):Code.wp aw CI (bodyPost aw Tryz.f9 (lQ (lyW S) want who B gt t w)) ⟨#[ae (some ⟨gt,0,none⟩),y1,aa ab who,y3,y4,y5,y6,ae (some ⟨gx,0,none⟩),ae (some ⟨gO,0,none⟩),ptr gA,ptr gU,ah false,y12,y13,y14,y15,y16,y17,y18,y19,y20,y21,y22,y23,y24,y25,y26,y27,y28,y29,y30,y31,y32,y33,y34,y35,y36,y37,y38,y39,y40,y41,y42,y43,y44,y45,y46,y47,y48,y49,y50,y51,y52,y53,y54,y55,y56,y57,y58,y59,y60,y61,y62,y63,y64,y65,y66,y67,y68,y69,y70,y71,y72,y73,y74,y75,y76,y77,y78,y79,y80,y81,y82,y83,y84,y85,y86,y87,y88,y89,y90,y91,y92,y93,y94,y95,y96,y97,y98,y99,Io,Im,Il,Ik,Ij,Ii,Ih,Ig,If,Ie,Ic,Ib,Ia,H9,H8,H7,H6,H5,H4,H0,HU,HI,Hz,Hy,Hx,Hw,Hv,Hu,Ht,Hs,Hq,Hp,Ho,Hn,Hm,Hl,Hk,Hj,Hi,Hh,Hg,Hf,He,Hc,Hb,Ha,G8,G7,GZ,GY,GX,GW,GV,GU,GS,GR,GQ,GP,GO,GN,GM,GL,GK,GJ,GI,GH,GG,GB,Gz,Gy,Gx,Gw,Gv,Gu,Gt,Gr,Gq,Gp,Gn,Gm,Gk,Gj,Gi,Gf,Ge,Gc,Gb,Ga,F9,F8,F7,F6,F5,F4,F3,F2,F1,F0,FZ,FY,FX,FW,FV,FU,FT,FR,FQ,FP,FO,FN,FM,FL,FJ,FI,FH,FF,FE,FD,FC,FB,FA,Fz,Fy,Fx,Fw,Fv,Fu,Ft,Fs,Fq,Fo,Fm,Fl,Fk,Fj,Fi,Fh,Fg,Ff,Fe,Fc,Fb,Fa,E9,E8,E7,E6,E5,E4,E3,E2,E1,E0,EZ,EY,EW,EV,EU,ET,ES,ER,EP,EO,EN,EM,EL,EJ,EI,EH,EG,EF,EE,ED,EC,EB,EA,Ez,Ey,Ex,Ew,Ev,Eu,Et],[]⟩ wH:=by
 have HR:=ar R;clear R
 conv=>arg 2;whnf
 have LT:=ar (xL h1 h3);obtain ⟨qk,hqk⟩:∃ z,a.k=z:=⟨_,rfl⟩;obtain ⟨qc,sH⟩:∃ z,adr (lyW S) a.c=z:=⟨_,rfl⟩;obtain ⟨qo,hqo⟩:∃ z,a.o=z:=⟨_,rfl⟩;obtain ⟨qv,hqv⟩:∃ z,a.v=z:=⟨_,rfl⟩;have BR:pJ (lyW S) a=⟨qk,qc,qo,qv⟩:=by unfold pJ;rw [hqk,sH,hqo,hqv]
 rw [hqk,sH,hqo,hqv] at kA;have N0:∀ n,n∈g.fl->¬ (nodeAt (lyW S) n 0<=qc/\qc < nodeAt (lyW S) n 0+7):=fun n hn=>by rw [<- sH];exact Nh G0 h1 h3 hao.lv hao.lo hn
 have rq:(⟨qk,qc,qo,qv⟩:Acc).err t.m.length=0:=by rw [<- BR];exact hao.err
 have sQ:=ar (au tR (au BR (au N0 rq)));have LK:=ar (J4 G0 R0 h1 h3);have A4:t.m.length<=1000000:=by rw [R0.len];omega
 have Ed:=ar A4;have hk40:=LK.out.ln;clear tR BR hqk sH hqo hqv N0 rq hao kO A4;obtain ⟨gm,cm,rfl,-⟩:=H.X.mem
 go_upto_region 20 with fail
 refine aP (S:=fun w'=>Below wH.drew.heap.size wH.drew w') (E:=fun _=>false) zK ?_
 replace H:=H.ay (aU (Below.refl _ wH));replace kA:=kA.drew;generalize wH.drew=wI at *;refine wTk 6 [(0,175,ae (some ⟨gt,0,none⟩)),(1,176,ae (some ⟨gt,0,none⟩)),(2,177,ae (some ⟨gt,0,none⟩)),(4,179,ae (some ⟨gt,0,none⟩)),(5,180,ae (some ⟨gt,0,none⟩)),(6,181,ae (some ⟨gt,25,none⟩))] ?_ (Below.refl _ _) ?_
 ·intro w' hS
  (repeat' (first | exact aC | refine au ⟨_,rfl,.inl ⟨rfl,?_⟩⟩ ?_))
  all_goals exact zG
 simp only [aR,Act.put,aj,ak,al];refine wTk 1 [(3,178,lyV (lyW S))] ?_ (Below.refl _ _) ?_
 ·intro w' hS;have fg:(dr 34 ⟨gt,0,none⟩).run aw w'= .ok (lyV (lyW S)) w':=dy w' gt 0 34 (lyC (lyW S)) _ (H.ay hS).X.lay aJ rfl zK
  (repeat' (first | exact aC | refine au ⟨_,rfl,.inl ⟨rfl,?_⟩⟩ ?_))
  all_goals exact list.bI rfl rfl fg
 simp only [aR,Act.put,aj,ak,al];refine wTk 1 [(7,182,.agg #[af (some ⟨gm,0,none⟩) t.m.length cm])] ?_ (Below.refl _ _) ?_
 ·intro w' hS;have c0:=((H.ay hS).X.tab.cell 25).trans (show _=some (Value.slice (some ⟨gm,0,none⟩) t.m.length cm) from rfl)
  clear H
  (repeat' (first | exact aC | refine au ⟨_,rfl,.inl ⟨rfl,?_⟩⟩ ?_))
  all_goals exact zG
 simp only [aR,Act.put,aj,ak,al];refine aE (i:=8) (o:=_) zK rfl (fun K hK=>?_)
 (try simp only [aq,ao,an])
 go_simp
 (with_reducible refine (Da (lyW S) (some ⟨gm,0,none⟩) cm t.m.length t.m g.fl wI LT.out.f (by rw [(yD h1 h3).2.2.2.2.2.2.2.2];unfold cfW;dsimp only;decide) (by obtain ⟨_,_,e,ho⟩:=H.X.mem;exact fJ ho) rfl LK.out.fr LK.out.nd LK.out.idx LK.out.ch LK.out.in_ LK.out.nod (by have:=LK.out.ln;omega)).mono ?_)
 rintro e wJ ⟨FG,fd,rfl,hfo,hbJ⟩;refine hK.out _ _ (fun _=>hbJ) ?_
 clear hK K;replace H:=H.ay hbJ;replace kA:=kA.ay hbJ
 (try simp only [Act.put,aj,ak,al])
 refine wTk 1 [(9,13,.slice FG g.fl.length fd)] ?_ hbJ ?_
 ·intro w' hS
  (repeat' (first | exact aC | refine au ⟨_,rfl,.inl ⟨rfl,?_⟩⟩ ?_))
  all_goals exact zG
 simp only [aR,Act.put,aj,ak,al];refine aN zK ?_ _;clear hbJ
 go_wp2_with fail
 go_loopw [14] (fun v14 wr=>∃ k:Nat,k<=g.fl.length/\v14=aa ab (k:Nat)/\Below wJ.heap.size wJ wr) (fun v14 _=>g.fl.length - (intOf v14).toNat)
 case atStart=>exact ⟨0,aY _,rfl,Below.refl _ _⟩
 case round=>
  obtain ⟨k,hk,rfl,vy⟩:=hrel
  by_cases tJ:k < g.fl.length
  ·obtain ⟨n,hn⟩:∃ n,g.fl[k]? =some n:=⟨_,aO tJ⟩;have nZ:=LK.out.in_ n (bX hn);have hin40:1<=n/\n<=40:=nZ;have Ds:=sQ.out.2.2.1 n (bX hn);obtain ⟨nd,gu⟩:∃ z,nodeAt (lyW S) n 0=z:=⟨_,rfl⟩;have N0:=yB (i:=0) h1 h3 hin40 zD;rw [gu] at N0 Ds;have kw:IntKind.i64.wrap (nd+7)=nd+7:=cV _ zO;have HNW:=ar (au gu (au N0 Ds));obtain ⟨fb,cfb,hFG,-,hfb⟩:=World.ownsRow.form hfo zO;injection hFG with hFG e1 e2
   clear e1 e2;subst hFG;have hfn:wJ.cell? ⟨fb,k,none⟩=some (aa ab n):=by
    rw [jj hfo k zO];simp [ints,hn]
   have g3:decide ((k:Int) < g.fl.length)=true:=by simp;omega
   have j3:(k:Int) < g.fl.length:=zO;have Hr:=H.ay vy;have kbr:=kA.ay vy;have rp:=(cO vy hfb).trans hfn;have N7:=bg hfb vy.size;have HHK:=ar (au H (au kA hfo));clear H kA hfo hfn hfb Ds N0 hn nZ
   go_upto_region 24 with fail
   refine aP (S:=fun w'=>Below wr.drew.heap.size wr.drew w') (E:=fun _=>false) zK ?_
   have dD:=aU (Below.refl wr.heap.size wr);replace H:=Hr.ay dD;replace kA:=kbr.ay dD;replace rp:=(cO dD N7).trans rp;replace N7:=bg N7 dD.size;replace vy:=aF vy dD;clear dD Hr kbr;generalize wr.drew=ws at *;refine wTk 7 [(0,190,ae (some ⟨gt,0,none⟩)),(1,191,ae (some ⟨gt,0,none⟩)),(2,192,ae (some ⟨gt,0,none⟩)),(4,194,af (some ⟨fb,0,none⟩) g.fl.length fd),(5,195,aa ab (k:Nat)),(6,196,ae (some ⟨fb,k,none⟩)),(7,197,aa ab n)] ?_ (Below.refl _ _) ?_
   ·intro w' hS;have c0:=(cO hS N7).trans rp;clear H
    (repeat' (first | exact aC | refine au ⟨_,rfl,.inl ⟨rfl,?_⟩⟩ ?_))
    all_goals exact zG
   simp only [aR,Act.put,aj,ak,al];refine wTk 1 [(3,193,lyV (lyW S))] ?_ (Below.refl _ _) ?_
   ·intro w' hS;have fg:(dr 34 ⟨gt,0,none⟩).run aw w'= .ok (lyV (lyW S)) w':=dy w' gt 0 34 (lyC (lyW S)) _ (H.ay hS).X.lay aJ rfl zK
    (repeat' (first | exact aC | refine au ⟨_,rfl,.inl ⟨rfl,?_⟩⟩ ?_))
    all_goals exact list.bI rfl rfl fg
   simp only [aR,Act.put,aj,ak,al];refine aE (i:=8) (o:=_) zK rfl (fun K hK=>?_)
   (try simp only [aq,ao,an])
   go_simp
   (with_reducible refine (dt (lyW S) n 0 _ LT.out.f zO).mono ?_)
   rintro e wt ⟨rfl,Lk⟩;rw [gu];refine hK.out _ _ (fun _=>Lk) ?_
   clear hK K
   (try simp only [Act.put,aj,ak,al])
   refine wTk 1 [(9,15,aa ab nd)] ?_ Lk ?_
   ·intro w' hS
    (repeat' (first | exact aC | refine au ⟨_,rfl,.inl ⟨rfl,?_⟩⟩ ?_))
    all_goals exact zG
   simp only [aR,Act.put,aj,ak,al];refine aN zK ?_ _;replace H:=H.ay Lk;replace kA:=kA.ay Lk;replace vy:=aF vy Lk;clear Lk rp N7;have qQ:=H.X.tab.cell 29;have f29:=H.X.tab.free 29;have lT:=H.X.tab.lt;have c1:=kA.cell 1;simp at qQ c1;have cU:=yj H.X.tab (i:=29) (u:=ah false) rfl;have HR2:=ar vy;clear H kA vy
   by_cases hle:nd<=qc
   ·have b1:decide (nd<=qc)=true:=by simp;omega
    have b2:decide (qc < nd+7)=false:=by have:=HNW.out.2.2;simp;omega
    go_wp2_with fail
    refine ⟨⟨k+1,zO,by go_num,HR2.out⟩,by simp [intOf];omega⟩
   ·have b1:decide (nd<=qc)=false:=by simp;omega
    go_wp2_with fail
    refine ⟨⟨k+1,zO,by go_num,HR2.out⟩,by simp [intOf];omega⟩
  ·obtain rfl:k=g.fl.length:=zO;replace H:=H.ay vy;replace kA:=kA.ay vy;clear vy hfo
   go_upto_region 26 with fail
   exact turn_B H jQ Jg qP om h1 h3 hN hC hx HR.out kA sQ.out.1 sQ.out.2.1 sQ.out.2.2.2 Ed.out (fun a w2 h=>by apply_assumption;exact h)
end Go.Proofs.YtikdaeddbkopeaaGreatR
