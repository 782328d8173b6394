/- A part of the proof. -/
import Derived.Deep.CutBlock
import Derived.WalkKit
import Derived.Deep.QuietTactic
import Derived.Deep.DrawnRows
import Derived.BigQuiet
import Derived.Outline
import Derived.WalkMore
import Derived.Test.YtikdaeddbkopeaaGreatRV8
import Derived.Test.YtikdaeddbkopeaaGreatRV1
import Derived.Test.YtikdaeddbkopeaaGreatRV9
import Derived.Test.YtikdaeddbkopeaaGreatRV7
set_option linter.unusedVariables false
set_option linter.unusedSimpArgs false
set_option maxRecDepth 100000
set_option maxHeartbeats 16000000
open Go.Proofs.Tryz
open And renaming intro → al
open Bool renaming false → X, true → O, and_eq_true → bN
open Go renaming Calls → U, Value → I, World → W, run_loadVar_row → a7, wpList_load_row → aM, wp_at_zero → aQ, wp_at_succ → aR, bodyPost_ret → aS, results_cell_row → bQ, loadVar → cL, wpList_append_own_at → dI, results_none → gT, Ending → jK, maxLen → sV
open Go.Ending renaming returned → ai
open Go.IntKind renaming i64 → H, i64 → ab
open Go.IntWalk renaming i64_in → dh
open Go.Lib renaming hid → N, hid → aj
open Go.Obj renaming cells → ag
open Go.Proofs.Tryz renaming underlying61 → Bz, underlying34 → aK, prog → ao, underlying26 → iU, underlying35 → lI
open Go.RowKit renaming Below → D
open Go.Value renaming int → V, int → LD, oneCell' → aB, bool → ah, int → aa, pointer → ae, slice → af
open Go.World renaming ownsRow_nil → bW
open Go.World.ownsRow renaming cellAt → ig
open Int renaming toNat_natCast → BA
open List renaming getElem?_eq_some_iff → aC, getElem?_eq_getElem → aD, mem_cons → aL, mem_of_getElem? → aU, setIfInBounds_toArray → ak, getElem_cons_zero → an, getElem_cons_succ → ar, getElem_toArray → au, set_cons_zero → ay, set_cons_succ → az, length_append → bE, not_mem_nil → be, all_eq_true → cJ, getD_eq_getElem?_getD → dJ, length_take → dg, range → eF, set_nil → eM, take_length → nP, length_map → qH, take_add_one → qy
open Nat renaming le_trans → aF, zero_le → aN, lt_of_lt_of_le → aZ, le_refl → aq, zero_add → ea, le_of_lt → ed
open Option renaming none → Y, some → J, isSome_some → cZ
open True renaming intro → bd
namespace Go.Proofs.YtikdaeddbkopeaaGreatR
section
open Go.RowKit
attribute [local go_sem ↓] aQ aR
variable {E S:Nat} {want:List (List Opr)} {t:cY} {stops:List Nat} {all:Bool}
theorem vI(l:Ly)(want:List (List Opr))(stops:List Nat)(all:Bool)(who:Nat):∀(k:Nat) (t:cY),(eO l want stops all who k t).calls.length<=t.calls.length+k
 | 0,t=>aq _
 | k+1,t=>by
  have a:=oZ l want who t;unfold eO;split
  ·omega
  split
  ·rename_i b e;rw[e]at a;simp only[]at a;omega
  rename_i b e;rw[e]at a;have:=vI l want stops all who k b;simp only[]at a;omega
def lX(l:Ly)(want:List (List Opr))(stops:List Nat)(all:Bool)(who:Nat):Nat->cY->cY
 | 0,t=>t
 | k+1,t=>eO l want stops all who 2001 (lX l want stops all who k t)
theorem lV(l:Ly)(want:List (List Opr))(stops:List Nat)(all:Bool)(who k:Nat)(t:cY):lX l want stops all who (k+1) t=eO l want stops all who 2001 (lX l want stops all who k t):=by rw[lX]
theorem Ja(l:Ly)(want:List (List Opr))(stops:List Nat)(all:Bool)(who:Nat)(t:cY):lX l want stops all who 3 t=jr l want stops all who t:=by rw[lV,lV,lV,lX,jr]
def ma(l:Ly)(want:List (List Opr))(stops:List Nat)(all:Bool)(j:Nat)(t:cY):cY:=(eF j).foldl (λt a=>jr l want stops all a t) t
theorem vW(l:Ly)(want:List (List Opr))(stops:List Nat)(all:Bool)(j:Nat)(t:cY):ma l want stops all (j+1) t=jr l want stops all j (ma l want stops all j t):=by
 unfold ma;rw[List.range_succ,List.foldl_append];rfl
structure WB (S:Nat) (want:List (List Opr)) (E:Nat) (t:cY):Prop where
 we:WE S want t
 ev:t.events.length<=E
 ca:t.calls.length<=E
theorem WB.lX{S who E:Nat}{want:List (List Opr)}{stops:List Nat}{all:Bool}{t:cY}(h:WB S want E t)(e:who<S)(hE:E+6003<=80000):∀k,k<=3->WB S want (E+2001*k) (Go.Proofs.YtikdaeddbkopeaaGreatR.lX (lyW S) want stops all who k t)
 | 0,_=>h
 | k+1,hk=>by
  have d:=WB.lX (stops:=stops) (all:=all) h e hE k M;obtain⟨a,b,-⟩:=WE.Hp (stops:=stops) (all:=all) d.we e (by have:=d.ev;omega);have c:=vI (lyW S) want stops all who 2001 (Go.Proofs.YtikdaeddbkopeaaGreatR.lX (lyW S) want stops all who k t);have g:=d.ev;have f:=d.ca;rw[lV];exact⟨a,aF b M,aF c M⟩
theorem WB.ma{S E:Nat}{want:List (List Opr)}{stops:List Nat}{all:Bool}{t:cY}(h:WB S want E t)(hE:E+18009<=80000)(b:S<=3):∀j,j<=S->WB S want (E+6003*j) (Go.Proofs.YtikdaeddbkopeaaGreatR.ma (lyW S) want stops all j t)
 | 0,_=>h
 | j+1,hj=>by
  have a:=WB.ma (stops:=stops) (all:=all) h hE b j M;rw[vW];have:=a.lX (who:=j) (stops:=stops) (all:=all) M M 3 (aq 3);rw[Ja]at this;exact⟨this.we,aF this.ev M,aF this.ca M⟩
theorem pM{turns:List Nat}{B f:Nat}{A T:Option Addr}{o m d c b a:Nat}{w:World}(all:Bool)(P:rE w B want turns S A T m c b a)(JA:B<=w.heap.size)(hT:kn w B f (lyW S) t)(hwb:WB S want E t)(hE:E+18009<=80000):
  Calls ao 10 #[ae (J ⟨f,0,Y⟩),.agg (cI A S o T m d c b a),.bool all] w λe w'=>e=ai (.tuple #[])/\kn w' B f (lyW S) (jM (lyW S) want [c,b,a] all t)/\jk B w w':=by
 have k0:=Bk.made w 26 (cI A S o T m d c b a);have yB:=bA w (ag (cI A S o T m d c b a) 26);have ts0:jk B w (w.alloc (ag (cI A S o T m d c b a) 26)):=.aT yB JA;replace hT:=hT.aw yB;have F:=N P;have h1:=P.S1;have h3:=P.S3;have HWB:=N hwb;clear P hwb;obtain⟨g0,hg0⟩:=nM (w.heap.size);rw[hg0]at k0;have HG0:=N hg0;have uB:jM (lyW S) want [c,b,a] all t=ma (lyW S) want [c,b,a] all S t:=by unfold jM ma;rw[F.out.wl]
 have HRS:=N uB;clear uB;clear hg0;go_enter func10,ntmps10;go_wp2_with fail;generalize w.alloc (ag (cI A S o T m d c b a) 26)=w1 at *;rw[HG0.out];go_loopw [6] (λv6 wr=>∃j:Nat,j<=S/\v6=V H (j:Nat)/\jk B w1 wr/\kn wr B f (lyW S) (ma (lyW S) want [c,b,a] all j t)) (λv6 _=>S-(intOf v6).toNat)
 case atStart=>exact⟨0,aN _,Z,jk.refl _ _,hT⟩
 obtain⟨who,hj,rfl,l,hTj⟩:=hrel;have kP:=l.aw k0 ⟨zD,zD,zD,zD⟩;have q0:=kP.cell 0;simp at q0;clear hT;by_cases fH:who<S;rotate_left
 ·obtain rfl:who=S:=M;have g1:decide ((who:Int)<who)=X:=zS;go_wp2_with fail;refine bodyPost_end (gT Z _ _ _) Z ⟨Z,?_,ts0.trans l⟩;rw[HRS.out];exact hTj
 have g1:decide ((who:Int)<S)=O:=zP;obtain⟨tj,htj⟩:=nM (ma (lyW S) want [c,b,a] all who t);have hwbj:=HWB.out.ma (stops:=[c,b,a]) (all:=all) hE h3 who M;rw[htj]at hTj hwbj;have HTJ:=N (al htj hwbj);have HTS:=N l;clear htj hwbj l;go_wp2_with fail;clear q0 g1;go_loopw [7] (λv7 wq=>∃k:Nat,k<=3/\v7=V H (k:Nat)/\jk B wr wq/\kn wq B f (lyW S) (lX (lyW S) want [c,b,a] all who k tj)) (λv7 _=>3-(intOf v7).toNat)
 case atStart=>exact⟨0,aN _,Z,jk.refl _ _,hTj⟩
 obtain⟨k,hk,rfl,l,Q⟩:=hrel;have qg:=l.aw kP ⟨zD,zD,zD,zD⟩;clear hTj;by_cases KT:k<3
 ·have g1:decide ((k:Int)<3)=O:=zP;obtain⟨tk,sh⟩:=nM (lX (lyW S) want [c,b,a] all who k tj);have hwbk:=HTJ.out.2.lX (who:=who) (stops:=[c,b,a]) (all:=all) fH M k hk;obtain⟨tz,htz⟩:=nM (lX (lyW S) want [c,b,a] all who (k+1) tj);have htz':eO (lyW S) want [c,b,a] all who 2001 tk=tz:=by rw[<- sh,<- htz,lV]
  rw[sh]at Q hwbk;have qh:=N (al htz (al htz' hwbk));have LA:=N l;clear sh htz htz' hwbk l;go_wp2_with fail;generalize wr=wq at *;go_loopw [8] (λv8 wr=>∃(i:Nat) (v:cY),i<=2001/\v8=V H (i:Nat)/\jk B wq wr/\kn wr B f (lyW S) v/\WE S want v/\v.events.length<=E+6003*who+2001*k+i/\v.calls.length<=E+6003*who+2001*k+i/\eO (lyW S) want [c,b,a] all who (2001-i) v=tz) (λv8 _=>2001-(intOf v8).toNat)
  case atStart=>exact⟨0,tk,M,Z,jk.refl _ _,Q,qh.out.2.2.we,qh.out.2.2.ev,qh.out.2.2.ca,qh.out.2.1⟩
  obtain⟨i,v,hi,rfl,l,qa,hwe,hev,hca,n⟩:=hrel;have qd:=l.aw qg ⟨zD,zD,zD,zD⟩;have qb:=qa.bad;have I:=qa.lt;by_cases hlt2:i<=2000;rotate_left
  ·obtain rfl:i=2001:=M;have gi:decide (((2001:Nat):Int)<=2000)=X:=zD;rw[show 2001-2001=0 from Z,eO]at n;go_wp2_with fail;refine⟨⟨k+1,M,by go_num,LA.out.trans (l),by rw[qh.out.1,<- n];exact qa⟩,by simp[intOf];omega⟩
  have gi:decide ((i:Int)<=2000)=O:=zP;obtain⟨j,hj2⟩:∃j,2001-i=j+1:=⟨2000-i,M⟩;rw[hj2,eO]at n;have sX:v.aO.length=S:=by obtain⟨sm,g,q,W⟩:=hwe;exact W.sl
  have hwt:=hwe.mU fH M;have hte:=rP (lyW S) want who v;have htc:=oZ (lyW S) want who v;obtain⟨⟨t',r⟩,CJ⟩:∃z,dD (lyW S) want who v=z:=⟨_,Z⟩;rw[CJ]at n hwt hte htc;have HSP:=N n;have HW2:=N (al hwt (al hte htc));clear n hwt hte htc Q;cases all with
  | false=>
   go_wp2_with (refine split.fZ (by rfl) 26 (.tmp 4) Z g0 Z 26 (cI A S o T m d c b a) (0,0) _ qd iU Z zK ?_);refine(ta A S o T m d c b a who B f (lyW S) v _ qa (by rw[sX];exact fH) (by rw[sX];exact h3) F.out.st.1 F.out.st.2.1 F.out.st.2.2).mono ?_;rintro e w5 ⟨rfl,s⟩;have D:B<=wr.heap.size:=aF (aF JA (Nat.le_of_eq HG0.out)) (ed qd.lt);replace qa:=qa.aw s;replace qd:=qd.aw s;replace l:=l.trans (.aT s D);clear s qb D;by_cases qj:g8 [c,b,a] who v=O
   ·rw[qj];go_wp2_with fail;have n:=HSP.out;rw[if_pos (by rw[qj];rfl)]at n;refine⟨⟨k+1,M,by go_num,LA.out.trans (l),by rw[qh.out.1,<- n];exact qa⟩,by simp[intOf];omega⟩
   have nC:g8 [c,b,a] who v=X:=by simpa using qj
   rw[nC];have n:=HSP.out;rw[if_neg (by rw[nC];decide)]at n;go_wp2_with (refine split.fZ (by rfl) 26 (.tmp 4) Z g0 Z 26 (cI A S o T m d c b a) (0,0) _ qd iU Z zK ?_);have hB5:B<=w5.heap.size:=aF (aF JA (Nat.le_of_eq HG0.out)) (ed qd.lt);have P5:=F.out.below ((((ts0.trans HTS.out).trans LA.out).trans l).below);obtain⟨sm,g,q,WI⟩:=hwe;refine(nR WI M M fH A T o m d c b a _ qa hB5 P5.W).mono ?_;rintro e w6 ⟨rfl,N9,ts6⟩;rw[CJ]at N9 ⊢;cases r with
   | true=>
    go_wp2_with fail;(try dsimp only at n);refine⟨⟨k+1,M,by go_num,LA.out.trans (l.trans ts6),by rw[qh.out.1,<- n];exact N9⟩,by simp[intOf];omega⟩
   | false=>
    go_wp2_with fail;(try dsimp only at n);exact⟨⟨i+1,t',M,by go_num,l.trans ts6,N9,HW2.out.1,by have:=HW2.out.2.1;(try dsimp only at this);omega,by have:=HW2.out.2.2;(try dsimp only at this);omega,by rw[show 2001-(i+1)=j by omega];exact n⟩,by simp[intOf];omega⟩
  | true=>
   have n:=HSP.out;rw[if_neg zS]at n;go_wp2_with (refine split.fZ (by rfl) 26 (.tmp 4) Z g0 Z 26 (cI A S o T m d c b a) (0,0) _ qd iU Z zK ?_);have hB5:B<=wr.heap.size:=aF (aF JA (Nat.le_of_eq HG0.out)) (ed qd.lt);have P5:=F.out.below ((((ts0.trans HTS.out).trans LA.out).trans l).below);obtain⟨sm,g,q,WI⟩:=hwe;refine(nR WI M M fH A T o m d c b a _ qa hB5 P5.W).mono ?_;rintro e w6 ⟨rfl,N9,ts6⟩;rw[CJ]at N9 ⊢;cases r with
   | true=>
    go_wp2_with fail;(try dsimp only at n);refine⟨⟨k+1,M,by go_num,LA.out.trans (l.trans ts6),by rw[qh.out.1,<- n];exact N9⟩,by simp[intOf];omega⟩
   | false=>
    go_wp2_with fail;(try dsimp only at n);exact⟨⟨i+1,t',M,by go_num,l.trans ts6,N9,HW2.out.1,by have:=HW2.out.2.1;(try dsimp only at this);omega,by have:=HW2.out.2.2;(try dsimp only at this);omega,by rw[show 2001-(i+1)=j by omega];exact n⟩,by simp[intOf];omega⟩
 obtain rfl:k=3:=M;rw[Ja]at Q;obtain⟨hwes,hevs,ie,-⟩:=WE.Mn (stops:=[c,b,a]) (all:=all) HTJ.out.2.we fH (by have:=HTJ.out.2.ev;omega);obtain⟨tS,htS⟩:=nM (jr (lyW S) want [c,b,a] all who tj);rw[htS]at Q hwes ie;have sX:tS.aO.length=S:=by obtain⟨sm,g,q,W⟩:=hwes;exact W.sl
 have hrj:ma (lyW S) want [c,b,a] all (who+1) t=tS:=by rw[vW,HTJ.out.1,htS]
 have HF:=N (al hrj ie);have D:B<=wr.heap.size:=aF (aF JA (Nat.le_of_eq HG0.out)) (ed qg.lt);have P5:=F.out.below (((ts0.trans HTS.out).trans l).below);obtain⟨R,U,rfl,rJ,hwc⟩:=P5.W (by rw[P5.wl];omega);obtain⟨x,ops,hx,ho⟩:∃x ops,tS.aO[who]? =J x/\want[who]? =J ops:=⟨_,_,aD M,aD (by rw[P5.wl];omega)⟩;obtain⟨A',c',qi,-⟩:=hwc who ops ho;clear hwc hwes hevs hrj htS;go_upto_region 11 with fail;refine aH (S:=λw'=>Below wr.drew.heap.size wr.drew w') (E:=λ_=>X) zK ?_;have p7:=bD wr;replace Q:=Q.aw p7;replace qg:=qg.aw p7;have ts4:=l.trans (.aT p7 D);replace qi:=(cX p7 (aZ rJ D)).trans qi;replace D:B<=wr.drew.heap.size:=D;clear p7;generalize wr.drew=wv at *;obtain⟨C,mv,ev,cv,qe⟩:=Q;obtain⟨cs,hss⟩:=qe.aO;have qf:=qe.tab.cell 26;have qc:=qe.tab.cell 30;have BH:=(hss.row.cell (who*5)).trans (hss.at_ who x hx).at_;rw[sX]at qf;simp at qf qc;have gsl:=hss.row.lt;have j2:(who:Int)<S:=M;have hbw2:=aZ rJ D;have zH:=vL qe.tab (i:=30) (u:=ah X) Z;have CQ:=qe.tab.free 30;have I:=qe.tab.lt;have hX:=N qe;clear qe hss;refine wTq 6 [(0,45,ae (J ⟨f,0,Y⟩)),(1,46,ae (J ⟨f,0,Y⟩)),(2,47,ae (J ⟨f,0,Y⟩)),(3,48,ae (J ⟨f,30,Y⟩)),(4,49,ah X),(5,50,ah X)] ?_ bS ?_
 ·intro w' h;have d26:=(cX h I).trans qf;have d30:=(cX h I).trans qc;have dat:=(cX h gsl).trans BH;have dw:=(cX h hbw2).trans qi;have d0:=(qg.aw h).cell 0;simp at d0;clear qf qc BH qi zH CQ;exact zT
 cases all with
 | true=>
  have su:x.pos=ops.length:=by
   rcases HF.out.2 with⟨x',ops',L,G,e3⟩|⟨e,-⟩
   ·rw[hx]at L;rw[ho]at G;injection L with L;injection G with G;subst L;subst G;exact e3
   cases e
  have jp:¬x.pos<ops.length:=M;have jpd:decide ((x.pos:Int)<ops.length)=X:=zP;refine wTq 9 [(6,51,ah O),(7,52,ah O),(8,53,undef),(9,54,undef),(10,55,undef),(11,56,undef),(12,57,undef),(13,58,ah O),(14,59,ah O)] ?_ bS ?_
  ·intro w' h
   (repeat' (first|exact bd|refine al ⟨_,Z,.inr ⟨zK,Z⟩⟩ ?_|refine al ⟨_,Z,.inl ⟨zK,?_⟩⟩ ?_))
   all_goals exact zG
  refine wTq 19 [(15,60,ae (J ⟨f,0,Y⟩)),(16,61,ae (J ⟨f,0,Y⟩)),(17,62,ae (J ⟨f,26,Y⟩)),(18,63,af (J ⟨C,0,Y⟩) S S),(19,64,V H (who:Nat)),(20,65,ae (J ⟨C,who*5,Y⟩)),(21,66,ae (J ⟨C,who*5,Y⟩)),(22,67,V H (x.pos:Nat)),(23,68,ae (J ⟨g0,0,Y⟩)),(24,69,af (J ⟨R,U,Y⟩) S o),(25,70,V H (who:Nat)),(26,71,ae (J ⟨R,U+who,Y⟩)),(27,72,(.slice A' ops.length c')),(28,73,V H (ops.length:Nat)),(29,74,ah X),(30,75,ah X),(31,76,ah X),(32,77,ae (J ⟨f,0,Y⟩)),(33,78,ae (J ⟨f,30,Y⟩))] ?_ bS ?_
  ·intro w' h;have d26:=(cX h I).trans qf;have d30:=(cX h I).trans qc;have dat:=(cX h gsl).trans BH;have dw:=(cX h hbw2).trans qi;have d0:=(qg.aw h).cell 0;simp at d0;clear qf qc BH qi zH CQ
   (repeat' (first|exact bd|refine al ⟨_,Z,.inl ⟨zK,?_⟩⟩ ?_))
   all_goals exact zG
  refine wOq 34 (λK y=>?_);go_simp;refine y.out _ _ (λ_=>Below.refl _ _) ?_;clear y K;refine aG zK ?_ _;have hTf:kn wv B f (lyW S) tS:=⟨C,mv,ev,cv,hX.out⟩;go_wp2_with fail;exact⟨⟨who+1,M,by go_num,HTS.out.trans ts4,by rw[HF.out.1];exact hTf⟩,by simp[intOf];omega⟩
 | false=>
  refine wTq 4 [(6,51,ah X),(7,52,ah X),(8,53,ae (J ⟨f,0,Y⟩)),(10,55,V H (who:Nat))] ?_ bS ?_
  ·intro w' h
   (repeat' (first|exact bd|refine al ⟨_,Z,.inl ⟨zK,?_⟩⟩ ?_))
   all_goals exact zG
  refine wTq 1 [(9,54,.agg (cI (J ⟨R,U,Y⟩) S o T m d c b a))] ?_ bS ?_
  ·intro w' h;have kE:(cL 26 ⟨g0,0,Y⟩).run ao w'= .ok (.agg (cI (J ⟨R,U,Y⟩) S o T m d c b a)) w':=a7 w' g0 26 26 (cI (J ⟨R,U,Y⟩) S o T m d c b a) (0,0) _ (qg.aw h) iU Z zK
   (repeat' (first|exact bd|refine al ⟨_,Z,.inl ⟨zK,?_⟩⟩ ?_))
   all_goals exact list.dp Z Z kE
  refine wOq 11 (λK y=>?_);rw[if_pos zK];go_simp;have hTv:kn wv B f (lyW S) tS:=⟨C,mv,ev,cv,hX.out⟩;refine(ta (J ⟨R,U,Y⟩) S o T m d c b a who B f (lyW S) tS wv hTv (by rw[sX];exact fH) (by rw[sX];exact h3) F.out.st.1 F.out.st.2.1 F.out.st.2.2).mono ?_;rintro e w5 ⟨rfl,s⟩;refine sO y (λ_=>s) ?_;clear y K;have X5:=hX.out.aw s;have hsame5:=vL X5.tab (i:=30) (u:=ah X) rfl;have hfree5:=X5.tab.free 30;have lT5:=X5.tab.lt;have c30':=X5.tab.cell 30;simp at c30';by_cases qj:g8 [c,b,a] who tS=O
  ·rw[qj];refine wTq 22 [(12,57,ah X),(13,58,ah X),(14,59,ah X),(15,60,undef),(16,61,undef),(17,62,undef),(18,63,undef),(19,64,undef),(20,65,undef),(21,66,undef),(22,67,undef),(23,68,undef),(24,69,undef),(25,70,undef),(26,71,undef),(27,72,undef),(28,73,undef),(29,74,undef),(30,75,ah X),(31,76,ah X),(32,77,ae (J ⟨f,0,Y⟩)),(33,78,ae (J ⟨f,30,Y⟩))] ?_ s ?_
   ·intro w' h
    (repeat' (first|exact bd|refine al ⟨_,Z,.inr ⟨zK,Z⟩⟩ ?_|refine al ⟨_,Z,.inl ⟨zK,?_⟩⟩ ?_))
    all_goals exact zG
   refine wOq 34 (λK y=>?_);clear zH CQ qc I;go_simp;refine y.out _ _ (λ_=>s) ?_;clear y K;refine aG zK ?_ _;have hTf:kn w5 B f (lyW S) tS:=⟨C,mv,ev,cv,X5⟩;go_wp2_with fail;exact⟨⟨who+1,M,by go_num,HTS.out.trans (ts4.trans (.aT s D)),by rw[HF.out.1];exact hTf⟩,by simp[intOf];omega⟩
  have nC:g8 [c,b,a] who tS=X:=by simpa using qj
  rw[nC];have su:x.pos=ops.length:=by
   rcases HF.out.2 with⟨x',ops',L,G,e3⟩|⟨-,e⟩
   ·rw[hx]at L;rw[ho]at G;injection L with L;injection G with G;subst L;subst G;exact e3
   exact absurd e qj
  have jp:¬x.pos<ops.length:=M;have jpd:decide ((x.pos:Int)<ops.length)=X:=zP;refine wTq 3 [(12,57,ah O),(13,58,ah O),(14,59,ah O)] ?_ s ?_
  ·intro w' h
   (repeat' (first|exact bd|refine al ⟨_,Z,.inl ⟨zK,?_⟩⟩ ?_))
   all_goals exact zG
  refine wTq 19 [(15,60,ae (J ⟨f,0,Y⟩)),(16,61,ae (J ⟨f,0,Y⟩)),(17,62,ae (J ⟨f,26,Y⟩)),(18,63,af (J ⟨C,0,Y⟩) S S),(19,64,V H (who:Nat)),(20,65,ae (J ⟨C,who*5,Y⟩)),(21,66,ae (J ⟨C,who*5,Y⟩)),(22,67,V H (x.pos:Nat)),(23,68,ae (J ⟨g0,0,Y⟩)),(24,69,af (J ⟨R,U,Y⟩) S o),(25,70,V H (who:Nat)),(26,71,ae (J ⟨R,U+who,Y⟩)),(27,72,(.slice A' ops.length c')),(28,73,V H (ops.length:Nat)),(29,74,ah X),(30,75,ah X),(31,76,ah X),(32,77,ae (J ⟨f,0,Y⟩)),(33,78,ae (J ⟨f,30,Y⟩))] ?_ s ?_
  ·intro w' h;have d26:=(cX h I).trans qf;have d30:=(cX h I).trans qc;have dat:=(cX h gsl).trans BH;have dw:=(cX h hbw2).trans qi;have d0:=(qg.aw h).cell 0;simp at d0;clear qf qc BH qi zH CQ
   (repeat' (first|exact bd|refine al ⟨_,Z,.inl ⟨zK,?_⟩⟩ ?_))
   all_goals exact zG
  refine wOq 34 (λK y=>?_);clear zH CQ qc I;go_simp;refine y.out _ _ (λ_=>s) ?_;clear y K;refine aG zK ?_ _;have hTf:kn w5 B f (lyW S) tS:=⟨C,mv,ev,cv,X5⟩;go_wp2_with fail;exact⟨⟨who+1,M,by go_num,HTS.out.trans (ts4.trans (.aT s D)),by rw[HF.out.1];exact hTf⟩,by simp[intOf];omega⟩
end
namespace stack
open Go.RowKit
attribute [local go_sem ↓] aQ aR
def Mw(l:Ly)(zs:List Int)(a:Int):Int:=zs.getD (nodeAt l a 1).toNat 0
def jW(l:Ly)(zs L:List Int):List Int:=L.map (Mw l zs)
theorem pR(l:Ly)(s:Int)(A:Option Addr)(c n:Nat)(zs L:List Int)(w:W)(f:eu l)(h:eT w w.heap.size A zs)(Q:zs.length=n)(qg:l.c.nodes<=1000)(KM:0<=(fj l s)/\(fj l s)<n)(U:∀a i,1<=a/\a<=l.c.nodes->0<=i/\i<8->0<=nodeAt l a i/\nodeAt l a i<n)(ry:idxOf (zs.getD (fj l s).toNat 0)=L.headD 0)(DG:kV (λa=>zs.getD (nodeAt l a 0).toNat 0) L)(qe:∀a∈L,1<=a/\a<=l.c.nodes)(qC:L.Nodup)(CY:L.length<=1000):
  Calls ao 39 #[lyV l,.agg #[.slice A n c],V H s] w λe w'=>∃B d,e=ai (.slice B (jW l zs L).length d)/\aX w' w.heap.size (.slice B (jW l zs L).length d) (jW l zs L)/\D w.heap.size w w':=by
 have qb:=(Bk.made w 34 (lyC l)).alloc (ag #[.slice A n c] 37);have qa:=Bk.new (w.alloc (ag (lyC l) 34)) (g:=w.heap.size+1) zS 37 #[.slice A n c];have v:=aA (bA w (ag (lyC l) 34)) (ag #[.slice A n c] 37);have F:=aj f;have HS:=aj (al h Q);have I:=aj (al U (al qe qg));obtain⟨ri,BD⟩:=nB;have pr:=λt (b:D w.heap.size w t)=>M7 l s A c n zs L t f (by have:=h.below b;exact this.more b.size) Q qg KM (λa q=>U a 0 q zD) ry DG qe qC CY;have q0:((w.alloc (ag (lyC l) 34)).alloc (ag #[.slice A n c] 37)).cell? ⟨w.heap.size+1,0,Y⟩=J (.slice A n c):=by rw[qa.cell];rfl
 clear h Q U ry DG qe qC f KM qg;go_enter func39,ntmps39;go_wp2_with (refine aM Z 34 (.tmp 3) Z w.heap.size Z 34 (lyC l) (0,0) _ qb aK Z zK ?_);generalize (w.alloc (ag (lyC l) 34)).alloc (ag #[.slice A n c] 37)=w1 at *;refine(pr _ v).mono ?_;rintro e t ⟨NB,nd,rfl,y,b⟩;clear pr q0;replace qb:=qb.aw b;replace qa:=qa.aw b;replace v:=aE v b;clear b;have Iz:=y;go_wp2_with fail;go_loopw [7,15] (λv7 v15 wr=>∃k:Nat,k<=L.length/\v15=V H (k:Nat)/\D t.heap.size t wr/\aX wr t.heap.size v7 ((L.take k).map (Mw l zs))) (λv7 v15 _=>L.length-(intOf v15).toNat)
 case atStart=>exact⟨0,aN _,Z,bS,bW _ _ _ _⟩
 obtain⟨k,hk,rfl,m,o⟩:=hrel;have b:=v.trans (m.mono v.size);obtain⟨G,qd,rfl⟩:=bJ o;have O:=qb.below m qb.lt;have qi:=qa.below m qa.lt;by_cases fH:k<L.length;rotate_left
 ·obtain rfl:k=L.length:=zO;have g1:decide ((L.length:Int)<L.length)=X:=zS;rw[nP]at o ⊢;go_wp2_with fail;go_ret;have e:((L.map (Mw l zs)).length)=(jW l zs L).length:=Z;exact⟨G,qd,Z,dt o v.size,b⟩
 obtain⟨a,q⟩:∃a,L[k]? =J a:=⟨_,aD fH⟩;obtain⟨nb,ndc,x,-,A0⟩:=W.ownsRow.form y zO;injection x with x e1 e2;clear e1 e2;have qn:wr.cell? ⟨nb,k,Y⟩=J (V H a):=by
  rw[m.cell (p:=⟨nb,k,Y⟩) A0];subst x;rw[ig y k zO];simp[ints,q]
 have g1:decide ((k:Int)<L.length)=true:=zP;have j1:(k:Int)<L.length:=zO;have har:1<=a/\a<=1000:=by have:=I.out.2.1 a (aU q);have:=I.out.2.2;omega
 have P:=I.out.1 a 1 (I.out.2.1 a (aU q)) zD;have HA:=aj (al q y);have qh:(L.take k).length=k:=by rw[dg];omega
 have sh:L.take (k+1)=L.take k++[a]:=by rw[qy,q];rfl
 have HT:=aj (al qh sh);obtain⟨nx,qf⟩:=nM (nodeAt l a 1);rw[qf]at P;have LB:=aj qf;have HNB:=aj x;rw[x];unfold aX at o;rw[qH,qh]at o ⊢;clear q y sh qf qh x;go_upto_region 5 with fail;clear qn g1;refine aH (S:=λw'=>eB 3 wr.drew w') (E:=λ_=>X) zK ?_;have u:=bD wr;replace O:=O.aw u;replace qi:=qi.aw u;replace o:=aY o u;replace b:=aE b u;replace m:=m.trans (u.mono m.size);clear u;generalize wr.drew=w3 at *;have rz:eB 3 w3 w3:=λ_ _ _ _ h _=>h;refine wTq 3 [(0,19,.slice G k qd),(1,20,.agg #[.slice A n c]),(3,22,V H a)] ?_ rz ?_
 ·intro w' M;have c0:=(qi.dy M zD).cell 0;simp at c0;exact zT
 refine wTq 1 [(2,21,lyV l)] ?_ rz ?_
 ·intro w' M;have kE:(cL 34 ⟨w.heap.size,0,Y⟩).run ao w'= .ok (lyV l) w':=a7 w' w.heap.size 34 34 (lyC l) (0,0) _ (O.dy M zD) aK Z zK;exact zL
 refine wOq 4 (λK j=>?_);go_simp;refine(dE l a 1 _ F.out zO).mono ?_;rintro e w4 ⟨rfl,N⟩;rw[LB.out];refine sO j (λ_=>iv N) ?_;clear j K;refine wOq 5 (λK j=>?_);go_simp;refine(AJ A c zs n nx _ HS.out.2 (by have:=HS.out.1.below (aE b N);exact this.more (aE b N).size) P.1 P.2).mono ?_;rintro e qc ⟨rfl,oQ⟩;have T:=aE N oQ;refine sO j (λ_=>iv T) ?_;clear j K;obtain⟨vv,hvv⟩:=nM (zs.getD nx.toNat 0);rw[hvv];have C:=aY o T;refine wOq 6 (λK j=>?_);go_simp;have kN:=Bk.made qc 3 #[V H vv];have hba:=bA qc (ag #[V H vv] 3);have z:=aE T hba;refine j.out _ _ (λ_=>iv z) ?_;clear j K;replace C:=aY C hba;generalize qc.alloc (ag #[V H vv] 3)=w6 at *;generalize qc.heap.size=gN at *;(try simp only[Act.put,ak,ay,az]);refine wOq 7 (λK j=>?_);have hbw6:=aE b z;have hbw6b:=m.trans (z.mono m.size);have hs26:=hbw6b.size;refine dX BD (.tmp 19) (.tmp 25) rfl t.heap.size (.slice G k qd) k (ints ((L.take k).map (Mw l zs))) rfl C (J ⟨gN,0,Y⟩) 1 1 _ rfl (mK kN rfl kN.lt) (by simp[aB]) zO zO hs26 (λv9 w7 pq fT=>?_);have hkt7:=cV C fT;have hbw7:=bO hbw6b C fT hs26 (aq _);refine sO j (λ_=>(iv z).trans hkt7) ?_;clear j K;refine wTq 1 [(8,7,v9)] ?_ ((iv z).trans hkt7) ?_
 ·intro w' M;exact zT
 refine aG zK ?_ _;go_wp2_with fail;refine⟨⟨k+1,fH,by go_num,hbw7,?_⟩,by simp[intOf];omega⟩;unfold aX;rw[HT.out.2,List.map_append,bE,qH,HT.out.1];have e:Mw l zs a=vv:=by rw[<- hvv,<- LB.out];rfl
 simpa[ints,e] using pq
end stack
namespace segment
open Go.RowKit
attribute [local go_sem ↓] aQ aR
def Kh(l:Ly)(zs:List Int)(a:Int)(i:Nat):Int:=zs.getD (nodeAt l a (1+(i:Int))).toNat 0
def Hw(l:Ly)(zs:List Int)(a:Int)(k:Nat):List Int:=(eF k).filterMap λi=>if 1<Kh l zs a i then J (Kh l zs a i-2)else Y
def jW(l:Ly)(zs L:List Int):List Int:=L.flatMap λa=>Hw l zs a 5
theorem Ki(l:Ly)(zs:List Int)(a:Int)(k:Nat):Hw l zs a (k+1)=Hw l zs a k++(if 1<Kh l zs a k then [Kh l zs a k-2]else []):=by
 unfold Hw;rw[List.range_succ,List.filterMap_append];congr 1;by_cases h:1<Kh l zs a k<;>simp[h]
theorem pR(l:Ly)(s:Int)(A:Option Addr)(c n:Nat)(zs L:List Int)(w:W)(f:eu l)(h:eT w w.heap.size A zs)(qj:zs.length=n)(hN:l.c.nodes<=1000)(KM:0<=(et l s)/\(et l s)<n)(sY:∀a i,1<=a/\a<=l.c.nodes->0<=i/\i<8->0<=nodeAt l a i/\nodeAt l a i<n)(ry:idxOf (zs.getD (et l s).toNat 0)=L.headD 0)(DG:kV (λa=>zs.getD (nodeAt l a 0).toNat 0) L)(yv:∀a∈L,1<=a/\a<=l.c.nodes)(qC:L.Nodup)(CY:L.length<=1000)(P:∀a∈L,∀i:Nat,i<5-> -4611686018427387904<=zs.getD (nodeAt l a (1+(i:Int))).toNat 0/\zs.getD (nodeAt l a (1+(i:Int))).toNat 0<=4611686018427387904):
  U ao 40 #[lyV l,.agg #[.slice A n c],V H s] w λe w'=>∃B d,e=ai (.slice B (jW l zs L).length d)/\aX w' w.heap.size (.slice B (jW l zs L).length d) (jW l zs L)/\D w.heap.size w w':=by
 have N:=(Bk.made w 34 (lyC l)).alloc (ag #[.slice A n c] 37);have M:=Bk.new (w.alloc (ag (lyC l) 34)) (g:=w.heap.size+1) zS 37 #[.slice A n c];have u:=aA (bA w (ag (lyC l) 34)) (ag #[.slice A n c] 37);have F:=aj f;have HS:=aj (al h qj);have qf:=aj (al sY (al yv hN));have HV:=aj P;clear P;obtain⟨ri,BD⟩:=nB;have pr:=λq (b:D w.heap.size w q)=>M7 l s A c n zs L q f (by have:=h.below b;exact this.more b.size) qj hN KM (λa z=>sY a 0 z zD) ry DG yv qC CY;have q0:((w.alloc (ag (lyC l) 34)).alloc (ag #[.slice A n c] 37)).cell? ⟨w.heap.size+1,0,Y⟩=J (.slice A n c):=by rw[M.cell];rfl
 clear h qj sY ry DG yv qC f KM hN;go_enter func40,ntmps40;go_wp2_with (refine aM Z 34 (.tmp 3) Z w.heap.size Z 34 (lyC l) (0,0) _ N aK Z zK ?_);generalize (w.alloc (ag (lyC l) 34)).alloc (ag #[.slice A n c] 37)=w1 at *;refine(pr _ u).mono ?_;rintro e q ⟨NB,nd,rfl,qb,b⟩;clear pr q0;replace N:=N.aw b;replace M:=M.aw b;replace u:=aE u b;clear b;have Iz:=qb;go_wp2_with fail;go_loopw [7,17] (λqc v17 wr=>∃k:Nat,k<=L.length/\v17=V H (k:Nat)/\D q.heap.size q wr/\aX wr q.heap.size qc (jW l zs (L.take k))/\(jW l zs (L.take k)).length<=5*k) (λqc v17 _=>L.length-(intOf v17).toNat)
 case atStart=>exact⟨0,aN _,Z,bS,bW _ _ _ _,aq _⟩
 obtain⟨k,hk,rfl,rJ,y,hlen⟩:=hrel;have b:=u.trans (rJ.mono u.size);by_cases fH:k<L.length;rotate_left
 ·obtain rfl:k=L.length:=zO;have Q:decide ((L.length:Int)<L.length)=X:=zS;rw[nP]at y;obtain⟨G,cg,rfl⟩:=bJ y;go_wp2_with fail;go_ret;exact⟨G,cg,Z,dt y u.size,b⟩
 obtain⟨a,z⟩:∃a,L[k]? =J a:=⟨_,aD fH⟩;obtain⟨nb,ndc,C,-,A0⟩:=W.ownsRow.form qb zO;injection C with C e1 e2;clear e1 e2;have qn:wr.cell? ⟨nb,k,Y⟩=J (V H a):=by
  rw[rJ.cell (p:=⟨nb,k,Y⟩) A0];subst C;rw[ig qb k zO];simp[ints,z]
 have Q:decide ((k:Int)<L.length)=O:=zP;have j1:(k:Int)<L.length:=zO;have qi:=aU z;have har:1<=a/\a<=1000:=by have:=qf.out.2.1 a qi;have:=qf.out.2.2;omega
 have sh:L.take (k+1)=L.take k++[a]:=by rw[qy,z];rfl
 obtain⟨qk,hR⟩:=nM (jW l zs (L.take k));have hR2:jW l zs (L.take (k+1))=qk++Hw l zs a 5:=by rw[sh,<- hR];unfold jW;rw[List.flatMap_append];simp
 rw[hR]at y hlen;have HA:=aj (al qi (al qb hR2));have HNB:=aj C;rw[C];clear z qi qb sh C hR hR2;go_wp2_with fail;clear qn Q b;generalize wr=wo at *;go_loopw [7,21] (λqc v21 wr=>∃(i:Nat) (o:List Int),i<=5/\v21=V H (i:Nat)/\D q.heap.size q wr/\o=qk++Hw l zs a i/\aX wr q.heap.size qc o/\o.length<=5*k+i) (λqc v21 _=>5-(intOf v21).toNat)
 case atStart=>exact⟨0,qk,zO,Z,rJ,by simp[Hw],y,hlen⟩
 obtain⟨i,o,hi,rfl,j,hR',t,hlen2⟩:=hrel;clear y hlen;have b:=u.trans (j.mono u.size);have qh:=N.below j N.lt;have uL:=M.below j M.lt;obtain⟨G,cg,rfl⟩:=bJ t;by_cases hi5:i<5;rotate_left
 ·obtain rfl:i=5:=zO;have Q:decide (((5:Nat):Int)<5)=X:=zD;go_wp2_with fail;have e:o=jW l zs (L.take (k+1)):=by rw[HA.out.2.2,hR']
  refine⟨⟨k+1,fH,by go_num,j,?_,?_⟩,by simp[intOf];omega⟩
  ·rw[<- e];exact t
  rw[<- e];omega
 have Q:decide ((i:Int)<5)=O:=zP;have qg:=qf.out.1 a (1+(i:Int)) (qf.out.2.1 a HA.out.1) zO;have P:=HV.out a HA.out.1 i hi5;have hsv:Kh l zs a i=zs.getD (nodeAt l a (1+(i:Int))).toNat 0:=Z;have qd:=Ki l zs a i;rw[hsv]at qd;obtain⟨nx,oV⟩:=nM (nodeAt l a (1+(i:Int)));rw[oV]at qg P qd;obtain⟨m,hvv⟩:=nM (zs.getD nx.toNat 0);rw[hvv]at P qd;have x:=aj (al oV (al hvv (al qd hR')));have kw1:IntKind.i64.wrap (1+(i:Int))=1+(i:Int):=dh _ zO;have kw2:IntKind.i64.wrap (m-2)=m-2:=dh _ zO;clear oV hvv qd hsv hR';go_upto_region 8 with fail;clear Q;refine aH (S:=λw'=>D wr.drew.heap.size wr.drew w') (E:=λ_=>X) zK ?_;have v:=bD wr;replace qh:=qh.aw v;replace uL:=uL.aw v;replace t:=aY t v;replace b:=aE b v;replace j:=j.trans (v.mono j.size);clear v;generalize wr.drew=w3 at *;refine wTq 4 [(0,24,.agg #[.slice A n c]),(2,26,V H a),(3,27,V H (i:Nat)),(4,28,V H (1+(i:Int)))] ?_ bS ?_
 ·intro w' qe;have c0:=(uL.aw qe).cell 0;simp at c0;exact zT
 refine wTq 1 [(1,25,lyV l)] ?_ bS ?_
 ·intro w' qe;have kE:(cL 34 ⟨w.heap.size,0,Y⟩).run ao w'= .ok (lyV l) w':=a7 w' w.heap.size 34 34 (lyC l) (0,0) _ (qh.aw qe) aK Z zK;exact zL
 refine wOq 5 (λK qa=>?_);go_simp;refine(dE l a (1+(i:Int)) _ F.out zO).mono ?_;rintro e w4 ⟨rfl,T⟩;rw[x.out.1];refine sO qa (λ_=>T) ?_;clear qa K;refine wOq 6 (λK qa=>?_);go_simp;refine(AJ A c zs n nx _ HS.out.2 (by have:=HS.out.1.below (aE b T);exact this.more (aE b T).size) qg.1 qg.2).mono ?_;rintro e w5 ⟨rfl,oQ⟩;rw[x.out.2.1];have I:=aE T oQ;refine sO qa (λ_=>I) ?_;clear qa K;refine wTq 1 [(7,11,V H m)] ?_ I ?_
 ·intro w' qe;exact zT
 refine aG zK ?_ _;replace t:=aY t I;replace j:=j.trans (I.mono j.size);clear I T oQ kw1 b;by_cases ND:1<m
 ·have g2:decide ((1:Int)<m)=O:=zP;obtain⟨i0,yx,sf,tP,sW⟩:=info_parts iM;have ho5:=W.ownsRow.alloc t (ag #[V H (m-2)] 3);have yA:=j.trans ((bA w5 (ag #[V H (m-2)] 3)).mono j.size);go_wp2_with (at_builtin;go_must (refine dI _ Z (.tmp 33) (.tmp 36) _ Z q.heap.size 3 i0 _ 1 8 lI yx sf tP sW Z zO (.slice G o.length cg) o.length (ints o) Z ho5 ⟨w5.heap.size,0,Y⟩ 1 1 [V H (m-2)] Z Z (lN _) (by simp[aB]) (by simp only[sV];omega) zO yA.size ?_;intro v9 w6 hrow4 hgrow4 _ _));refine⟨⟨i+1,o++[m-2],zO,by go_num,bO yA ho5 hgrow4 yA.size (aq _),?_,?_,by simp;omega⟩,by simp[intOf];omega⟩
  ·rw[x.out.2.2.1,if_pos ND,x.out.2.2.2,List.append_assoc]
  unfold aX;rw[bE]
  simpa[ints] using hrow4
 have g2:decide ((1:Int)<m)=X:=zP;go_wp2_with fail;refine⟨⟨i+1,o,zO,by go_num,j,?_,t,zO⟩,by simp[intOf];omega⟩;rw[x.out.2.2.1,if_neg ND,x.out.2.2.2,List.append_nil]
end segment
section
open Go.RowKit
attribute [local go_sem ↓] aQ aR
def JT(R:List Int)(w:W)(e:jK)(a:W):Prop:=∃B d,e=ai (.slice B R.length d)/\aX a w.heap.size (.slice B R.length d) R/\D w.heap.size w a
def pL(k:Int)(R:List Int)(w:W)(e:jK)(a:W):Prop:=∃B d,e=ai (.agg #[V H k,af Y 0 0,.slice B R.length d])/\aX a w.heap.size (.slice B R.length d) R/\D w.heap.size w a
theorem xA(l:Ly)(s:Int)(A:Option Addr)(c n:Nat)(R:List Int)(w:W)(u:∀b,D w.heap.size w b->U ao 39 #[lyV l,.agg #[.slice A n c],V H s] b (JT R b)):
  U ao 17 #[lyV l,.agg #[.slice A n c],V H 2,V H s] w (pL 2 R w):=by
 have E:=((Bk.made w 34 (lyC l)).alloc (ag #[.slice A n c] 37)).alloc (ag #[V H 0,af Y 0 0,af Y 0 0] 61);have C:=(Bk.new (w.alloc (ag (lyC l) 34)) (g:=w.heap.size+1) zS 37 #[.slice A n c]).alloc (ag #[V H 0,af Y 0 0,af Y 0 0] 61);have a:=Bk.new ((w.alloc (ag (lyC l) 34)).alloc (ag #[.slice A n c] 37)) (g:=w.heap.size+1+1) zS 61 #[V H 0,af Y 0 0,af Y 0 0];have i:=aA (aA (bA w (ag (lyC l) 34)) (ag #[.slice A n c] 37)) (ag #[V H 0,af Y 0 0,af Y 0 0] 61);go_enter func17,ntmps17;go_wp2_with (first|(refine aM Z 34 (.tmp 4) Z w.heap.size Z 34 (lyC l) (0,0) _ E aK Z zK ?_)|(refine aM Z 37 (.tmp 5) Z (w.heap.size+1) Z 37 #[.slice A n c] (0,0) _ C underlying37 Z zK ?_));generalize ((w.alloc (ag (lyC l) 34)).alloc (ag #[.slice A n c] 37)).alloc (ag #[V H 0,af Y 0 0,af Y 0 0] 61)=Q at *;refine(u _ i).mono ?_;rintro e b ⟨B,d,rfl,j,m⟩;replace a:=a.aw m;have h:=aE i m;have f:w.heap.size<=Q.heap.size:=i.size;obtain⟨y,F,P⟩:=cE a;obtain⟨J,I,K⟩:=fE a;have L:=a.lt;simp at y F P;have t:=N (al j (al h (al f a)));go_wp2_with fail;obtain⟨j,h,f,a⟩:=t.out;have z:=bX a 0 (V H 2);have o:=a.stored 0 (V H 2);have q:=bX o 1 (af Y 0 0);have k:=o.stored 1 (af Y 0 0);have S:=bX k 2 (.slice B R.length d);have x:=k.stored 2 (.slice B R.length d);refine aS (v:=.agg #[V H 2,af Y 0 0,.slice B R.length d]) (bQ rfl _ _ (w.heap.size+1+1) 61 #[V H 2,af Y 0 0,.slice B R.length d] (0,0) _ rfl x Bz rfl zK) rfl ⟨B,d,rfl,dt (bY j ((z.trans q).trans S) zD) f,bu (bu (bu h zP _) zP _) zP _⟩
theorem La(l:Ly)(s:Int)(A:Option Addr)(c n:Nat)(R:List Int)(w:W)(u:∀b,D w.heap.size w b->U ao 40 #[lyV l,.agg #[.slice A n c],V H s] b (JT R b)):
  U ao 17 #[lyV l,.agg #[.slice A n c],V H 3,V H s] w (pL 3 R w):=by
 have E:=((Bk.made w 34 (lyC l)).alloc (ag #[.slice A n c] 37)).alloc (ag #[V H 0,af Y 0 0,af Y 0 0] 61);have C:=(Bk.new (w.alloc (ag (lyC l) 34)) (g:=w.heap.size+1) zS 37 #[.slice A n c]).alloc (ag #[V H 0,af Y 0 0,af Y 0 0] 61);have a:=Bk.new ((w.alloc (ag (lyC l) 34)).alloc (ag #[.slice A n c] 37)) (g:=w.heap.size+1+1) zS 61 #[V H 0,af Y 0 0,af Y 0 0];have i:=aA (aA (bA w (ag (lyC l) 34)) (ag #[.slice A n c] 37)) (ag #[V H 0,af Y 0 0,af Y 0 0] 61);go_enter func17,ntmps17;go_wp2_with (first|(refine aM Z 34 (.tmp 4) Z w.heap.size Z 34 (lyC l) (0,0) _ E aK Z zK ?_)|(refine aM Z 37 (.tmp 5) Z (w.heap.size+1) Z 37 #[.slice A n c] (0,0) _ C underlying37 Z zK ?_));generalize ((w.alloc (ag (lyC l) 34)).alloc (ag #[.slice A n c] 37)).alloc (ag #[V H 0,af Y 0 0,af Y 0 0] 61)=Q at *;refine(u _ i).mono ?_;rintro e b ⟨B,d,rfl,j,m⟩;replace a:=a.aw m;have h:=aE i m;have f:w.heap.size<=Q.heap.size:=i.size;obtain⟨y,F,P⟩:=cE a;obtain⟨J,I,K⟩:=fE a;have L:=a.lt;simp at y F P;have t:=N (al j (al h (al f a)));go_wp2_with fail;obtain⟨j,h,f,a⟩:=t.out;have z:=bX a 0 (V H 3);have o:=a.stored 0 (V H 3);have q:=bX o 1 (af Y 0 0);have k:=o.stored 1 (af Y 0 0);have S:=bX k 2 (.slice B R.length d);have x:=k.stored 2 (.slice B R.length d);refine aS (v:=.agg #[V H 3,af Y 0 0,.slice B R.length d]) (bQ rfl _ _ (w.heap.size+1+1) 61 #[V H 3,af Y 0 0,.slice B R.length d] (0,0) _ rfl x Bz rfl zK) rfl ⟨B,d,rfl,dt (bY j ((z.trans q).trans S) zD) f,bu (bu (bu h zP _) zP _) zP _⟩
end
namespace list
open Go.RowKit
attribute [local go_sem ↓] aQ aR
def rowP(l:Ly)(zs:List Int)(a:Int):Option (Int × Int):=if dH (zs.getD (nodeAt l a 0).toNat 0)=O then Y else J (zs.getD (nodeAt l a 1).toNat 0,zs.getD (nodeAt l a 2).toNat 0)
def jW(l:Ly)(zs L:List Int):cq:=L.filterMap (rowP l zs)
theorem Mx(l:Ly)(zs L:List Int):(jW l zs L).length<=L.length:=List.length_filterMap_le _ _
def rlT:Nat->Nat|4=>31|5=>32|9=>36|10=>37|11=>38|12=>39|_=>43
def rlP:Nat->List Nat|5=>[4]|10=>[9]|11=>[5,10]|12=>[11]|_=>[]
def rlR(b a v1 v2:Int)(i:Nat)(val:Nat->Option I)(v:I)(w:W):Prop:=match i with
 | 4=>v=V H b
 | 5=>v=V H v1
 | 9=>v=V H a
 | 10=>v=V H v2
 | 11=>v= .agg #[V H v1,V H v2]
 | 12=>∃g,v=af (J ⟨g,0,Y⟩) 1 1/\Bk w g 52 #[V H v1,V H v2]
 | _=>True
theorem My{d c v1 v2:Int}:∀(i:Nat) (val b:Nat->Option I) (v:I) (a w2:W),(∀(j:Nat) (u:I),val j=J u->b j=J u)->D a.heap.size a w2->rlR d c v1 v2 i val v a->rlR d c v1 v2 i b v w2:=by
 intro i val b v a w2 _ e h;unfold rlR at h ⊢;split at h<;>first|exact h|(obtain⟨g,f,k⟩:=h;exact⟨g,f,k.aw e⟩)|trivial
theorem pR(l:Ly)(s:Int)(A:Option Addr)(c n:Nat)(zs L:List Int)(w:W)(f:eu l)(h:eT w w.heap.size A zs)(hn:zs.length=n)(hN:l.c.nodes<=1000)(KM:0<=s/\s<n)(sY:∀a i,1<=a/\a<=l.c.nodes->0<=i/\i<8->0<=nodeAt l a i/\nodeAt l a i<n)(ry:idxOf (zs.getD s.toNat 0)=L.headD 0)(DG:kV (λa=>idxOf (zs.getD (nodeAt l a 0).toNat 0)) L)(yv:∀a∈L,1<=a/\a<=l.c.nodes)(qC:L.Nodup)(CY:L.length<=1000):
  Calls ao 59 #[lyV l,.agg #[.slice A n c],V H s] w λe w'=>∃B d,e=ai (.slice B (jW l zs L).length d)/\iT w' w.heap.size (.slice B (jW l zs L).length d) (jW l zs L)/\D w.heap.size w w':=by
 have k0:=(Bk.made w 34 (lyC l)).alloc (ag #[.slice A n c] 37);have kM:=Bk.new (w.alloc (ag (lyC l) 34)) (g:=w.heap.size+1) zS 37 #[.slice A n c];have sy:=aA (bA w (ag (lyC l) 34)) (ag #[.slice A n c] 37);have F:=N f;have HS:=N (al h hn);have HP:=N (al sY (al yv hN));obtain⟨ri,BD⟩:=zh;have pr:=λw2 (hb:D w.heap.size w w2)=>Kx l s A c n zs L w2 f (by have:=h.below hb;exact this.more hb.size) hn hN KM (λa ha=>sY a 0 ha zD) ry DG yv qC CY;have q0:((w.alloc (ag (lyC l) 34)).alloc (ag #[.slice A n c] 37)).cell? ⟨w.heap.size+1,0,Y⟩=J (.slice A n c):=by rw[kM.cell];rfl
 clear h hn sY ry DG yv qC f KM hN;go_enter func59,ntmps59;go_wp2_with (refine aM Z 34 (.tmp 3) Z w.heap.size Z 34 (lyC l) (0,0) _ k0 aK Z zK ?_);generalize (w.alloc (ag (lyC l) 34)).alloc (ag #[.slice A n c] 37)=w1 at *;refine(pr _ sy).mono ?_;rintro e w2 ⟨NB,nd,rfl,tQ,hb⟩;clear pr q0;replace k0:=k0.aw hb;replace kM:=kM.aw hb;replace sy:=aE sy hb;clear hb;go_wp2_with fail;go_loopw [7,15] (λv7 v15 wr=>∃k:Nat,k<=L.length/\v15=V H (k:Nat)/\D w2.heap.size w2 wr/\iT wr w2.heap.size v7 (jW l zs (L.take k))) (λv7 v15 _=>L.length-(intOf v15).toNat)
 case atStart=>exact⟨0,aN _,Z,bS,bW _ _ _ _⟩
 obtain⟨k,hk,rfl,rJ,lH⟩:=hrel;have hb:=sy.trans (rJ.mono sy.size);have k1:=k0.below rJ k0.lt;have uL:=kM.below rJ kM.lt;by_cases fH:k<L.length;rotate_left
 ·obtain rfl:k=L.length:=M;have g1:decide ((L.length:Int)<L.length)=X:=zS;rw[nP]at lH;obtain⟨b,cg,rfl⟩:=bJ lH;go_wp2_with fail;go_ret;exact⟨b,cg,Z,dt lH sy.size,hb⟩
 obtain⟨a,ha⟩:∃a,L[k]? =J a:=⟨_,aD fH⟩;obtain⟨nb,ndc,hNB,-,A0⟩:=W.ownsRow.form tQ M;injection hNB with hNB e1 e2;clear e1 e2;have qn:wr.cell? ⟨nb,k,Y⟩=J (V H a):=by
  rw[rJ.cell (p:=⟨nb,k,Y⟩) A0];subst hNB;rw[ig tQ k M];simp[ints,ha]
 have g1:decide ((k:Int)<L.length)=O:=zP;have j1:(k:Int)<L.length:=M;have ham:=aU ha;have har:1<=a/\a<=1000:=by have:=HP.out.2.1 a ham;have:=HP.out.2.2;omega
 have Iy:=HP.out.1 a 0 (HP.out.2.1 a ham) zD;have Ix:=HP.out.1 a 1 (HP.out.2.1 a ham) zD;have va:=HP.out.1 a 2 (HP.out.2.1 a ham) zD;have sh:L.take (k+1)=L.take k++[a]:=by rw[qy,ha];rfl
 obtain⟨R,hR⟩:=nM (jW l zs (L.take k));have hR2:jW l zs (L.take (k+1))=R++(rowP l zs a).toList:=by
  rw[sh,<- hR];unfold jW;rw[List.filterMap_append];congr 1
 have hlen:R.length<=1000:=by have:=Mx l zs (L.take k);rw[hR,dg]at this;omega
 rw[hR]at lH;obtain⟨x0,hx0⟩:=nM (nodeAt l a 0);obtain⟨x1,hx1⟩:=nM (nodeAt l a 1);obtain⟨x2,u0⟩:=nM (nodeAt l a 2);obtain⟨v0,hv0⟩:=nM (zs.getD x0.toNat 0);obtain⟨v1,ND⟩:=nM (zs.getD x1.toNat 0);obtain⟨v2,hv2⟩:=nM (zs.getD x2.toNat 0);have hrp:rowP l zs a=if (v0 / 65536%2==1)=O then Y else J (v1,v2):=by unfold rowP;rw[hx0,hx1,u0,hv0,ND,hv2,dH]
 rw[hx0]at Iy;rw[hx1]at Ix;rw[u0]at va;have HX:=N (al hx0 (al hx1 (al u0 (al hv0 (al ND (al hv2 (al hrp hR2)))))));have HN:=N (al Iy (al Ix va));have HNO:=N tQ;have HNB:=N hNB;rw[hNB];obtain⟨b,cg,rfl⟩:=bJ lH;clear ha ham sh hNB hR hR2 hx0 hx1 u0 hv0 ND hv2 hrp Iy Ix va tQ;go_upto_region 5 with fail;clear qn g1;refine aH (S:=λw'=>D wr.drew.heap.size wr.drew w') (E:=λ_=>X) zK ?_;have p7:=bD wr;replace k1:=k1.aw p7;replace uL:=uL.aw p7;replace lH:=aY lH p7;replace hb:=aE hb p7;replace rJ:=rJ.trans (p7.mono rJ.size);clear p7;generalize wr.drew=w3 at *;refine wTq 2 [(0,19,.agg #[.slice A n c]),(2,21,V H a)] ?_ bS ?_
 ·intro w' hS;have c0:=(uL.aw hS).cell 0;simp at c0;exact zT
 refine wTq 1 [(1,20,lyV l)] ?_ bS ?_
 ·intro w' hS;have kE:(cL 34 ⟨w.heap.size,0,Y⟩).run ao w'= .ok (lyV l) w':=a7 w' w.heap.size 34 34 (lyC l) (0,0) _ (k1.aw hS) aK Z zK
  (repeat' (first|exact bd|refine al ⟨_,Z,.inl ⟨Z,?_⟩⟩ ?_))
  all_goals exact dp Z Z kE
 refine wOq 3 (λK hK=>?_);go_simp;refine(dE l a 0 _ F.out M).mono ?_;rintro e w4 ⟨rfl,tT⟩;rw[HX.out.1];refine sO hK (λ_=>tT) ?_;clear hK K;refine wOq 4 (λK hK=>?_);go_simp;refine(AJ A c zs n x0 _ HS.out.2 (by have:=HS.out.1.below (aE hb tT);exact this.more (aE hb tT).size) HN.out.1.1 HN.out.1.2).mono ?_;rintro e w5 ⟨rfl,oQ⟩;rw[HX.out.2.2.2.1];have hb45:=aE tT oQ;refine sO hK (λ_=>hb45) ?_;clear hK K;refine wOq 5 (λK hK=>?_);go_simp;refine(gL v0 _).mono ?_;rintro e w6 ⟨rfl,yA⟩;have uE:=aE hb45 yA;refine sO hK (λ_=>uE) ?_;clear hK K;obtain⟨mk,uC⟩:=nM ((v0 / 65536%2==1));have HMK:=N uC;rw[uC];clear uC;generalize v0%65536=z1;generalize v0 / 131072%268435456=z2;have hf1:∀w:W,(Instr.field 81 (.agg #[V H z1,.bool mk,V H z2]) 1).run ao w= .ok (.bool mk) w:=λw=>by kernel_rfl
 refine wTq 2 [(6,25,.bool mk),(7,26,ah (!mk))] ?_ uE ?_
 ·intro w' hS;exact zT
 refine aG zK ?_ _;replace lH:=aY lH uE;replace rJ:=rJ.trans (uE.mono rJ.size);replace hb:=aE hb uE;replace k1:=k1.aw uE;replace uL:=uL.aw uE;clear uE hb45 tT oQ yA hf1;cases mk with
 | true=>
  go_wp2_with fail;refine⟨⟨k+1,fH,by go_num,rJ,?_⟩,by simp[intOf];omega⟩;rw[HX.out.2.2.2.2.2.2.2,HX.out.2.2.2.2.2.2.1,HMK.out,if_pos Z,show (Y:Option (Int × Int)).toList=[]from Z,List.append_nil];exact lH
 | false=>
  go_upto_region 6 with fail;refine aH (S:=λw'=>Bk w' w.heap.size 34 (lyC l)/\Bk w' (w.heap.size+1) 37 #[.slice A n c]) (E:=λ_=>X) zK ?_;have p7:=bD w6;replace k1:=k1.aw p7;replace uL:=uL.aw p7;replace lH:=aY lH p7;replace hb:=aE hb p7;replace rJ:=rJ.trans (p7.mono rJ.size);clear p7;generalize w6.drew=w7 at *;refine wTq 5 [(0,27,.slice b R.length cg),(1,28,.agg #[.slice A n c]),(3,30,V H a),(6,33,.agg #[.slice A n c]),(8,35,V H a)] ?_ ⟨k1,uL⟩ ?_
  ·intro w' hS;have c0:=hS.2.cell 0;simp at c0;exact zT
  refine wTq 2 [(2,29,lyV l),(7,34,lyV l)] ?_ ⟨k1,uL⟩ ?_
  ·intro w' hS;have kE:(cL 34 ⟨w.heap.size,0,Y⟩).run ao w'= .ok (lyV l) w':=a7 w' w.heap.size 34 34 (lyC l) (0,0) _ hS.1 aK Z zK
   (repeat' (first|exact bd|refine al ⟨_,Z,.inl ⟨Z,?_⟩⟩ ?_))
   all_goals exact dp Z Z kE
  refine eh (U:=[4,5,9,10,11,12]) (tmp:=rlT) (pre:=rlP) (R:=rlR x1 x2 v1 v2) zK (λ_ _=>Z) (λw2 h=>⟨k1.aw h,uL.aw h⟩) My (λi hi=>?_) 2 (λval w8 eI CW=>?_)
  ·simp only[aL,be,or_false]at hi;rcases hi with rfl|rfl|rfl|rfl|rfl|rfl
   ·refine⟨_,Z,λval w2 K kW fA hK=>?_⟩;simp only[rlP,ba]at hK ⊢;go_simp;refine(dE l a 1 w2 F.out M).mono ?_;rintro e w8 ⟨rfl,CW⟩;exact hK _ _ (congrArg (LD .i64) HX.out.2.1) CW
   ·refine⟨_,Z,λval w2 K kW fA hK=>?_⟩;obtain⟨v,e,rfl⟩:=fA 4 (by simp[rlP]);simp only[rlP,ba,e,rlT]at hK ⊢;go_simp;refine(AJ A c zs n x1 _ HS.out.2 (by have:=HS.out.1.below (aE hb kW);exact this.more (aE hb kW).size) HN.out.2.1.1 HN.out.2.1.2).mono ?_;rintro e w8 ⟨rfl,CW⟩;exact hK _ _ (congrArg (LD .i64) HX.out.2.2.2.2.1) CW
   ·refine⟨_,Z,λval w2 K kW fA hK=>?_⟩;simp only[rlP,ba]at hK ⊢;go_simp;refine(dE l a 2 w2 F.out M).mono ?_;rintro e w8 ⟨rfl,CW⟩;exact hK _ _ (congrArg (LD .i64) HX.out.2.2.1) CW
   ·refine⟨_,Z,λval w2 K kW fA hK=>?_⟩;obtain⟨v,e,rfl⟩:=fA 9 (by simp[rlP]);simp only[rlP,ba,e,rlT]at hK ⊢;go_simp;refine(AJ A c zs n x2 _ HS.out.2 (by have:=HS.out.1.below (aE hb kW);exact this.more (aE hb kW).size) HN.out.2.2.1 HN.out.2.2.2).mono ?_;rintro e w8 ⟨rfl,CW⟩;exact hK _ _ (congrArg (LD .i64) HX.out.2.2.2.2.2.1) CW
   ·refine⟨_,Z,λval w2 K kW fA hK=>?_⟩;obtain⟨v,e,rfl⟩:=fA 5 (by simp[rlP]);obtain⟨v,e',rfl⟩:=fA 10 (by simp[rlP]);simp only[rlP,ba,e,e',rlT]at hK ⊢;go_simp;exact hK _ _ Z bS
   refine⟨_,Z,λval w2 K kW fA hK=>?_⟩;obtain⟨v,e,rfl⟩:=fA 11 (by simp[rlP]);simp only[rlP,ba,e,rlT]at hK ⊢;go_simp;exact hK _ _ ⟨_,Z,Bk.made _ _ _⟩ (aA bS _)
  obtain⟨u4,e4,rfl⟩:=eI 4 zS;obtain⟨u5,e5,rfl⟩:=eI 5 zS;obtain⟨u9,e9,rfl⟩:=eI 9 zS;obtain⟨u10,uN,rfl⟩:=eI 10 zS;obtain⟨u11,JD,rfl⟩:=eI 11 zS;obtain⟨u12,e12,ga,rfl,mD⟩:=eI 12 zS;replace k1:=k1.aw CW;replace uL:=uL.aw CW;have zN:=aY lH CW;have hbw8:=rJ.trans (CW.mono rJ.size);simp only[rlT,ba,dj,e4,e5,e9,uN,JD,e12,cZ,if_true];clear eI e4 e5 e9 uN JD e12 lH;refine eG (i:=13) (o:=_) zK Z (λK hK=>?_);rw[if_pos (by rfl)];refine dX BD (.tmp 27) (.tmp 39) Z w2.heap.size (.slice b R.length cg) R.length (cT R) Z zN (J ⟨ga,0,Y⟩) 1 1 _ Z (mK mD Z mD.lt) (by simp[aB]) M M hbw8.size (λv9 w9 pq fT=>?_);have hbw9:=bO hbw8 zN fT hbw8.size (aq _);have hkt:=cV zN fT;refine sO hK (λ_=>⟨k1.dy hkt zD,uL.dy hkt zD⟩) ?_;clear hK K;refine wTq 1 [(14,7,v9)] ?_ ⟨k1.dy hkt zD,uL.dy hkt zD⟩ ?_
  ·intro w' hS;exact zT
  refine aG zK ?_ _;go_wp2_with fail;refine⟨⟨k+1,fH,by go_num,hbw9,?_⟩,by simp[intOf];omega⟩;rw[HX.out.2.2.2.2.2.2.2,HX.out.2.2.2.2.2.2.1,HMK.out,if_neg zD];unfold iT;show w9.ownsRow _ _ _ _ (R++[(v1,v2)]).length (cT (R++[(v1,v2)]));rw[mf,bE];exact pq
end list
section
open Go.RowKit
attribute [local go_sem ↓] aQ aR
def IZ(w:W)(e:jK)(a:W):Prop:=e=ai (.tuple #[])/\a=w
theorem ins_any(v f:I)(n:Nat)(w:W)(c:n<=1):U ao 113 #[v,V H 0,V H n,f] w (IZ w):=by
 have g:decide ((1:Int)<n)=X:=zP;have b:¬1<n:=M;go_enter func113,ntmps113;go_wp2_with fail;go_loopw [8] (λa wr=>a=V H 1/\wr=w) (λ_ _=>0)
 case atStart=>exact⟨Z,Z⟩
 obtain⟨rfl,rfl⟩:=hrel;go_wp2_with fail;exact bodyPost_end (gT Z _ _ _) Z ⟨Z,Z⟩
theorem Hn(v f:I)(n:Nat)(w:W)(c:n<=1):U ao 78 #[v,V H n,f] w (IZ w):=by
 have g:decide ((20:Int)<=n)=X:=zP;have j:¬20<=n:=M;have l:decide ((20:Int)<n)=X:=zP;have k:¬20<n:=M;go_enter func78,ntmps78;go_wp2_with fail;go_loopw [7,8] (λi d wr=>i=V H 0/\d=V H 20/\wr=w) (λ_ _ _=>0)
 case atStart=>exact⟨Z,Z,Z⟩
 obtain⟨rfl,rfl,rfl⟩:=hrel;go_wp2_with fail;refine(ins_any v f n _ c).mono ?_;rintro e h ⟨rfl,rfl⟩;go_wp2_with fail;go_loopw [6] (λb a=>b=V H 20/\a=h) (λ_ _=>0)
 case atStart=>exact⟨Z,Z⟩
 obtain⟨rfl,rfl⟩:=hrel;go_wp2_with fail;exact bodyPost_end (gT Z _ _ _) Z ⟨Z,Z⟩
theorem Me(G:Option Addr)(n c:Nat)(f:I)(w:W)(a:n<=1):U ao 61 #[.slice G n c,f] w (IZ w):=by
 go_enter func61,ntmps61;go_wp2_with fail;refine(Hn _ f n _ a).mono ?_;rintro e b ⟨rfl,rfl⟩;go_wp2_with fail;exact bodyPost_end (gT rfl _ _ _) rfl ⟨rfl,rfl⟩
end
namespace split
open Go.RowKit
attribute [local go_sem ↓] aQ aR
def keyed(R:cq):cq:=(R.filter λr=>r.1%2==1).map λr=>(nt (r.1%131072 / 2),r.2)
theorem Ip(R:cq)(r:Int × Int):keyed (R++[r])=keyed R++(if r.1%2=1 then [(nt (r.1%131072 / 2),r.2)]else []):=by
 unfold keyed;rw[List.filter_append,List.map_append];by_cases h:r.1%2=1<;>simp[h]
def O2(R:cq)(w:W)(e:jK)(a:W):Prop:=∃B d,e=ai (.slice B R.length d)/\iT a w.heap.size (.slice B R.length d) R/\D w.heap.size w a
def vj(K:cq)(w:W)(e:jK)(a:W):Prop:=∃B d c b,e=ai (.agg #[V H 1,.slice B K.length d,.slice c K.length b])/\aX a w.heap.size (.slice B K.length d) (K.map (·.1))/\aX a w.heap.size (.slice c K.length b) (K.map (·.2))/\D w.heap.size w a
theorem xB(l:Ly)(A:Option Addr)(c n:Nat)(zs:List Int)(R:cq)(fb fw hc:Int)(w:W)(f:eu l)(h:eT w w.heap.size A zs)(hn:zs.length=n)(hfb:dM l 0 0=fb)(hfr:0<=fb/\fb<n)(N1:zs.getD fb.toNat 0=fw)(hhc:nodeAt l (fw%65536) 0=hc)(pr:∀w2,D w.heap.size w w2->U ao 59 #[lyV l,.agg #[.slice A n c],V H hc] w2 (O2 R w2)){qe qd:Int}(hK1:keyed R=[(qe,qd)])(hRl:R.length<=1000):
  U ao 38 #[lyV l,.agg #[.slice A n c],V H 0] w (vj [(qe,qd)] w):=by
 have P:=((Bk.made w 34 (lyC l)).alloc (ag #[.slice A n c] 37)).alloc (ag #[V H 0,af Y 0 0,af Y 0 0] 61);have qj:=(Bk.new (w.alloc (ag (lyC l) 34)) (g:=w.heap.size+1) zS 37 #[.slice A n c]).alloc (ag #[V H 0,af Y 0 0,af Y 0 0] 61);have C:=Bk.new ((w.alloc (ag (lyC l) 34)).alloc (ag #[.slice A n c] 37)) (g:=w.heap.size+1+1) zS 61 #[V H 0,af Y 0 0,af Y 0 0];have t:=aA (aA (aA (D.refl w.heap.size w) (ag (lyC l) 34)) (ag #[.slice A n c] 37)) (ag #[V H 0,af Y 0 0,af Y 0 0] 61);have F:=N f;have HS:=N (al h hn);have qk:=N (al hfb (al hfr (al N1 hhc)));have HC:=N pr;have HK:=N hK1;clear f h hn hfb N1 hhc pr hK1;have HSZ:Hid ((((w.alloc (ag (lyC l) 34)).alloc (ag #[.slice A n c] 37)).alloc (ag #[V H 0,af Y 0 0,af Y 0 0] 61)).heap.size=w.heap.size+1+1+1):=N zS;go_enter func38,ntmps38;go_upto_region 2 with fail;generalize ((w.alloc (ag (lyC l) 34)).alloc (ag #[.slice A n c] 37)).alloc (ag #[V H 0,af Y 0 0,af Y 0 0] 61)=w1 at *;have rI:w1.heap.size=w.heap.size+1+1+1:=HSZ.out;have x:=Bk.new w1 rI 61 #[V H 1,af Y 0 0,af Y 0 0];replace P:=P.alloc (ag #[V H 1,af Y 0 0,af Y 0 0] 61);replace qj:=qj.alloc (ag #[V H 1,af Y 0 0,af Y 0 0] 61);replace C:=C.alloc (ag #[V H 1,af Y 0 0,af Y 0 0] 61);replace t:=aA t (ag #[V H 1,af Y 0 0,af Y 0 0] 61);clear rI;generalize w1.alloc (ag #[V H 1,af Y 0 0,af Y 0 0] 61)=w2 at *;obtain⟨gR,hgR⟩:=nM (w.heap.size+1+1);have HGR:Hid (w.heap.size+1+1=gR):=N hgR;rw[hgR]at C x ⊢;clear hgR;obtain⟨gD,hgD⟩:=nM (gR+1);have HGD:Hid (gR+1=gD):=N hgD;rw[hgD]at x ⊢;clear hgD;go_wp2_with (refine aM Z 34 (.tmp 3) Z w.heap.size Z 34 (lyC l) (0,0) _ P aK Z zK ?_);refine(ox l 0 0 _ F.out).mono ?_;rintro e w3 ⟨rfl,hb⟩;rw[qk.out.1];replace P:=P.aw hb;replace qj:=qj.aw hb;replace C:=C.aw hb;replace x:=x.aw hb;replace t:=aE t hb;clear hb;have q0:=qj.cell 0;simp at q0;have g1:decide (fb<0)=X:=by have:=qk.out.2.1;simp;omega
 have g1n:¬fb<0:=by have:=qk.out.2.1;omega
 have g2:decide ((n:Int)<=fb)=X:=by have:=qk.out.2.1;simp;omega
 have g2n:¬(n:Int)<=fb:=by have:=qk.out.2.1;omega
 go_upto_region 6 with fail;clear q0 g1 g1n g2 g2n;refine aH (S:=λw'=>D w3.drew.heap.size w3.drew w') (E:=λ_=>X) zK ?_;have L:=bZ (D.refl w3.heap.size w3);replace P:=P.aw L;replace qj:=qj.aw L;replace C:=C.aw L;replace x:=x.aw L;replace t:=aE t L;clear L;generalize w3.drew=w4 at *;have hsi:=HS.out.1.below t;obtain⟨fbn,hfbn⟩:∃z:Nat,fb=z:=⟨fb.toNat,by have:=qk.out.2.1;omega⟩;have hfn:fbn<zs.length:=by have:=qk.out.2.1;have:=HS.out.2;omega
 obtain⟨bA,oA,hA,hbA,hcA⟩:=hsi M;have hcf:=hcA fbn fw (by have:=qk.out.2.2.1;rw[hfbn]at this;rw[dJ,BA,aD hfn]at this;rw[aD hfn];simpa using this);have hbA4:bA<w4.heap.size:=aZ hbA t.size;have HFB:=N hfbn;have jn:(fbn:Int)<n:=by have:=HS.out.2;omega
 rw[hfbn];have HAA:=N hA;rw[hA];rw[hA]at qj;clear hsi hcA hfbn;refine wTk 2 [(0,28,lyV l),(2,30,lyV l)] ?_ (D.refl _ _) ?_
 ·intro w' T;have kE:(cL 34 ⟨w.heap.size,0,Y⟩).run ao w'= .ok (lyV l) w':=a7 w' w.heap.size 34 34 (lyC l) (0,0) _ (P.aw T) aK Z zK;exact zL
 simp only[kY,Act.put,ak,ay,az];refine wTk 7 [(1,29,.agg #[af (J ⟨bA,oA,Y⟩) n c]),(3,31,ae (J ⟨w.heap.size+1,0,Y⟩)),(4,32,af (J ⟨bA,oA,Y⟩) n c),(5,33,V H (fbn:Nat)),(6,34,ae (J ⟨bA,oA+fbn,Y⟩)),(7,35,V H fw),(13,41,V H 0)] ?_ (D.refl _ _) ?_
 ·intro w' T;have qi:=(qj.aw T).cell 0;have O:=(cX T hbA4).trans hcf;simp at qi;exact zT
 simp only[kY,Act.put,ak,ay,az];refine eG (i:=8) (o:=_) zK Z (λK u=>?_);(try simp only[au,ar,an]);go_simp;refine(gL fw _).mono ?_;rintro e w5 ⟨rfl,oQ⟩;refine u.out _ _ (λ_=>oQ) ?_;clear u K;(try simp only[Act.put,ak,ay,az]);have hhc:=qk.out.2.2.2;obtain⟨i1,hi1⟩:=nM (fw%65536);rw[hi1]at hhc ⊢;have hi1b:i1<=65536:=M;generalize (fw / 65536%2==1)=z1;generalize fw / 131072%268435456=z2;have KW:∀w:W,(Instr.field 81 (.agg #[V H i1,.bool z1,V H z2]) 0).run ao w= .ok (V H i1) w:=λw=>by kernel_rfl
 refine wTk 1 [(9,37,V H i1)] ?_ oQ ?_
 ·intro w' T;exact zT
 simp only[kY,Act.put,ak,ay,az];refine eG (i:=10) (o:=_) zK Z (λK u=>?_);(try simp only[au,ar,an]);go_simp;refine(dE l i1 0 _ F.out M).mono ?_;rintro e w6 ⟨rfl,yA⟩;rw[hhc];have hb56:=aE oQ yA;refine u.out _ _ (λ_=>hb56) ?_;clear u K;(try simp only[Act.put,ak,ay,az]);refine eG (i:=11) (o:=_) zK rfl (λK u=>?_);(try simp only[au,ar,an]);go_simp;have tR:=HC.out w6 (aE t hb56);rw[HAA.out]at tR;(with_reducible refine tR.mono ?_);rintro e w7 ⟨NB,nd,rfl,tQ,LO⟩;have xq:=aE hb56 LO;refine u.out _ _ (λ_=>xq) ?_;clear u K tR;(try simp only[Act.put,ak,ay,az]);refine wTk 1 [(12,40,V H (R.length:Nat))] ?_ xq ?_
 ·intro w' T;exact zT
 simp only[kY,Act.put,ak,ay,az];refine aG zK ?_ _;replace P:=P.aw xq;replace C:=C.aw xq;replace x:=x.aw xq;replace t:=aE t xq;clear oQ yA hb56 xq LO qj hcf hhc KW hi1b jn;go_wp2_with fail;go_loopw [9,41] (λv9 v41 wr=>∃k:Nat,k<=R.length/\v41=V H (k:Nat)/\D w7.heap.size w7 wr/\iT wr w7.heap.size v9 (keyed (R.take k))) (λ_ v41 _=>R.length-(intOf v41).toNat)
 case atStart=>exact⟨0,aN _,Z,D.refl _ _,bW _ _ _ _⟩
 obtain⟨k,hk,rfl,q,s⟩:=hrel;by_cases fH:k<R.length;rotate_left
 ·obtain rfl:k=R.length:=M;have g1:decide ((R.length:Int)<R.length)=X:=zS;rw[nP]at s;obtain⟨G,cg,rfl⟩:=bJ s;replace C:=C.below q C.lt;replace x:=x.below q x.lt;replace t:=t.trans (q.mono t.size);go_wp2_with fail;rw[HK.out]at s ⊢;replace s:wr.ownsRow w7.heap.size 52 2 (.slice G 1 cg) 1 (cT [(qe,qd)]):=s;rw[show [(qe,qd)].length=1 from Z];refine(Me G 1 cg _ _ (aq 1)).mono ?_;rintro e w8 ⟨rfl,rfl⟩;clear tQ P q;go_wp2_with fail;obtain⟨nb,ndc,qh,-,A0⟩:=W.ownsRow.form s (aq 1);injection qh with qh e1 e2;clear e1 e2;subst qh;have p0:w8.cell? ⟨nb,0,Y⟩=J (V H qe):=ig s 0 zD;have p1:w8.cell? ⟨nb,1,Y⟩=J (V H qd):=ig s 1 zD;clear s;go_loopw [63] (λv63 wq=>(v63=V H 0/\wq=w8)\/(v63=V H 1/\∃B d B2 qf,D w.heap.size w wq/\Bk wq gD 61 #[V H 1,.slice B 1 d,.slice B2 1 qf]/\Bk wq gR 61 #[V H 0,af Y 0 0,af Y 0 0]/\aX wq w.heap.size (.slice B 1 d) [qe]/\aX wq w.heap.size (.slice B2 1 qf) [qd])) (λv63 _=>1-(intOf v63).toNat)
  case atStart=>exact .inl ⟨Z,Z⟩
  rcases hrel with⟨rfl,rfl⟩|⟨rfl,B,d,B2,qf,q,kD2,qb,ho1,ho2⟩;rotate_left
  ·have dd0:=kD2.cell 0;have dd1:=kD2.cell 1;have dd2:=kD2.cell 2;obtain⟨r0,r1,r2⟩:=cE qb;obtain⟨rf0,rf1,rf2⟩:=fE qb;have lR:=qb.lt;simp at dd0 dd1 dd2 r0 r1 r2;have HE:=N (al q (al qb (al ho1 ho2)));clear q qb ho1 ho2;go_wp2_with fail;obtain⟨q,qb,ho1,ho2⟩:=HE.out;have t1:=bX qb 0 (V H 1);have kC1:=qb.stored 0 (V H 1);have t2:=bX kC1 1 (.slice B 1 d);have kC2:=kC1.stored 1 (.slice B 1 d);have t3:=bX kC2 2 (.slice B2 1 qf);have kC3:=kC2.stored 2 (.slice B2 1 qf);have hgRw:w.heap.size<=gR:=by have:=HGR.out;omega
   refine aS (v:=.agg #[V H 1,.slice B 1 d,.slice B2 1 qf]) (bQ Z _ _ gR 61 #[V H 1,.slice B 1 d,.slice B2 1 qf] (0,0) _ Z kC3 Bz Z zK) Z ⟨B,d,B2,qf,Z,bY ho1 ((t1.trans t2).trans t3) zD,bY ho2 ((t1.trans t2).trans t3) zD,bu (bu (bu q hgRw _) hgRw _) hgRw _⟩
  go_upto_region 16 with fail;have m:=aA (D.refl wr.heap.size wr) (ag #[V H qe,V H qd] 52);have y:=Bk.made wr 52 #[V H qe,V H qd];replace C:=C.aw m;replace x:=x.aw m;replace t:=aE t m;clear m p0 p1 A0;generalize wr.alloc (ag #[V H qe,V H qd] 52)=w9 at *;generalize wr.heap.size=gP at *;obtain⟨i0,yx,sf,tP,sW⟩:=info_parts iM;have m:=aA (D.refl w9.heap.size w9) (ag #[V H qe] 3);have qi:=y.cell 0;have O:=y.cell 1;have d1:=x.cell 1;simp at qi O d1;have lD:=x.lt;have lP:=y.lt;have ql:=bW (w9.alloc (ag #[V H qe] 3)) w.heap.size 3 1;go_upto_region 17 with (at_builtin;go_must (refine dI _ Z (.tmp 68) (.tmp 71) _ Z w.heap.size 3 i0 _ 1 8 lI yx sf tP sW Z M (af Y 0 0) 0 [] Z ql ⟨w9.heap.size,0,Y⟩ 1 1 [V H qe] Z Z (lN _) (by simp[aB]) (by simp only[sV];omega) M (aE t m).size ?_;intro v9 wA qm qg _ _;obtain⟨G1,cc1,rfl⟩:=bJ qm;have hkA:=cV ql qg;have qa:=(x.aw m).dy hkA zD;have e1:=qa.cell 1;have ef:=qa.free 1;have el:=qa.lt;simp at e1));have hA1:=bX qa 1 (.slice G1 (0+1) cc1);have kDB:=qa.stored 1 (.slice G1 (0+1) cc1);have kPB:=((y.aw m).dy hkA zD).dy hA1 zD;have hneD:gR≠gD:=by have:=HGD.out;omega
  have kRB:=(((C.aw m).dy hkA zD).other (p:=⟨gD,1,Y⟩) hneD (.slice G1 (0+1) cc1));have hoB:=bY qm hA1 zD;have hgDw:w.heap.size<=gD:=by have:=HGD.out;have:=HGR.out;omega
  have hbB:D w.heap.size w (wA.setCell ⟨gD,1,Y⟩ (.slice G1 (0+1) cc1)):=bu (bO (aE t m) ql qg (aE t m).size (aq _)) hgDw _;clear hA1 qa qm qg ql e1 ef el hkA qi O d1 lD lP y C x m t;generalize wA.setCell ⟨gD,1,Y⟩ (.slice G1 (0+1) cc1)=wB at *;have kDB':Bk wB gD 61 #[V H 1,.slice G1 1 cc1,af Y 0 0]:=kDB;have m:=aA (D.refl wB.heap.size wB) (ag #[V H qd] 3);have O:=kPB.cell 1;have qf:=kDB'.cell 2;simp at O qf;have lD:=kDB'.lt;have lP:=kPB.lt;have ql:=bW (wB.alloc (ag #[V H qd] 3)) w.heap.size 3 1;have HO:=N hoB;go_upto_region 18 with (at_builtin;go_must (refine dI _ Z (.tmp 75) (.tmp 78) _ Z w.heap.size 3 i0 _ 1 8 lI yx sf tP sW Z M (af Y 0 0) 0 [] Z ql ⟨wB.heap.size,0,Y⟩ 1 1 [V H qd] Z Z (lN _) (by simp[aB]) (by simp only[sV];omega) M (aE hbB m).size ?_;intro v9 wC qm qg _ _;obtain⟨G2,cc2,rfl⟩:=bJ qm;have hkA:=cV ql qg;have qa:=(kDB'.aw m).dy hkA zD;have e1:=qa.cell 2;have ef:=qa.free 2;have el:=qa.lt;simp at e1));have hA1:=bX qa 2 (.slice G2 (0+1) cc2);have kDC:=qa.stored 2 (.slice G2 (0+1) cc2);have kRC:=(((kRB.aw m).dy hkA zD).other (p:=⟨gD,2,Y⟩) hneD (.slice G2 (0+1) cc2));have hoC:=bY qm hA1 zD;have hoK:=W.ownsRow.kept (aY HO.out m) qg (by cases G1<;>simp[I.ownBlock]);have hoD:=bY hoK hA1 zD;have hbC:D w.heap.size w (wC.setCell ⟨gD,2,Y⟩ (.slice G2 (0+1) cc2)):=bu (bO (aE hbB m) ql qg (aE hbB m).size (aq _)) hgDw _;clear hA1 qa qm qg ql e1 ef el hkA O qf lD lP;generalize wC.setCell ⟨gD,2,Y⟩ (.slice G2 (0+1) cc2)=wE at *;go_wp2_with fail;exact⟨.inr ⟨Z,G1,cc1,G2,cc2,hbC,kDC,kRC,hoD,hoC⟩,by simp[intOf]⟩
 obtain⟨r,hr⟩:∃r,R[k]? =J r:=⟨_,aD fH⟩;obtain⟨nb,ndc,qh,-,A0⟩:=W.ownsRow.form tQ M;injection qh with qh e1 e2;clear e1 e2;obtain⟨p1,p2⟩:=qM R k r hr;have qc:∀j v,j<2->(cT R)[k*2+j]? =J v->wr.cell? ⟨nb,k*2+j,Y⟩=J v:=λj v hj hv=>by
  rw[q.cell (p:=⟨nb,k*2+j,Y⟩) A0];subst qh;rw[ig tQ (k*2+j) M];exact hv
 have qi:=qc 0 _ M p1;have O:=qc 1 _ M p2;rw[Nat.add_zero]at qi;have g1:decide ((k:Int)<R.length)=true:=zP;have j1:(k:Int)<R.length:=M;have sh:R.take (k+1)=R.take k++[r]:=by rw[qy,hr];rfl
 have hkd:=Ip (R.take k) r;rw[<- sh]at hkd;obtain⟨Q,hQ⟩:=nM (keyed (R.take k));rw[hQ]at s hkd;have hQl:Q.length<=1000:=by rw[<- hQ];unfold keyed;rw[qH];exact aF (List.length_filter_le _ _) (by rw[dg];omega)
 obtain⟨a,b⟩:=r;have hand:bits .and .i64 a 1=a%2:=Dt a 1 M;have HNO:=N (al tQ hkd);have HNB:=N qh;rw[qh];clear qc p1 p2 tQ qh hr sh hkd hQ;dsimp only at qi O;obtain⟨G,cg,rfl⟩:=bJ s;by_cases ho:a%2=1;rotate_left
 ·have ho2:(a%2==1)=X:=by simp;exact ho
  have ho3:decide (a%2=1)=X:=by simp;exact ho
  go_wp2_with fail;refine⟨⟨k+1,fH,by go_num,q.trans ((aA (D.refl wr.heap.size wr) (ag #[V H a,V H b] 52)).mono q.size),?_⟩,by simp[intOf];omega⟩;rw[HNO.out.2,if_neg ho,List.append_nil];exact W.ownsRow.alloc s _
 have ho2:(a%2==1)=true:=by simp;exact ho
 have ho3:decide (a%2=1)=true:=by simp;exact ho
 go_upto_region 10 with fail;have y:=Bk.made wr 52 #[V H a,V H b];have m:=aA (D.refl wr.heap.size wr) (ag #[V H a,V H b] 52);have qQ:∀z,(I.slice G Q.length cg).ownBlock=J z->z<wr.heap.size:=λz hz=>(W.ownsRow.lt s z hz).2;replace s:=aY s m;replace q:=q.trans (m.mono q.size);clear qi O g1 m;generalize wr.alloc (ag #[V H a,V H b] 52)=ws at *;obtain⟨gp,hgp⟩:=nM (wr.heap.size);rw[hgp]at y qQ ⊢;clear hgp;refine aH (S:=λw'=>Bk w' gp 52 #[V H a,V H b]) (E:=λ_=>X) zK ?_;have L:=bZ (D.refl ws.heap.size ws);replace y:=y.aw L;replace s:=aY s L;replace q:=q.trans (L.mono q.size);clear L;generalize ws.drew=wt at *;refine wTk 5 [(0,49,.slice G Q.length cg),(1,50,ae (J ⟨gp,0,Y⟩)),(2,51,V H a),(4,53,ae (J ⟨gp,1,Y⟩)),(5,54,V H b)] ?_ y ?_
 ·intro w' T;have qi:=T.cell 0;have O:=T.cell 1;simp at qi O;exact zT
 simp only[kY,Act.put,ak,ay,az];refine eG (i:=3) (o:=_) zK Z (λK u=>?_);(try simp only[au,ar,an]);go_simp;refine(key_any a _).mono ?_;rintro e w8 ⟨rfl,rfl⟩;refine u.out _ _ (λ_=>y) ?_;clear u K;(try simp only[Act.put,ak,ay,az]);obtain⟨key,hkey⟩:=nM (nt (a%131072 / 2));rw[hkey];have HKEY:=N hkey;clear hkey;refine wTk 1 [(6,55,.agg #[V H key,V H b])] ?_ y ?_
 ·intro w' T;exact zT
 simp only[kY,Act.put,ak,ay,az];refine eG (i:=7) (o:=_) zK Z (λK u=>?_);(try simp only[au,ar,an]);go_simp;have kN:=Bk.made wt 52 #[V H key,V H b];have m:=aA (D.refl wt.heap.size wt) (ag #[V H key,V H b] 52);replace y:=y.aw m;refine u.out _ _ (λ_=>y) ?_;clear u K;replace s:=aY s m;replace q:=q.trans (m.mono q.size);clear m;generalize wt.alloc (ag #[V H key,V H b] 52)=wu at *;generalize wt.heap.size=gN at *;(try simp only[Act.put,ak,ay,az]);obtain⟨ri,BD⟩:=zh;refine eG (i:=8) (o:=_) zK Z (λK u=>?_);(try simp only[au,ar,an]);refine dX BD (.tmp 49) (.tmp 56) Z w7.heap.size (.slice G Q.length cg) Q.length (cT Q) Z s (J ⟨gN,0,Y⟩) 1 1 _ Z (mK kN Z kN.lt) (by simp[aB]) M M q.size (λv9 wv qm qg=>?_);have hbw9:=bO q s qg q.size (aq _);have kP9:Bk wv gp 52 #[V H a,V H b]:=(qg.block gp y.lt (λe=>Nat.lt_irrefl _ (qQ gp e.symm))).trans y;refine u.out _ _ (λ_=>kP9) ?_;clear u K;(try simp only[Act.put,ak,ay,az]);refine wTk 1 [(9,9,v9)] ?_ kP9 ?_
 ·intro w' T;exact zT
 simp only[kY,Act.put,ak,ay,az];refine aG zK ?_ _;go_wp2_with fail;refine⟨⟨k+1,fH,by go_num,hbw9,?_⟩,by simp[intOf];omega⟩;rw[HNO.out.2,if_pos ho,HKEY.out];unfold iT;show wv.ownsRow _ _ _ _ (Q++[(key,b)]).length (cT (Q++[(key,b)]));rw[mf,bE];exact qm
end split
section
open Go.RowKit
attribute [local go_sem ↓] aQ aR
theorem xB(l:Ly)(A:Option Addr)(c n:Nat)(u t:Int)(w:W)(E:∀i,D w.heap.size w i->U ao 38 #[lyV l,.agg #[.slice A n c],V H 0] i (split.vj [(u,t)] i)):
  U ao 17 #[lyV l,.agg #[.slice A n c],V H 1,V H 0] w (split.vj [(u,t)] w):=by
 have J:=((Bk.made w 34 (lyC l)).alloc (ag #[.slice A n c] 37)).alloc (ag #[V H 0,af Y 0 0,af Y 0 0] 61);have qa:=(Bk.new (w.alloc (ag (lyC l) 34)) (g:=w.heap.size+1) zS 37 #[.slice A n c]).alloc (ag #[V H 0,af Y 0 0,af Y 0 0] 61);have a:=Bk.new ((w.alloc (ag (lyC l) 34)).alloc (ag #[.slice A n c] 37)) (g:=w.heap.size+1+1) zS 61 #[V H 0,af Y 0 0,af Y 0 0];have k:=aA (aA (bA w (ag (lyC l) 34)) (ag #[.slice A n c] 37)) (ag #[V H 0,af Y 0 0,af Y 0 0] 61);go_enter func17,ntmps17;go_wp2_with (first|(refine aM Z 34 (.tmp 4) Z w.heap.size Z 34 (lyC l) (0,0) _ J aK Z zK ?_)|(refine aM Z 37 (.tmp 5) Z (w.heap.size+1) Z 37 #[.slice A n c] (0,0) _ qa underlying37 Z zK ?_));generalize ((w.alloc (ag (lyC l) 34)).alloc (ag #[.slice A n c] 37)).alloc (ag #[V H 0,af Y 0 0,af Y 0 0] 61)=L at *;refine(E _ k).mono ?_;rintro e i ⟨B,d,b,f,rfl,o,m,y⟩;replace a:=a.aw y;have j:=aE k y;have h:w.heap.size<=L.heap.size:=k.size;obtain⟨S,K,I⟩:=cE a;obtain⟨N,M,O⟩:=fE a;have P:=a.lt;simp at S K I;have Q:=aj (al o (al j (al h (al a m))));go_wp2_with fail;obtain⟨o,j,h,a,m⟩:=Q.out;have s:=bX a 0 (V H 1);have z:=a.stored 0 (V H 1);have q:=bX z 1 (.slice B 1 d);have x:=z.stored 1 (.slice B 1 d);have C:=bX x 2 (.slice b 1 f);have F:=x.stored 2 (.slice b 1 f);refine aS (v:=.agg #[V H 1,.slice B 1 d,.slice b 1 f]) (bQ rfl _ _ (w.heap.size+1+1) 61 #[V H 1,.slice B 1 d,.slice b 1 f] (0,0) _ rfl F Bz rfl zK) rfl ⟨B,d,b,f,rfl,dt (bY o ((s.trans q).trans C) zD) h,dt (bY m ((s.trans q).trans C) zD) h,bu (bu (bu j zP _) zP _) zP _⟩
end
section
open Go.RowKit
theorem C1:eu (lyW 2):=zA _ (can_W zD zD)
theorem nd2(m:List Int)(d:m.length=360):∀a i,1<=a/\a<=(lyW 2).c.nodes->0<=i/\i<8->0<=nodeAt (lyW 2) a i/\nodeAt (lyW 2) a i<(360:Nat):=by
 intro a i b hi;have c:a<=40:=b.2;rw[AI zD zD ⟨b.1,c⟩ hi];omega
theorem len2:tA2.m.length=360:=by decide+kernel
theorem Cz:tA3.m.length=360:=by decide+kernel
theorem al_s2(A:Option Addr)(c:Nat)(w:W)(h:eT w w.heap.size A tA2.m):U ao 17 #[lyV (lyW 2),.agg #[.slice A 360 c],V H 2,V H 0] w (pL 2 [3] w):=by
 refine xA (lyW 2) 0 A c 360 [3] w (λb a=>?_);have k:=stack.pR (lyW 2) 0 A c 360 tA2.m [5] b C1 ((h.below a).more a.size) len2 zD (by decide+kernel) (nd2 _ len2) (by decide+kernel) ⟨by decide+kernel,trivial⟩ zD zD zD;rw[show stack.jW (lyW 2) tA2.m [5]=[3]by decide+kernel]at k;exact k
theorem al_s3(A:Option Addr)(c:Nat)(w:W)(h:eT w w.heap.size A tA3.m):U ao 17 #[lyV (lyW 2),.agg #[.slice A 360 c],V H 2,V H 0] w (pL 2 [8,3] w):=by
 refine xA (lyW 2) 0 A c 360 [8,3] w (λb a=>?_);have k:=stack.pR (lyW 2) 0 A c 360 tA3.m [3,5] b C1 ((h.below a).more a.size) Cz zD (by decide+kernel) (nd2 _ Cz) (by decide+kernel) ⟨by decide+kernel,by decide+kernel,trivial⟩ zD zD zD;rw[show stack.jW (lyW 2) tA3.m [3,5]=[8,3]by decide+kernel]at k;exact k
theorem al_c3(A:Option Addr)(c:Nat)(w:W)(h:eT w w.heap.size A tA3.m):U ao 17 #[lyV (lyW 2),.agg #[.slice A 360 c],V H 3,V H 0] w (pL 3 [4] w):=by
 refine La (lyW 2) 0 A c 360 [4] w (λe b=>?_);have k:=segment.pR (lyW 2) 0 A c 360 tA3.m [2] e C1 ((h.below b).more b.size) Cz zD (by decide+kernel) (nd2 _ Cz) (by decide+kernel) ⟨by decide+kernel,trivial⟩ zD zD zD (by
  intro a d i hi;have:a=2:=by simpa using d
  subst this;have:i=0\/i=1\/i=2\/i=3\/i=4:=M;rcases this with rfl|rfl|rfl|rfl|rfl<;>decide+kernel)
 rw[show segment.jW (lyW 2) tA3.m [2]=[4]by decide+kernel]at k;exact k
theorem al_m3(A:Option Addr)(c:Nat)(w:W)(h:eT w w.heap.size A tA3.m):U ao 17 #[lyV (lyW 2),.agg #[.slice A 360 c],V H 1,V H 0] w (split.vj [(5,9)] w):=by
 refine xB (lyW 2) A c 360 5 9 w (λf a=>?_);have d:=(h.below a).more a.size;refine split.xB (lyW 2) A c 360 tA3.m (list.jW (lyW 2) tA3.m [4]) (dM (lyW 2) 0 0) (tA3.m.getD (dM (lyW 2) 0 0).toNat 0) (nodeAt (lyW 2) 1 0) f C1 d Cz Z (by decide+kernel) Z (by decide+kernel) (λe b=>?_) (by decide+kernel) (by decide+kernel);exact list.pR (lyW 2) (nodeAt (lyW 2) 1 0) A c 360 tA3.m [4] e C1 ((d.below b).more b.size) Cz zD (by decide+kernel) (nd2 _ Cz) (by decide+kernel) ⟨by decide+kernel,trivial⟩ zD zD zD
end
section
open Go.RowKit
attribute [local go_sem ↓] aQ aR
variable {α:Type}
def opB(op:Opr):Bool:=decide (1<=op.kind/\op.kind<=7/\op.obj=0/\0<=op.a/\op.a<65536/\0<=op.b/\op.b<4294967296)
def Ku(a:List Opr):Bool:=decide (a.length<=3)&&a.all opB
def qE(want:List (List Opr))(m:Nat):Bool:=decide (1<=want.length/\want.length<=3/\m<=200)&&want.all Ku
theorem A7{want:List (List Opr)}{m:Nat}(h:qE want m=O):1<=want.length/\want.length<=3/\m<=200/\∀b∈want,b.length<=3/\∀op∈b,kK op:=by
 unfold qE at h;simp only[bN,decide_eq_true_eq,cJ]at h;refine⟨h.1.1,h.1.2.1,h.1.2.2,λb ho=>?_⟩;have c:=h.2 b ho;unfold Ku at c;simp only[bN,decide_eq_true_eq,cJ]at c;refine⟨c.1,λop d=>?_⟩;have a:=c.2 op d;unfold opB at a;simp only[decide_eq_true_eq]at a;exact⟨⟨a.1,a.2.1⟩,a.2.2.1,⟨a.2.2.2.1,a.2.2.2.2.1⟩,⟨a.2.2.2.2.2.1,a.2.2.2.2.2.2⟩⟩
theorem oy{f:α->Bool}{l:List α}{k:Nat}{a:α}(h:l[k]? =J a)(b:f a=X):l.all f=X:=by
 rw[List.all_eq_false];exact⟨a,aU h,by rw[b];decide⟩
theorem uG{f:α->Bool}{l:List α}(h:∀(i:Nat) (a:α),l[i]? =J a->f a=O):l.all f=O:=by
 rw[cJ];intro a b;obtain⟨i,hi⟩:=List.getElem?_of_mem b;exact h i a hi
theorem LS(A T:Option Addr)(n g m d x v u:Nat)(want:List (List Opr))(w:W)(hn:want.length=n)(hW:lj w w.heap.size A want):Calls ao 6 #[.agg (cI A n g T m d x v u)] w (fI (qE want m) w):=by
 have qb:=Bk.made w 26 (cI A n g T m d x v u);have f:=bA w (ag (cI A n g T m d x v u) 26);have q0:(w.alloc (ag (cI A n g T m d x v u) 26)).cell? ⟨w.heap.size,0,Y⟩=J (.slice A n g):=by rw[qb.cell];rfl
 have q1:(w.alloc (ag (cI A n g T m d x v u) 26)).cell? ⟨w.heap.size,1,Y⟩=J (.slice T m d):=by rw[qb.cell];rfl
 go_enter func6,ntmps6;by_cases c1:n<1
 ·obtain rfl:n=0:=zO;go_wp2_with fail;go_ret;refine⟨?_,f⟩;have e:qE want m=X:=by unfold qE;rw[decide_eq_false zO];rfl
  rw[e];rfl
 have qe:decide ((n:Int)<1)=X:=zP;have n1:¬n=0:=zO;by_cases c2:3<n
 ·have g2:decide ((3:Int)<n)=O:=zP;go_wp2_with fail;go_ret;refine⟨?_,f⟩;have e:qE want m=X:=by unfold qE;rw[decide_eq_false zO];rfl
  rw[e];rfl
 have g2:decide ((3:Int)<n)=X:=zP;by_cases c3:200<m
 ·have g3:decide ((200:Int)<m)=O:=zP;go_wp2_with fail;go_ret;refine⟨?_,f⟩;have e:qE want m=X:=by unfold qE;rw[decide_eq_false zO];rfl
  rw[e];rfl
 have g3:decide ((200:Int)<m)=X:=zP;obtain⟨P,ow,rfl,B,hwc⟩:=hW zO;go_wp2_with fail;generalize w.alloc (ag (cI (J ⟨P,ow,Y⟩) n g T m d x v u) 26)=qd at *;go_loopw [3] (λqa wr=>∃j:Nat,j<=n/\qa=V H (j:Nat)/\D qd.heap.size qd wr/\∀i c,i<j->want[i]? =J c->Ku c=O) (λqa _=>n-(intOf qa).toNat)
 case atStart=>exact⟨0,aN _,Z,bS,λi c h=>by omega⟩
 obtain⟨j,hj,rfl,t,eI⟩:=hrel;have R:=qb.aw t;have q0:=R.cell 0;simp at q0;have K:=aj eI;by_cases fH:j<n;rotate_left
 ·have qe:decide ((j:Int)<n)=X:=zP;have I:qE want m=O:=by
   unfold qE;rw[decide_eq_true zO,uG (λi a h=>K.out i a (by have:=(aC.1 h).1;omega) h)];rfl
  go_wp2_with fail;go_ret;refine⟨?_,aE f t⟩;rw[I];rfl
 have qe:decide ((j:Int)<n)=O:=zP;have j1:(j:Int)<n:=zO;obtain⟨c,F⟩:∃o,want[j]? =J o:=⟨_,aD zO⟩;obtain⟨A',c',L,KO⟩:=hwc j c F;have hbwr:P<w.heap.size:=B;have cw2:=(cX t (aZ B f.size)).trans ((cX f B).trans L);by_cases c4:3<c.length
 ·have g4:decide ((3:Int)<c.length)=O:=zP;have I:qE want m=X:=by
   unfold qE;rw[oy F (by unfold Ku;rw[decide_eq_false zO];rfl),Bool.and_false]
  go_wp2_with fail;go_ret;refine⟨?_,aE f t⟩;rw[I];rfl
 have g4:decide ((3:Int)<c.length)=X:=zP;go_wp2_with fail;have E:=aj (al F KO);generalize wr=M at *;go_loopw [4] (λqc wr=>∃k:Nat,k<=c.length/\qc=V H (k:Nat)/\D M.heap.size M wr/\∀i b,i<k->c[i]? =J b->opB b=O) (λqc _=>c.length-(intOf qc).toNat)
 case atStart=>exact⟨0,aN _,Z,bS,λi b h=>by omega⟩
 obtain⟨k,hk,rfl,z,hall2⟩:=hrel;have kQ:=R.aw z;have q0:=kQ.cell 0;simp at q0;have U:=aj hall2;have s:=aE (aE f t) z;have cw2:=(cX s B).trans L;by_cases qR:k<c.length;rotate_left
 ·have g5:decide ((k:Int)<c.length)=X:=zP;go_wp2_with fail;refine⟨⟨j+1,zO,by go_num,aE t z,λi ops' hi y=>?_⟩,by simp[intOf];omega⟩;by_cases e:i=j
  ·subst e;have:=E.out.1;rw[y]at this;injection this with this;subst this;unfold Ku;rw[decide_eq_true zO,uG (λi a h=>U.out i a (by have:=(aC.1 h).1;omega) h)];rfl
  exact K.out i ops' zO y
 have g5:decide ((k:Int)<c.length)=O:=zP;have j2:(k:Int)<c.length:=zO;obtain⟨b,G⟩:∃o,c[k]? =J o:=⟨_,aD qR⟩;obtain⟨bo,oo,rfl,C,qi⟩:=E.out.2 zO;obtain⟨Q,S,qf,N⟩:=qi k b G;replace Q:=(cX s C).trans Q;replace S:=(cX s C).trans S;replace qf:=(cX s C).trans qf;replace N:=(cX s C).trans N;have l:=aA s (ag #[V H b.kind,V H b.obj,V H b.a,V H b.b] 54);have hba2:=bA wr (ag #[V H b.kind,V H b.obj,V H b.a,V H b.b] 54);have qh:opB b=X->qE want m=X:=λe=>by
  unfold qE;rw[oy E.out.1 (by unfold Ku;rw[oy G e,Bool.and_false]),Bool.and_false]
 have q:=aj qh;have HOP:=aj G;by_cases p0:b.kind<1
 ·have e0:decide (b.kind<1)=O:=zP;go_wp2_with fail;go_ret;refine⟨?_,l⟩;rw[q.out (by unfold opB;exact decide_eq_false zO)];rfl
 have e0:decide (b.kind<1)=X:=zP;by_cases p1:7<b.kind
 ·have e1:decide (7<b.kind)=O:=zP;go_wp2_with fail;go_ret;refine⟨?_,l⟩;rw[q.out (by unfold opB;exact decide_eq_false zO)];rfl
 have e1:decide (7<b.kind)=X:=zP;by_cases p2:b.obj≠0
 ·have e2:(b.obj==(0:Int))=X:=zP;have e2b:decide (b.obj=(0:Int))=X:=zP;have e2c:(b.obj != (0:Int))=O:=zP;go_wp2_with fail;go_ret;refine⟨?_,l⟩;rw[q.out (by unfold opB;exact decide_eq_false zO)];rfl
 have e2:(b.obj==(0:Int))=O:=zP;have e2b:decide (b.obj=(0:Int))=O:=zP;have e2c:(b.obj != (0:Int))=X:=zP;by_cases p3:b.a<0
 ·have e3:decide (b.a<0)=O:=zP;go_wp2_with fail;go_ret;refine⟨?_,l⟩;rw[q.out (by unfold opB;exact decide_eq_false zO)];rfl
 have e3:decide (b.a<0)=X:=zP;by_cases p4:65536<=b.a
 ·have e4:decide (65536<=b.a)=O:=zP;go_wp2_with fail;go_ret;refine⟨?_,l⟩;rw[q.out (by unfold opB;exact decide_eq_false zO)];rfl
 have e4:decide (65536<=b.a)=X:=zP;by_cases p5:b.b<0
 ·have qg:decide (b.b<0)=O:=zP;go_wp2_with fail;go_ret;refine⟨?_,l⟩;rw[q.out (by unfold opB;exact decide_eq_false zO)];rfl
 have qg:decide (b.b<0)=X:=zP;by_cases p6:4294967296<=b.b
 ·have e6:decide (4294967296<=b.b)=O:=zP;go_wp2_with fail;go_ret;refine⟨?_,l⟩;rw[q.out (by unfold opB;exact decide_eq_false zO)];rfl
 have e6:decide (4294967296<=b.b)=X:=zP;go_wp2_with fail;refine⟨⟨k+1,zO,by go_num,aE z hba2,λi op' hi y=>?_⟩,by simp[intOf];omega⟩;by_cases e:i=k
 ·subst e;have:=HOP.out;rw[y]at this;injection this with this;subst this;unfold opB;exact decide_eq_true zO
 exact U.out i op' zO y
end
section
open Go.RowKit
attribute [local go_sem ↓] aQ aR
def IntsRel(w:W)(a b:List Int)(i:I)(wr:W):Prop:=
 ∃k:Nat,k<=a.length/\i=V H k/\D w.heap.size w wr/\a.take k=b.take k
theorem Nw(A A':Option Addr)(c H:Nat)(a d:List Int)(w:World)(h:eT w w.heap.size A a)(v:eT w w.heap.size A' d)(X:a.length<=1000000)(W:d.length<=1000000):
  U ao 18 #[.slice A a.length c,.slice A' d.length H] w (fI (decide (a=d)) w):=by
 by_cases n:a.length=d.length;rotate_left
 ·have qb:((a.length:Int) != d.length)=O:=zP;have f:decide (a=d)=false:=by
   simp;rintro rfl;exact n rfl
  have m:=N f;clear f n;go_enter func18,ntmps18;go_wp2;go_ret;rw[m.out];exact⟨Z,D.refl _ _⟩
 have qb:((a.length:Int) != d.length)=false:=by simp[n]
 have C:=N n;clear n;go_enter func18,ntmps18;go_wp2;go_loopw [5] (λi wr=>IntsRel w a d i wr) (λi _=>a.length-(intOf i).toNat)
 case atStart=>exact⟨0,aN _,Z,D.refl _ _,zS⟩
 obtain⟨k,R,rfl,q,l⟩:=hrel;by_cases F:k<a.length;rotate_left
 ·obtain rfl:k=a.length:=zO;have f:decide (a=d)=O:=by
   have e:=C.out;rw[nP,e,nP]at l;simp[l]
  have m:=N f;have z:=N l;clear f l;go_wp2;go_ret;rw[m.out];exact⟨Z,q⟩
 have L:k<d.length:=by rw[<- C.out];exact F
 obtain⟨b,o,K,P,B⟩:=(h.below q) zO;obtain⟨qd,Q,I,qg,E⟩:=(v.below q) zO;obtain⟨x,u⟩:∃x,a[k]? =J x:=⟨_,aD F⟩;obtain⟨y,s⟩:∃y,d[k]? =J y:=⟨_,aD L⟩;have S:=B k _ u;have qe:=E k _ s;subst K I;have Y:(k:Int)<a.length:=zO;have qf:(k:Int)<d.length:=zO;have qa:=N q;have z:=N (al l (al u s));have T:=N (al h v);clear q l u s h v B E;by_cases g:x=y
 ·have G:(x != y)=false:=by simp[g]
  have M:=N g;clear g;go_wp2_with fail;go_quiet (fail);go_wp2;go_roundw
  case rel=>
   obtain⟨qc,t,j⟩:=z.out;refine⟨k+1,zO,by go_num,kJ (qa.out) _,?_⟩;rw[qy,qy,qc,t,j,M.out]
  case measure=>simp[intOf];omega
 have G:(x != y)=O:=by simp[g]
 have f:decide (a=d)=false:=by
  obtain⟨_,t,j⟩:=z.out;simp;rintro rfl;rw[t]at j;injection j with j;exact g j
 have m:=N f;clear f g;go_wp2_with fail;go_quiet (fail);go_wp2;go_ret;rw[m.out];exact⟨Z,kJ (qa.out) _⟩
variable {w:W} {c g:Nat}
def LV:List Nat:=[1,1,1,1,1,1,1,1]
abbrev ux:Array I:=#[V H 2,V H 0,V H 5,V H 9,V H 4,V H 0,V H 3,V H 0,V H 6,V H 0,V H 4,V H 0]
abbrev uw:Array I:=#[V H 4,V H 0,V H 8,V H 0]
abbrev u8A:Array I:=#[.int .u8 1,.int .u8 1,.int .u8 1,.int .u8 1,.int .u8 1,.int .u8 1,.int .u8 1,.int .u8 1]
theorem IT{g0 d e:Nat}(b:Bk w g0 54 ux)(c:Bk w d 54 uw)(f:Bk w e 47 #[af (J ⟨g0,0,Y⟩) 3 3,af (J ⟨d,0,Y⟩) 1 1])(h:Bk w g 5 u8A):rE w w.heap.size qI LV 2 (J ⟨e,0,Y⟩) (J ⟨g,0,Y⟩) 8 255 6 0:=by
 refine⟨λ_=>⟨e,0,Z,f.lt,?_⟩,λ_=>⟨g,0,Z,h.lt,?_⟩,Z,Z,zD,zD,zD,(A7 (want:=qI) (m:=8) (by decide+kernel)).2.2.2,zD⟩
 ·intro k j a;rcases k with _|_|k
  ·injection a with a;subst a;refine⟨J ⟨g0,0,Y⟩,3,by rw[f.cell];rfl,λ_=>⟨g0,0,Z,b.lt,?_⟩⟩;intro k i a;rcases k with _|_|_|k<;>first|(injection a with a;subst a;exact⟨by rw[b.cell];rfl,by rw[b.cell];rfl,by rw[b.cell];rfl,by rw[b.cell];rfl⟩)|cases a
  ·injection a with a;subst a;refine⟨J ⟨d,0,Y⟩,1,by rw[f.cell];rfl,λ_=>⟨d,0,Z,c.lt,?_⟩⟩;intro k i a;rcases k with _|k<;>first|(injection a with a;subst a;exact⟨by rw[c.cell];rfl,by rw[c.cell];rfl,by rw[c.cell];rfl,by rw[c.cell];rfl⟩)|cases a
  cases a
 intro k t a;have:k<8:=(aC.1 a).1;rcases k with _|_|_|_|_|_|_|_|k<;>first|(injection a with a;subst a;exact⟨by rw[h.cell];rfl,zD⟩)|omega
theorem wbA1:WB 2 qI 8 tA1:=by
 obtain⟨a,b,c⟩:=vx (want:=qI) (S:=2) Z zD zD (A7 (want:=qI) (m:=8) (by decide+kernel)).2.2.2 vG LV zD;exact⟨a,b,c⟩
theorem wbA2:WB 2 qI 18017 tA2:=by
 obtain⟨a,b,-⟩:=WE.rest (S:=2) (want:=qI) (t:=tA1) (stops:=vG) (all:=X) Z zD wbA1.we (aF (Nat.add_le_add_right wbA1.ev 18009) zD);exact⟨a,aF b (Nat.add_le_add_right wbA1.ev 18009),by rw[yN];decide⟩
theorem vf{A:Option Addr}{n:Nat}{zs:List Int}{b:Array I}(d:zs.length=n)(h:eT w w.heap.size A zs)(k:Bk w g 3 b)(e:b=(zs.map (LD .i64)).toArray)(a:zs.length<=1000000:=by decide):U ao 18 #[.slice A n c,af (J ⟨g,0,Y⟩) n n] w (fI O w):=by
 subst d;subst e;have:=Nw A (J ⟨g,0,Y⟩) c zs.length zs zs w h (.of_bk k) a a;rw[decide_eq_true Z]at this;exact this
def alT(c a:Nat):Nat->Nat|8=>c|_=>a
def alR(L:List Int)(base:Nat)(i:Nat)(val:Nat->Option I)(v:I)(w:W):Prop:=match i with
 | 8=>∃B d,v= .agg #[V H 2,af Y 0 0,.slice B L.length d]/\aX w base (.slice B L.length d) L
 | _=>∃g,v=ae (J ⟨g,0,Y⟩)/\base<=g/\Bk w g 61 #[V H 0,af Y 0 0,af Y 0 0]
theorem Du(L:List Int)(base:Nat)(i:Nat)(val b:Nat->Option I)(v:I)(a w2:W)(_:∀j u,val j=J u->b j=J u)(c:D a.heap.size a w2)(h:alR L base i val v a):alR L base i b v w2:=by
 unfold alR at h ⊢;split at h
 ·obtain⟨B,d,e,ho⟩:=h;exact⟨B,d,e,aY ho c⟩
 obtain⟨g,e,f,k⟩:=h;exact⟨g,e,f,k.aw c⟩
def alU(c a:Nat)(i:Nat):Nat:=a+(i-c)
def alZ(c:Nat)(i:Nat):List Nat:=if i=c+1 then [c]else []
def alQ(c:Nat)(p:I->W->Prop)(z:Int)(i:Nat)(_:Nat->Option I)(v:I)(w:W):Prop:=if i=c then p v w else if i=c+1 then ∃B d,v= .slice B 1 d/\aX w 0 (.slice B [z].length d) [z]else ∃g,v=af (J ⟨g,0,Y⟩) 1 1/\Bk w g 3 #[V H z]
theorem Dv{p:I->W->Prop}{z:Int}(m:∀v a w2,D a.heap.size a w2->p v a->p v w2)(i:Nat)(val f:Nat->Option I)(v:I)(a w2:W)(_:∀j u,val j=J u->f j=J u)(b:D a.heap.size a w2)(h:alQ c p z i val v a):alQ c p z i f v w2:=by
 unfold alQ at h ⊢;by_cases hi:i=c
 ·rw[if_pos hi]at h ⊢;exact m v a w2 b h
 rw[if_neg hi]at h ⊢;by_cases l:i=c+1
 ·rw[if_pos l]at h ⊢;obtain⟨B,d,e,ho⟩:=h;exact⟨B,d,e,aY ho b⟩
 rw[if_neg l]at h ⊢;obtain⟨g,e,k⟩:=h;exact⟨g,e,k.aw b⟩
def alP4(v:I)(w:W):Prop:=∃B d,v= .agg #[V H 3,af Y 0 0,.slice B 1 d]/\aX w 0 (.slice B [(4:Int)].length d) [4]
def alP5(v:I)(w:W):Prop:=∃B d b a,v= .agg #[V H 1,.slice B 1 d,.slice b 1 a]/\aX w 0 (.slice B [(5:Int)].length d) [5]
theorem Ls(v:I)(a w2:W)(b:D a.heap.size a w2)(h:alP4 v a):alP4 v w2:=by
 obtain⟨B,d,e,ho⟩:=h;exact⟨B,d,e,aY ho b⟩
theorem Lr(v:I)(a w2:W)(b:D a.heap.size a w2)(h:alP5 v a):alP5 v w2:=by
 obtain⟨B,d,f,c,e,ho⟩:=h;exact⟨B,d,f,c,e,aY ho b⟩
theorem z9(w:W):Calls ao 7 #[] w (fI O w):=by
 go_enter func7,ntmps7;go_upto_region 1 with fail;have b0:=((((Bk.made w 54 ux).alloc (ag uw 54)).alloc (ag #[af (J ⟨w.heap.size,0,Y⟩) 3 3,af (J ⟨w.heap.size+1,0,Y⟩) 1 1] 47)).alloc (ag u8A 5)).alloc (ag (cI (J ⟨w.heap.size+1+1,0,Y⟩) 2 2 (J ⟨w.heap.size+1+1+1,0,Y⟩) 8 8 255 6 0) 26);have b1:=(((Bk.new (w.alloc (ag ux 54)) (g:=w.heap.size+1) zS 54 uw).alloc (ag #[af (J ⟨w.heap.size,0,Y⟩) 3 3,af (J ⟨w.heap.size+1,0,Y⟩) 1 1] 47)).alloc (ag u8A 5)).alloc (ag (cI (J ⟨w.heap.size+1+1,0,Y⟩) 2 2 (J ⟨w.heap.size+1+1+1,0,Y⟩) 8 8 255 6 0) 26);have b2:=((Bk.new ((w.alloc (ag ux 54)).alloc (ag uw 54)) (g:=w.heap.size+1+1) zS 47 #[af (J ⟨w.heap.size,0,Y⟩) 3 3,af (J ⟨w.heap.size+1,0,Y⟩) 1 1]).alloc (ag u8A 5)).alloc (ag (cI (J ⟨w.heap.size+1+1,0,Y⟩) 2 2 (J ⟨w.heap.size+1+1+1,0,Y⟩) 8 8 255 6 0) 26);have b3:=(Bk.new (((w.alloc (ag ux 54)).alloc (ag uw 54)).alloc (ag #[af (J ⟨w.heap.size,0,Y⟩) 3 3,af (J ⟨w.heap.size+1,0,Y⟩) 1 1] 47)) (g:=w.heap.size+1+1+1) zS 5 u8A).alloc (ag (cI (J ⟨w.heap.size+1+1,0,Y⟩) 2 2 (J ⟨w.heap.size+1+1+1,0,Y⟩) 8 8 255 6 0) 26);have s:=Bk.new ((((w.alloc (ag ux 54)).alloc (ag uw 54)).alloc (ag #[af (J ⟨w.heap.size,0,Y⟩) 3 3,af (J ⟨w.heap.size+1,0,Y⟩) 1 1] 47)).alloc (ag u8A 5)) (g:=w.heap.size+1+1+1+1) zS 26 (cI (J ⟨w.heap.size+1+1,0,Y⟩) 2 2 (J ⟨w.heap.size+1+1+1,0,Y⟩) 8 8 255 6 0);have u:=aA (aA (aA (aA (bA w (ag ux 54)) (ag uw 54)) (ag #[af (J ⟨w.heap.size,0,Y⟩) 3 3,af (J ⟨w.heap.size+1,0,Y⟩) 1 1] 47)) (ag u8A 5)) (ag (cI (J ⟨w.heap.size+1+1,0,Y⟩) 2 2 (J ⟨w.heap.size+1+1+1,0,Y⟩) 8 8 255 6 0) 26);go_upto_region 2 with fail;generalize ((((w.alloc (ag ux 54)).alloc (ag uw 54)).alloc (ag #[af (J ⟨w.heap.size,0,Y⟩) 3 3,af (J ⟨w.heap.size+1,0,Y⟩) 1 1] 47)).alloc (ag u8A 5)).alloc (ag (cI (J ⟨w.heap.size+1+1,0,Y⟩) 2 2 (J ⟨w.heap.size+1+1+1,0,Y⟩) 8 8 255 6 0) 26)=w1 at *;have P:=IT b0 b1 b2 b3;obtain⟨g2,hg2⟩:=nM (w.heap.size+1+1);obtain⟨g3,hg3⟩:=nM (w.heap.size+1+1+1);obtain⟨g4,hg4⟩:=nM (w.heap.size+1+1+1+1);rw[hg4]at s;rw[hg3]at s P;rw[hg2]at s P;simp only[hg4];simp only[hg3];simp only[hg2];have HG:=aj (al hg2 (al hg3 hg4));go_wp2_with (refine aM Z 26 (.tmp 1) Z g4 Z 26 (cI (J ⟨g2,0,Y⟩) 2 2 (J ⟨g3,0,Y⟩) 8 8 255 6 0) (0,0) _ s iU Z zK ?_);refine(vo P).mono ?_;rintro e w2 ⟨b,rfl,hT,hb⟩;obtain⟨B,hB⟩:=nM (w1.heap.size);have KL:=u.size;rw[hB]at KL;replace s:=s.aw hb;replace u:=aE u hb;rw[hB]at hb hT P;replace hT:kn w2 B b (lyW 2) tA1:=hT;replace P:=P.below hb;have y:=hb.size;rw[hB]at y;go_wp2_with (refine aM rfl 26 (.tmp 1) rfl g4 rfl 26 (cI (J ⟨g2,0,Y⟩) 2 2 (J ⟨g3,0,Y⟩) 8 8 255 6 0) (0,0) _ s iU rfl zK ?_);refine(pM false P y hT wbA1 zD).mono ?_;rintro e w3 ⟨rfl,hT3,qc⟩;replace hT:kn w3 B b (lyW 2) tA2:=hT3;replace s:=qc.aw s ⟨zD,zD,zD,zD⟩;replace u:=u.trans (qc.below.mono KL);replace P:=P.below qc.below;replace y:=aF y qc.below.size;obtain⟨gs,mv,ev,cv,X⟩:=hT;obtain⟨gm,cm,rfl,qa⟩:=X.mem;have V:=fg qa;rw[len2]at X;go_upto_region 4 with fail;refine aH (S:=λw'=>Below w3.drew.heap.size w3.drew w') (E:=λi=>i==10) zK ?_;have l:=bD w3;replace X:=X.aw l;replace s:=s.aw l;replace u:=aE u l;replace V:=fg (aY qa l);replace qa:=aY qa l;have qf:=l.mono y;generalize w3.drew=w4 at *;refine wTq 7 [(0,21,ae (J ⟨b,0,Y⟩)),(1,22,ae (J ⟨b,0,Y⟩)),(2,23,ae (J ⟨b,0,Y⟩)),(4,25,ae (J ⟨b,0,Y⟩)),(5,26,ae (J ⟨b,0,Y⟩)),(6,27,ae (J ⟨b,25,Y⟩)),(7,28,.agg #[af (J ⟨gm,0,Y⟩) 360 cm])] ?_ bS ?_
 ·intro w' j;have f:=(X.aw j).tab;have G:=f.cell 25;have x:=f.cell 28;have F:=f.cell 29;have D:=f.cell 30;simp at G x F D;exact zT
 refine wTq 1 [(3,24,lyV (lyW 2))] ?_ bS ?_
 ·intro w' j;have kE:(cL 34 ⟨b,0,Y⟩).run ao w'= .ok (lyV (lyW 2)) w':=de w' b 0 34 (lyC (lyW 2)) _ (X.aw j).lay aK Z zK;exact zL
 refine eh (U:=[8,9]) (tmp:=alT 29 3) (pre:=λ_=>[]) (R:=alR [3] w4.heap.size) zK zD (λw2 h=>h) (Du [3] w4.heap.size) (λi hi=>?_) 1 (λqb w5 I o=>?_)
 ·simp only[aL,be,or_false]at hi;rcases hi with rfl|rfl
  ·refine⟨_,Z,λqb wq K q qe a=>?_⟩;simp only[ba]at a ⊢;go_simp;refine(al_s2 (J ⟨gm,0,Y⟩) cm wq ((V.below q).more q.size)).mono ?_;rintro e wp ⟨C,z,rfl,ho,yz⟩;exact a _ _ ⟨C,z,rfl,dt ho q.size⟩ yz
  refine⟨_,Z,λqb wq K q qe a=>?_⟩;simp only[ba]at a ⊢;go_simp;exact a _ _ ⟨_,Z,q.size,Bk.made _ _ _⟩ (aA bS _)
 obtain⟨v8,e8,BR3,dR3,rfl,qg⟩:=I 8 zS;obtain⟨v9,e9,qd,rfl,N0,k⟩:=I 9 zS;simp only[alT,ba,dj,e8,e9,cZ,if_true];(try simp only[Act.put,ak,ay,az,eM]);obtain⟨c0,c1,c2⟩:=cE k;obtain⟨f0,f1,f2⟩:=fE k;have lR:=k.lt;simp at c0 c1 c2;refine wOq 10 (λK a=>?_);go_simp;have t1:=bX k 0 (aa H 2);replace k:=k.stored 0 (aa H 2);have t2:=bX k 1 (af Y 0 0);replace k:=k.stored 1 (af Y 0 0);have t3:=bX k 2 (.slice BR3 1 dR3);replace k:=k.stored 2 (.slice BR3 1 dR3);replace qg:=bY qg ((t1.trans t2).trans t3) zD;replace o:=bu (bu (bu o (p:=⟨qd,0,Y⟩) N0 (aa H 2)) (p:=⟨qd,1,Y⟩) N0 (af Y 0 0)) (p:=⟨qd,2,Y⟩) N0 (.slice BR3 1 dR3);replace k:Bk (((w5.setCell ⟨qd,0,Y⟩ (aa H 2)).setCell ⟨qd,1,Y⟩ (af Y 0 0)).setCell ⟨qd,2,Y⟩ (.slice BR3 1 dR3)) qd 61 #[aa H 2,af Y 0 0,.slice BR3 1 dR3]:=k;generalize ((w5.setCell ⟨qd,0,Y⟩ (aa H 2)).setCell ⟨qd,1,Y⟩ (af Y 0 0)).setCell ⟨qd,2,Y⟩ (.slice BR3 1 dR3)=w6 at *;refine a.out _ _ (λh=>by cases h) ?_;(try simp only[Act.put,ak,ay,az,eM]);refine aG zK ?_ _;replace X:=X.aw o;replace s:=s.aw o;replace u:=aE u o;replace qa:=aY qa o;replace P:=P.below (qf.trans (o.mono (aF y qf.size)));replace y:=aF y (qf.trans (o.mono (aF y qf.size))).size;obtain⟨GC,cC,rfl⟩:=bJ X.calls;rw[yN]at X;have x:=X.tab.cell 28;simp at x;have lT:=X.tab.lt;have HX:=aj X;go_wp2_with (refine aM Z 26 (.tmp 1) Z g4 Z 26 (cI (J ⟨g2,0,Y⟩) 2 2 (J ⟨g3,0,Y⟩) 8 8 255 6 0) (0,0) _ s iU Z zK ?_);have X:=HX.out;have N9:kn w6 B b (lyW 2) tA2:=⟨gs,_,_,_,X⟩;refine(pM O P y N9 wbA2 zD).mono ?_;rintro e w7 ⟨rfl,hT7,qc⟩;replace hT7:kn w7 B b (lyW 2) tA3:=hT7;have hkr:pH w6 w7:=λg cs t fr hg ht=>qc.kept g cs t fr hg (by rcases ht with rfl|rfl|rfl<;>decide);replace k:=qc.aw k ⟨zD,zD,zD,zD⟩;replace qg:=jZ qg hkr (.inr (.inl rfl));replace s:=qc.aw s ⟨zD,zD,zD,zD⟩;replace u:=u.trans (qc.below.mono KL);replace P:=P.below qc.below;replace y:=aF y qc.below.size;obtain⟨gs7,mv7,ev7,cv7,X⟩:=hT7;obtain⟨gm7,cm7,rfl,qa⟩:=X.mem;have V:=fg qa;rw[Cz]at X;go_upto_region 7 with fail;refine aH (S:=λw'=>Below w7.drew.heap.size w7.drew w') (E:=λi=>i==10) zK ?_;have l:=bD w7;replace X:=X.aw l;replace s:=s.aw l;replace u:=aE u l;replace V:=fg (aY qa l);replace qa:=aY qa l;replace k:=k.aw l;replace qg:=aY qg l;have qf:=l.mono y;generalize w7.drew=w8 at *;refine wTq 7 [(0,38,ae (J ⟨b,0,Y⟩)),(1,39,ae (J ⟨b,0,Y⟩)),(2,40,ae (J ⟨b,0,Y⟩)),(4,42,ae (J ⟨b,0,Y⟩)),(5,43,ae (J ⟨b,0,Y⟩)),(6,44,ae (J ⟨b,25,Y⟩)),(7,45,.agg #[af (J ⟨gm7,0,Y⟩) 360 cm7])] ?_ bS ?_
 ·intro w' j;have f:=(X.aw j).tab;have G:=f.cell 25;have x:=f.cell 28;have F:=f.cell 29;have D:=f.cell 30;simp at G x F D;exact zT
 refine wTq 1 [(3,41,lyV (lyW 2))] ?_ bS ?_
 ·intro w' j;have kE:(cL 34 ⟨b,0,Y⟩).run ao w'= .ok (lyV (lyW 2)) w':=de w' b 0 34 (lyC (lyW 2)) _ (X.aw j).lay aK Z zK;exact zL
 refine eh (U:=[8,9]) (tmp:=alT 46 5) (pre:=λ_=>[]) (R:=alR [8,3] w8.heap.size) zK zD (λw2 h=>h) (Du [8,3] w8.heap.size) (λi hi=>?_) 1 (λqb w9 I o=>?_)
 ·simp only[aL,be,or_false]at hi;rcases hi with rfl|rfl
  ·refine⟨_,Z,λqb wq K q qe a=>?_⟩;simp only[ba]at a ⊢;go_simp;refine(al_s3 (J ⟨gm7,0,Y⟩) cm7 wq ((V.below q).more q.size)).mono ?_;rintro e wp ⟨C,z,rfl,ho,yz⟩;exact a _ _ ⟨C,z,rfl,dt ho q.size⟩ yz
  refine⟨_,Z,λqb wq K q qe a=>?_⟩;simp only[ba]at a ⊢;go_simp;exact a _ _ ⟨_,Z,q.size,Bk.made _ _ _⟩ (aA bS _)
 obtain⟨v8,e8,BR5,qh,rfl,hoR5⟩:=I 8 zS;obtain⟨v9,e9,Q,rfl,N0,m⟩:=I 9 zS;simp only[alT,ba,dj,e8,e9,cZ,if_true];(try simp only[Act.put,ak,ay,az,eM]);obtain⟨c0,c1,c2⟩:=cE m;obtain⟨f0,f1,f2⟩:=fE m;have lR:=m.lt;simp at c0 c1 c2;refine wOq 10 (λK a=>?_);go_simp;have t1:=bX m 0 (aa H 2);replace m:=m.stored 0 (aa H 2);have t2:=bX m 1 (af Y 0 0);replace m:=m.stored 1 (af Y 0 0);have t3:=bX m 2 (.slice BR5 2 qh);replace m:=m.stored 2 (.slice BR5 2 qh);replace hoR5:=bY hoR5 ((t1.trans t2).trans t3) zD;replace o:=bu (bu (bu o (p:=⟨Q,0,Y⟩) N0 (aa H 2)) (p:=⟨Q,1,Y⟩) N0 (af Y 0 0)) (p:=⟨Q,2,Y⟩) N0 (.slice BR5 2 qh);replace m:Bk (((w9.setCell ⟨Q,0,Y⟩ (aa H 2)).setCell ⟨Q,1,Y⟩ (af Y 0 0)).setCell ⟨Q,2,Y⟩ (.slice BR5 2 qh)) Q 61 #[aa H 2,af Y 0 0,.slice BR5 2 qh]:=m;generalize ((w9.setCell ⟨Q,0,Y⟩ (aa H 2)).setCell ⟨Q,1,Y⟩ (af Y 0 0)).setCell ⟨Q,2,Y⟩ (.slice BR5 2 qh)=wA at *;refine a.out _ _ (λh=>by cases h) ?_;(try simp only[Act.put,ak,ay,az,eM]);refine aG zK ?_ _;replace X:=X.aw o;replace s:=s.aw o;replace u:=aE u o;replace qa:=aY qa o;replace P:=P.below (qf.trans (o.mono (aF y qf.size)));replace y:=aF y (qf.trans (o.mono (aF y qf.size))).size;replace k:=k.aw o;replace qg:=aY qg o;obtain⟨GC7,cC7,rfl⟩:=bJ X.calls;rw[J8]at X;have V:=fg qa;have sj:=fg (zs:=[3]) qg;have NF:=fg (zs:=[8,3]) hoR5;go_upto_region 8 with fail;refine aH (S:=λw'=>Below wA.drew.heap.size wA.drew w') (E:=λ_=>false) zK ?_;have l:=bD wA;replace X:=X.aw l;replace k:=k.aw l;replace m:=m.aw l;replace sj:=(sj.below l).more l.size;replace NF:=(NF.below l).more l.size;replace V:=(V.below l).more l.size;replace u:=aE u l;generalize wA.drew=wB at *;have d:=bR wB;refine wTq 6 [(0,47,ae (J ⟨b,0,Y⟩)),(1,48,ae (J ⟨b,0,Y⟩)),(2,49,ae (J ⟨b,30,Y⟩)),(3,50,ah false),(4,51,ah O),(5,52,ah O)] ?_ d ?_
 ·intro w' j;have f:=(X.aw j).tab;have G:=f.cell 25;have x:=f.cell 28;have F:=f.cell 29;have D:=f.cell 30;have L:=(k.aw j).cell 2;have N:=(m.aw j).cell 2;simp at G x F D L N;exact zT
 refine wTq 11 [(6,53,ae (J ⟨b,0,Y⟩)),(7,54,ae (J ⟨b,0,Y⟩)),(8,55,ae (J ⟨b,29,Y⟩)),(9,56,ah false),(10,57,ah O),(11,58,ah O),(12,59,ah O),(13,60,aa H 3),(14,61,ah O),(15,62,ah O),(16,63,ah O)] ?_ d ?_
 ·intro w' j;have f:=(X.aw j).tab;have G:=f.cell 25;have x:=f.cell 28;have F:=f.cell 29;have D:=f.cell 30;have L:=(k.aw j).cell 2;have N:=(m.aw j).cell 2;simp at G x F D L N
  (repeat' (first|exact bd|refine al ⟨_,Z,.inl ⟨zK,?_⟩⟩ ?_))
  all_goals exact zG
 refine wTq 10 [(17,64,ae (J ⟨b,0,Y⟩)),(18,65,ae (J ⟨b,0,Y⟩)),(19,66,ae (J ⟨b,28,Y⟩)),(20,67,.slice GC7 4 cC7),(21,68,aa H 4),(22,69,ah O),(23,70,ah O),(24,71,ah O),(25,72,ae (J ⟨qd,2,Y⟩)),(26,73,.slice BR3 1 dR3)] ?_ d ?_
 ·intro w' j;have f:=(X.aw j).tab;have G:=f.cell 25;have x:=f.cell 28;have F:=f.cell 29;have D:=f.cell 30;have L:=(k.aw j).cell 2;have N:=(m.aw j).cell 2;simp at G x F D L N
  (repeat' (first|exact bd|refine al ⟨_,Z,.inl ⟨zK,?_⟩⟩ ?_))
  all_goals exact zG
 refine wOq 27 (λK a=>?_);go_simp;have kP1:=Bk.made wB 3 #[aa H 3];have hbP1:=bA wB (ag #[aa H 3] 3);replace d:=aE d hbP1;generalize wB.alloc (ag #[aa H 3] 3)=wBb at *;refine a.out _ _ (λ_=>d) ?_;(try simp only[Act.put,ak,ay,az,eM]);refine wOq 28 (λK a=>?_);go_simp;refine(vf (A:=BR3) (c:=dR3) (n:=1) (zs:=[3]) Z ((sj.below d).more d.size) kP1 Z).mono ?_;rintro e wC ⟨rfl,hbP1⟩;replace d:=aE d hbP1;refine a.out _ _ (λ_=>d) ?_;(try simp only[Act.put,ak,ay,az,eM]);refine wTq 4 [(29,76,ah O),(30,77,ah O),(31,78,ae (J ⟨Q,2,Y⟩)),(32,79,.slice BR5 2 qh)] ?_ d ?_
 ·intro w' j;have f:=(X.aw j).tab;have G:=f.cell 25;have x:=f.cell 28;have F:=f.cell 29;have D:=f.cell 30;have L:=(k.aw j).cell 2;have N:=(m.aw j).cell 2;simp at G x F D L N
  (repeat' (first|exact bd|refine al ⟨_,Z,.inl ⟨zK,?_⟩⟩ ?_))
  all_goals exact zG
 refine wOq 33 (λK a=>?_);go_simp;have kP2:=Bk.made wC 3 #[aa H 8,aa H 3];have hbP2:=bA wC (ag #[aa H 8,aa H 3] 3);replace d:=aE d hbP2;generalize wC.alloc (ag #[aa H 8,aa H 3] 3)=wCb at *;refine a.out _ _ (λ_=>d) ?_;(try simp only[Act.put,ak,ay,az,eM]);refine wOq 34 (λK a=>?_);go_simp;refine(vf (A:=BR5) (c:=qh) (n:=2) (zs:=[8,3]) Z ((NF.below d).more d.size) kP2 Z).mono ?_;rintro e wD ⟨rfl,hbP2⟩;replace d:=aE d hbP2;refine a.out _ _ (λ_=>d) ?_;(try simp only[Act.put,ak,ay,az,eM]);refine wTq 9 [(35,82,ah O),(36,83,ah O),(37,84,ae (J ⟨b,0,Y⟩)),(38,85,ae (J ⟨b,0,Y⟩)),(39,86,ae (J ⟨b,0,Y⟩)),(41,88,ae (J ⟨b,0,Y⟩)),(42,89,ae (J ⟨b,0,Y⟩)),(43,90,ae (J ⟨b,25,Y⟩)),(44,91,.agg #[af (J ⟨gm7,0,Y⟩) 360 cm7])] ?_ d ?_
 ·intro w' j;have f:=(X.aw j).tab;have G:=f.cell 25;have x:=f.cell 28;have F:=f.cell 29;have D:=f.cell 30;have L:=(k.aw j).cell 2;have N:=(m.aw j).cell 2;simp at G x F D L N
  (repeat' (first|exact bd|refine al ⟨_,Z,.inl ⟨zK,?_⟩⟩ ?_))
  all_goals exact zG
 refine wTq 1 [(40,87,lyV (lyW 2))] ?_ d ?_
 ·intro w' j;have kE:(cL 34 ⟨b,0,Y⟩).run ao w'= .ok (lyV (lyW 2)) w':=de w' b 0 34 (lyC (lyW 2)) _ (X.aw j).lay aK Z zK
  (repeat' (first|exact bd|refine al ⟨_,Z,.inl ⟨zK,?_⟩⟩ ?_))
  all_goals exact list.dp Z Z kE
 refine eh (U:=[45,46,47]) (tmp:=alU 45 92) (pre:=alZ 45) (R:=alQ 45 alP4 4) zK (λ_ _=>Z) (λw2 h=>aE d h) (Dv Ls) (λi hi=>?_) 17 (λqb wE I o=>?_)
 ·simp only[aL,be,or_false]at hi;rcases hi with rfl|rfl|rfl
  ·refine⟨_,Z,λqb wq K q qe a=>?_⟩;simp only[ba,show alZ 45 45=[]from Z]at a ⊢;go_simp;refine(al_c3 (J ⟨gm7,0,Y⟩) cm7 wq ((V.below (aE d q)).more (aE d q).size)).mono ?_;rintro e wp ⟨C,z,rfl,ho,yz⟩;exact a _ _ ⟨C,z,rfl,dt ho (aN _)⟩ yz
  ·refine⟨_,Z,λqb wq K q qe a=>?_⟩;obtain⟨v,e,hpv⟩:=qe 45 (by simp[alZ]);obtain⟨C,z,rfl,ho⟩:=(show alP4 v wq from hpv);simp only[ba,e,show alZ 45 46=[45]from Z,show alU 45 92 45=92 from Z]at a ⊢;go_simp;have hf:(Instr.field 61 (.agg #[aa H 3,af Y 0 0,.slice C 1 z]) 2).run ao wq= .ok (.slice C 1 z) wq:=zK;rw[hf];exact a _ _ ⟨C,z,Z,ho⟩ bS
  refine⟨_,Z,λqb wq K q qe a=>?_⟩;simp only[ba,show alZ 45 47=[]from Z]at a ⊢;go_simp;exact a _ _ ⟨_,Z,Bk.made _ _ _⟩ (aA bS _)
 obtain⟨v8,e8,hP⟩:=I 45 zS;obtain⟨v7,e7,BP,dP,rfl,ho⟩:=I 46 zS;obtain⟨v9,e9,gP,rfl,kP⟩:=I 47 zS;simp only[show alU 45 92 45=92 from Z,show alU 45 92 46=93 from Z,show alU 45 92 47=94 from Z,ba,dj,e7,e8,e9,cZ,if_true];have DE:=fg (zs:=[4]) ho;(try simp only[Act.put,ak,ay,az,eM]);replace d:=aE d o;refine wOq 48 (λK a=>?_);go_simp;refine(vf (A:=BP) (c:=dP) (n:=1) (zs:=[4]) Z DE kP Z).mono ?_;rintro e wF ⟨rfl,hbP⟩;replace d:=aE d hbP;refine a.out _ _ (λ_=>d) ?_;(try simp only[Act.put,ak,ay,az,eM]);refine wTq 9 [(49,96,ah O),(50,97,ah O),(51,98,ae (J ⟨b,0,Y⟩)),(52,99,ae (J ⟨b,0,Y⟩)),(53,100,ae (J ⟨b,0,Y⟩)),(55,102,ae (J ⟨b,0,Y⟩)),(56,103,ae (J ⟨b,0,Y⟩)),(57,104,ae (J ⟨b,25,Y⟩)),(58,105,.agg #[af (J ⟨gm7,0,Y⟩) 360 cm7])] ?_ d ?_
 ·intro w' j;have f:=(X.aw j).tab;have G:=f.cell 25;have x:=f.cell 28;have F:=f.cell 29;have D:=f.cell 30;have L:=(k.aw j).cell 2;have N:=(m.aw j).cell 2;simp at G x F D L N
  (repeat' (first|exact bd|refine al ⟨_,Z,.inl ⟨zK,?_⟩⟩ ?_))
  all_goals exact zG
 refine wTq 1 [(54,101,lyV (lyW 2))] ?_ d ?_
 ·intro w' j;have kE:(cL 34 ⟨b,0,Y⟩).run ao w'= .ok (lyV (lyW 2)) w':=de w' b 0 34 (lyC (lyW 2)) _ (X.aw j).lay aK Z zK
  (repeat' (first|exact bd|refine al ⟨_,Z,.inl ⟨zK,?_⟩⟩ ?_))
  all_goals exact list.dp Z Z kE
 refine eh (U:=[59,60,61]) (tmp:=alU 59 106) (pre:=alZ 59) (R:=alQ 59 alP5 5) zK (λ_ _=>Z) (λw2 h=>aE d h) (Dv Lr) (λi hi=>?_) 3 (λqb wG I o=>?_)
 ·simp only[aL,be,or_false]at hi;rcases hi with rfl|rfl|rfl
  ·refine⟨_,Z,λqb wq K q qe a=>?_⟩;simp only[ba,show alZ 59 59=[]from Z]at a ⊢;go_simp;refine(al_m3 (J ⟨gm7,0,Y⟩) cm7 wq ((V.below (aE d q)).more (aE d q).size)).mono ?_;rintro e wp ⟨C,z,B2,dd2,rfl,ho,-,yz⟩;exact a _ _ ⟨C,z,B2,dd2,rfl,dt ho (aN _)⟩ yz
  ·refine⟨_,Z,λqb wq K q qe a=>?_⟩;obtain⟨v,e,hpv⟩:=qe 59 (by simp[alZ]);obtain⟨C,z,B2,dd2,rfl,ho⟩:=(show alP5 v wq from hpv);simp only[ba,e,show alZ 59 60=[59]from Z,show alU 59 106 59=106 from Z]at a ⊢;go_simp;have hf:(Instr.field 61 (.agg #[aa H 1,.slice C 1 z,.slice B2 1 dd2]) 1).run ao wq= .ok (.slice C 1 z) wq:=zK;rw[hf];exact a _ _ ⟨C,z,Z,ho⟩ bS
  refine⟨_,Z,λqb wq K q qe a=>?_⟩;simp only[ba,show alZ 59 61=[]from Z]at a ⊢;go_simp;exact a _ _ ⟨_,Z,Bk.made _ _ _⟩ (aA bS _)
 obtain⟨v8,e8,hP⟩:=I 59 zS;obtain⟨v7,e7,BP,dP,rfl,ho⟩:=I 60 zS;obtain⟨v9,e9,gP,rfl,kP⟩:=I 61 zS;simp only[show alU 59 106 59=106 from Z,show alU 59 106 60=107 from Z,show alU 59 106 61=108 from Z,ba,dj,e7,e8,e9,cZ,if_true];have DE:=fg (zs:=[5]) ho;(try simp only[Act.put,ak,ay,az,eM]);replace d:=aE d o;refine wOq 62 (λK a=>?_);go_simp;refine(vf (A:=BP) (c:=dP) (n:=1) (zs:=[5]) Z DE kP Z).mono ?_;rintro e wH ⟨rfl,hbP⟩;replace d:=aE d hbP;refine a.out _ _ (λ_=>d) ?_;(try simp only[Act.put,ak,ay,az,eM]);refine wTq 2 [(63,110,ah O),(64,0,ah O)] ?_ d ?_
 ·intro w' j
  (repeat' (first|exact bd|refine al ⟨_,Z,.inl ⟨zK,?_⟩⟩ ?_))
  all_goals exact zG
 refine aG zK ?_ _;go_wp2_with fail;go_ret;exact⟨Z,aE u d⟩
end
section
open Go.RowKit
attribute [local go_sem ↓] aQ aR
def Jc(q mn N s:Nat)(t:cY):Option (List Nat):=im (rY (q:Int) mn N s t) ct0 (2 ^ (rY (q:Int) mn N s t).length-1)
theorem Cl{want:List (List Opr)}{turns:List Nat}{n m:Nat}{A T:Option Addr}{qa d j f s2:Nat}{w:World}(hn:want.length=n)(hm:turns.length=m)(hW:lj w w.heap.size A want)(hT:yF w w.heap.size T turns)(hs0:j<256)(hs1:f<256)(hs2:s2<256):
  U ao 5 #[.agg (cI A n qa T m d j f s2)] w (fI O w):=by
 have y:=Bk.made w 26 (cI A n qa T m d j f s2);have yB:=bA w (ag (cI A n qa T m d j f s2) 26);go_enter func5,ntmps5;go_wp2_with (refine aM Z 26 (.tmp 1) Z w.heap.size Z 26 (cI A n qa T m d j f s2) (0,0) _ y iU Z zK ?_);generalize w.alloc (ag (cI A n qa T m d j f s2) 26)=w1 at *;refine(LS A T n qa m d j f s2 want w1 hn ((hW.below yB).more yB.size)).mono ?_;rintro e w2 ⟨rfl,kW⟩;replace y:=y.aw kW;have u:=aE yB kW;clear yB kW;cases hf:qE want m with
 | false=>
  go_wp2_with fail;refine(z9 _).mono ?_;rintro e wz ⟨rfl,hbz⟩;go_wp2_with fail;go_ret;exact⟨rfl,aE u hbz⟩
 | true=>
  obtain⟨S1,S3,m2,ok⟩:=A7 hf;clear hf;have P:rE w2 w2.heap.size want turns n A T m j f s2:=⟨(hW.below u).more u.size,(hT.below u).more u.size,hn,hm,m2,zO,zO,ok,hs0,hs1,hs2⟩;clear hW hT;go_wp2_with (refine aM Z 26 (.tmp 1) Z w.heap.size Z 26 (cI A n qa T m d j f s2) (0,0) _ y iU Z zK ?_);refine(vo P).mono ?_;rintro e w3 ⟨gt,rfl,hT3,v⟩;have we0:=vx hn zO zO ok [j,f,s2] turns zO;obtain⟨t0,ht0⟩:=nM (ff (lyW n) want [j,f,s2] turns (jh n));rw[ht0]at hT3 we0;have wb0:WB n want 200 t0:=⟨we0.1,by have:=we0.2.1;omega,by have:=we0.2.2;omega⟩;clear we0;have hrs:∀(all:Bool) (t:cY),jM (lyW n) want [j,f,s2] all t=ma (lyW n) want [j,f,s2] all n t:=λall t=>by unfold jM ma;rw[hn]
  replace y:=y.aw v;have hwb:=u.size;replace u:=aE u v;obtain⟨B,hB⟩:=nM (w2.heap.size);have P3:=P.below v;rw[hB]at hT3 hwb P3;have hBs:=v.size;rw[hB]at hBs;clear v P hB;go_wp2_with (refine aM Z 26 (.tmp 1) Z w.heap.size Z 26 (cI A n qa T m d j f s2) (0,0) _ y iU Z zK ?_);refine(pM X P3 hBs hT3 wb0 zD).mono ?_;rintro e w4 ⟨rfl,hT4,ts4⟩;have wb1:WB n want (200+6003*n) (jM (lyW n) want [j,f,s2] X t0):=by rw[hrs];exact wb0.ma zD zO n (aq _)
  obtain⟨t1,ht1⟩:=nM (jM (lyW n) want [j,f,s2] X t0);rw[ht1]at hT4 wb1;obtain⟨t2,ht2⟩:=nM (jM (lyW n) want [j,f,s2] O t1);obtain⟨a1,a2,a3,a4,a5⟩:=MN hn zO zO zO ok ht0 ht1 ht2;have h200:t1.events.length<=20000:=by have:=wb1.ev;omega
  replace y:=ts4.aw y ⟨zD,zD,zD,zD⟩;replace u:=u.trans (ts4.below.mono hwb);have P4:=P3.below ts4.below;have hBs4:=aF hBs ts4.below.size;have HT4:=aj hT4;have HA:=aj (al a3 a5);clear hT3 P3 hBs ts4 wb0 ht0 ht1 hrs a3 a5;obtain⟨gs1,mv1,ev1,cv1,qf⟩:=hT4;obtain⟨Gc1,cc1,rfl⟩:=bJ qf.calls;obtain⟨Ge1,ce1,rfl⟩:=bJ qf.ev;obtain⟨gm1,cm1,rfl,-⟩:=qf.mem;have c27:=qf.tab.cell 27;have qb:=qf.tab.cell 28;simp at c27 qb;have lT:=qf.tab.lt;clear qf;obtain⟨mn,NS⟩:=nM (t1.calls.length);obtain⟨N,hN⟩:=nM (t1.events.length);rw[NS]at qb a1 a4 HA;rw[hN]at c27 a4 HA h200;clear NS hN;go_upto_region 7 with fail;clear c27 qb lT;go_wp2_with (refine aM Z 26 (.tmp 1) Z w.heap.size Z 26 (cI A n qa T m d j f s2) (0,0) _ y iU Z zK ?_);refine(pM O P4 hBs4 HT4.out wb1 zO).mono ?_;rintro e F ⟨rfl,hT5,ts5⟩;rw[ht2]at hT5;replace u:=u.trans (ts5.below.mono hwb);have hBs5:=aF hBs4 ts5.below.size;clear HT4 P4 ts5 wb1 ht2 y ok;obtain⟨gs,mv,ev,cv,qd⟩:=hT5;obtain⟨Gc,cc,rfl⟩:=bJ qd.calls;obtain⟨gm,cm,rfl,-⟩:=qd.mem;obtain⟨nc,hnc⟩:=nM (t2.calls.length);have Iw:dA F B (.slice Gc nc cc) t2.calls:=by rw[<- hnc];exact qd.calls
  have qb:=qd.tab.cell 28;have c30:=qd.tab.cell 30;simp at qb c30;rw[hnc]at qb a1 a2;have lT:=qd.tab.lt;have C:decide ((nc:Int)<mn)=X:=zP;have K:decide (nc<mn)=X:=zP;have g3:¬nc<mn:=zO;clear qd;go_wp2_with fail;clear c30 C K g3;go_loopw [6,7] (λv6 v7 wr=>∃k:Nat,mn<=k/\k<=nc/\v7=V H (k:Nat)/\D F.heap.size F wr/\dA wr F.heap.size v6 (fM N ((t2.calls.take k).drop mn))) (λ_ v7 _=>nc-(intOf v7).toNat)
  case atStart=>exact⟨mn,aq _,a1,Z,bS,by rw[List.drop_eq_nil_of_le (by rw[dg];omega)];exact bW _ _ _ _⟩
  obtain⟨k,k1,k2,rfl,l,a⟩:=hrel;have c28r:=iF l qb;by_cases fH:k<nc
  ·have C:decide ((k:Int)<nc)=O:=zP;have i1:(k:Int)<nc:=zO;obtain⟨x,W⟩:∃x,t2.calls[k]? =J x:=⟨_,aD zO⟩;obtain⟨g,rfl,-,hg,hc⟩:=(Iw.aw l).at_ W;have sh:fM N ((t2.calls.take (k+1)).drop mn)=fM N ((t2.calls.take k).drop mn)++(if x.first<N then [{ x with last:=1000000 }]else []):=by
    rw[qy,W,List.drop_append_of_le_length (by rw[dg];omega)];exact H8
   have hple:(fM N ((t2.calls.take k).drop mn)).length<=9:=aF Cm (by rw[List.length_drop,dg];omega);obtain⟨L,z⟩:=nM (fM N ((t2.calls.take k).drop mn));rw[z]at sh a hple;have HTK:=aj (al sh z);clear W sh z;go_upto_region 15 with (refine fG Z 56 (.tmp 67) Z g (k*10) Z (cB x) _ hc underlying56 Z zK ?_);clear c28r hc C i1;have kx:=Bk.made wr 56 (cB x);have E:=bA wr (ag (cB x) 56);have NM:=aY a E;have hvl:∀b,u6.ownBlock=J b->b<wr.heap.size:=λb e=>(World.ownsRow.lt a b e).2;have hbr1:=aE l E;have rI:F.heap.size<=wr.heap.size:=l.size;clear a E l;generalize wr.alloc (ag (cB x) 56)=qc at *;generalize wr.heap.size=gx at *;have q7:=kx.cell 7;have q8:=kx.cell 8;have f8:=kx.free 8;have l8:=kx.lt;simp at q7 q8;by_cases hf:x.first<N;rotate_left
   ·have K:decide ((x.first:Int)<N)=X:=zP;rw[if_neg hf,List.append_nil]at HTK;go_wp2_with fail;go_roundw
    case rel=>
     refine⟨k+1,zO,zO,by go_num,hbr1,?_⟩;rw[HTK.out.1];exact NM
    case measure=>simp[intOf];omega
   have K:decide ((x.first:Int)<N)=O:=zP;go_upto_region 17 with fail;clear q7 q8 f8 l8 K;rw[if_pos hf]at HTK;have kx7:Bk (qc.setCell ⟨gx,8,Y⟩ (V H 1000000)) gx 56 (cB { x with last:=1000000 }):=kx.stored 8 (V H 1000000);have LO:=bu hbr1 (p:=⟨gx,8,Y⟩) rI (V H 1000000);have Jv:=nr NM ((dN.refl gx Y qc).set 8 (V H 1000000)) (λb e=>⟨by have:=hvl b e;omega,λe=>by cases e⟩);clear kx hbr1 NM hvl;generalize qc.setCell ⟨gx,8,Y⟩ (V H 1000000)=c at *;generalize hx9:({ x with last:=1000000 }:cd)=x9 at *;clear hx9;obtain⟨ri,BD⟩:=qu;have Jv:c.ownsRow F.heap.size 56 10 u6 L.length (cj L):=Jv;have v:=bA c (ag (cB x9) 56);have kx3:=Bk.made c 56 (cB x9);have qg:=aE LO v;go_wp2_with (first|(refine aM Z 56 (.tmp 8) Z gx Z 56 (cB x9) (0,0) _ kx7 underlying56 Z zK ?_)|(at_builtin;go_must (refine hZ BD Z (.tmp 74) (.tmp 76) Z F.heap.size u6 L.length (cj L) Z (aY Jv v) c.heap.size (cB x9) Z kx3 Z (by simp[aB]) zO zO qg.size ?_;intro qe w9 S fT)));go_roundw
   case rel=>
    refine⟨k+1,zO,zO,by go_num,bO qg (aY Jv v) fT qg.size (aq _),?_⟩;rw[HTK.out.1];show w9.ownsRow _ _ _ _ (L++[x9]).length (cj (L++[x9]));rw[jz,bE];exact S
   case measure=>simp[intOf];omega
  obtain rfl:k=nc:=zO;have C:decide ((k:Int)<k)=X:=zS;rw[List.take_of_length_le zO]at a;obtain⟨Gp,cp,rfl⟩:=bJ a;obtain⟨p,hp⟩:=nM (fM N (t2.calls.drop mn));have NL:t2.calls.length=k:=hnc;rw[hp]at a a4 ⊢;obtain⟨np,hnp⟩:=nM (p.length);rw[hnp]at a a4 ⊢;have K:decide ((3:Int)<np)=X:=zP;have g3:¬3<np:=zO;have hBr:B<=wr.heap.size:=aF hBs5 l.size;have hoc2:=Iw.aw l;replace u:=aE u l;have hownP:dA wr F.heap.size (.slice Gp np cp) p:=a;have lT2:=aZ lT l.size;have KL:F.heap.size<=wr.heap.size:=l.size;clear qb Iw a lT l hBs5 hBs4 fH k1 k2 NL;go_wp2_with fail;clear C K g3;generalize wr=qc at *;go_loopw [9] (λqe wr=>∃q:Nat,1<=q/\q<=4/\qe=V H (q:Nat)/\D qc.heap.size qc wr) (λqe _=>4-(intOf qe).toNat)
  case atStart=>exact⟨1,aq _,zO,Z,bS⟩
  obtain⟨q,q1,q4,rfl,l⟩:=hrel;by_cases hq:q<=3;rotate_left
  ·obtain rfl:q=4:=zO;go_wp2_with fail;refine(z9 _).mono ?_;rintro e wz ⟨rfl,hbz⟩;go_wp2_with fail;go_ret;exact⟨rfl,aE (aE u l) hbz⟩
  have C:decide ((q:Int)<=3)=O:=zP;go_wp2_with fail;clear C;go_loopw [10,11] (λv10 v11 wq=>∃(s:Nat) (b:Bool),s<=8/\v11=V H (s:Nat)/\v10= .bool b/\D qc.heap.size qc wq/\(b=X->∀M,M<s->Jc q mn N M t2=Y)) (λ_ v11 _=>8-(intOf v11).toNat)
  case atStart=>exact⟨0,X,zO,Z,Z,l,λ_ M h=>absurd h zO⟩
  clear l;generalize wr=c at *;obtain⟨s,b,hs8,rfl,rfl,I,G⟩:=hrel;cases b with
  | true=>
   by_cases hs:s<8
   ·have C:decide ((s:Int)<8)=O:=zP;go_wp2_with fail;exact⟨⟨q+1,zO,zO,by go_num,I⟩,by simp[intOf];omega⟩
   obtain rfl:s=8:=zO;go_wp2_with fail;exact⟨⟨q+1,zO,zO,by go_num,I⟩,by simp[intOf];omega⟩
  | false=>
   by_cases hs:s<8;rotate_left
   ·exfalso;obtain rfl:s=8:=zO;obtain⟨M,h1,-,h3⟩:=HA.out.2 q zO zO;obtain⟨o,ho⟩:=J7 h3;have:=G Z M h1;unfold Jc at this;rw[ho]at this;cases this
   have C:decide ((s:Int)<8)=O:=zP;have HNO:=aj (G Z);clear G;have c28s:=iF I c28r;have hocs:=hoc2.aw I;obtain⟨hcc,hGc,CL⟩:=Kb hocs hnc a1;have sX:=Mo (A:=Gc) (len:=k) (cap:=cc) (n:=mn) hGc zO;obtain⟨ri,BD⟩:=qu;have hBs7:B<=c.heap.size:=aF hBr I.size;have lT7:=aZ lT2 I.size;have E:=bA c (ag #[] 56);have Q:=tF (e:=56) (size:=10) c c.heap.size (aq _);have hsr2:=CL.below E;go_upto_region 28 with (first|(refine wpList_plain Z λK' hK'=>pg BD Z (hK' _ _ ?_))|(at_builtin;go_must (refine rL BD Z (.tmp 93) (.tmp 99) Z c.heap.size (af (J ⟨c.heap.size,0,Y⟩) 0 0) 0 [] Z Q Gc mn cc (cj (t2.calls.take mn)) Z hsr2 (Lg _) zO zO E.size ?_;intro qe w9 S fT)));clear hK' K' c28s sX CL hsr2 hcc hGc lT7 C;have N8:D c.heap.size c w9:=bO E Q fT E.size (aq _);have xi:dA w9 c.heap.size qe (t2.calls.take mn):=by
    rw[ea,List.nil_append]at S;show w9.ownsRow _ _ _ _ (t2.calls.take mn).length _;rw[dg,hnc,Nat.min_eq_left a1];exact S
   clear S fT Q E;go_wp2_with fail;go_loopw [12,13] (λv12 v13 wq=>∃i:Nat,i<=np/\v13=V H (i:Nat)/\D c.heap.size c wq/\dA wq c.heap.size v12 (t2.calls.take mn++fL s p i)) (λ_ v13 _=>np-(intOf v13).toNat)
   case atStart=>exact⟨0,aN _,Z,N8,by show dA _ _ _ (_++[]);rw[List.append_nil];exact xi⟩
   clear N8 xi;obtain⟨i,hi,rfl,qh,a⟩:=hrel;generalize wr=qi at *;by_cases yv:i<np
   ·have K:decide ((i:Int)<np)=O:=zP;have i1:(i:Int)<np:=zO;have A3:=Mf hs (i:=i) zO;obtain⟨x,W⟩:∃x,p[i]? =J x:=⟨_,aD zO⟩;have hpk:t2.calls.take mn++fL s p (i+1)=(t2.calls.take mn++fL s p i)++(if s / 2 ^ i%2=1 then [x]else []):=by
     show _++(_++_)=_;rw[W,List.append_assoc];rfl
    have hlen:(t2.calls.take mn++fL s p i).length<=20:=by
     have:=tB (s:=s) (p:=p) i;rw[bE,dg];omega
    obtain⟨L,z⟩:=nM (t2.calls.take mn++fL s p i);rw[z]at hpk a hlen;have HP:=aj (al hpk z);clear hpk z;by_cases hbt:s / 2 ^ i%2=1
    ·rw[decide_eq_true hbt]at A3;rw[if_pos hbt]at HP;obtain⟨g,rfl,-,hg,hc⟩:=((hownP.aw I).aw qh).at_ W;have a:qi.ownsRow c.heap.size 56 10 u12 L.length (cj L):=a;have v:=bA qi (ag (cB x) 56);have kx3:=Bk.made qi 56 (cB x);have qg:=aE qh v;clear W hocs hoc2 hownP;go_wp2_with (first|(refine fG Z 56 (.tmp 115) Z g (i*10) Z (cB x) _ hc underlying56 Z zK ?_)|(at_builtin;go_must (refine hZ BD Z (.tmp 112) (.tmp 117) Z c.heap.size u12 L.length (cj L) Z (aY a v) qi.heap.size (cB x) Z kx3 Z (by simp[aB]) zO zO qg.size ?_;intro qe w9 S fT)));go_roundw
     case rel=>
      refine⟨i+1,zO,by go_num,bO qg (aY a v) fT qg.size (aq _),?_⟩;rw[HP.out.1];show w9.ownsRow _ _ _ _ (L++[x]).length (cj (L++[x]));rw[jz,bE];exact S
     case measure=>simp[intOf];omega
    rw[decide_eq_false hbt]at A3;rw[if_neg hbt,List.append_nil]at HP;go_wp2_with fail;go_roundw
    case rel=>
     refine⟨i+1,zO,by go_num,qh,?_⟩;rw[HP.out.1];exact a
    case measure=>simp[intOf];omega
   obtain rfl:i=np:=zO;have K:decide ((i:Int)<i)=X:=zS;have CY:=(MT (κ:=(q:Int)) (mn:=mn) (N:=N) (s:=s) (t:=t2) zO);rw[hnc,hp,hnp]at CY;have hkof:=MU (κ:=(q:Int)) (mn:=mn) (N:=N) (s:=s) (t:=t2) HA.out.1;have Q:(t2.calls.take mn++fL s p i).filter (ownB (q:Int))=rY (q:Int) mn N s t2:=by unfold rY;rw[hp,hnp]
   obtain⟨L,z⟩:=nM (t2.calls.take mn++fL s p i);rw[z]at a Q CY;obtain⟨Gl,cl,rfl⟩:=bJ a;obtain⟨nl,hnl⟩:=nM (L.length);rw[hnl]at CY ⊢;have a:dA qi c.heap.size (.slice Gl nl cl) L:=by rw[<- hnl];exact a
   go_wp2_with fail;refine(hof_any L (q:Int) c.heap.size cl nl Gl qi qh.size hnl zO a).mono ?_;rintro e w9 ⟨Go,co,rfl,CM,N8⟩;rw[Q]at CM ⊢;have KO:Jc q mn N s t2=im (rY (q:Int) mn N s t2) ct0 (2 ^ (rY (q:Int) mn N s t2).length-1):=rfl;have uD:=CY.2;obtain⟨own,zN⟩:=nM (rY (q:Int) mn N s t2);rw[zN]at CM hkof KO uD ⊢;obtain⟨no,G⟩:=nM (own.length);rw[G]at CM KO uD ⊢;have hb10:=aE (aE I qh) N8;have HK:=aj (al hkof KO);clear Q z a zN hkof KO CY qh N8 hocs;go_wp2_with fail;refine(B4 (q:Int) w9).mono ?_;rintro e uq ⟨rfl,hb11⟩;have AZ:=CM.aw hb11;have hb12:=aE hb10 hb11;go_wp2_with fail;refine(Il (q:Int) own Go no co _ uq G zO (AZ.low (aN _)) HK.out.1 (Ov _ _ _) (Mz zO)).mono ?_;rintro e qJ ⟨hb13,R⟩;rw[<- HK.out.2]at R;have hb14:=aE hb12 hb13;cases hsk:Jc q mn N s t2 with
   | none=>
    rw[hsk]at R;have R:e=ai (.tuple #[af Y 0 0,ah X]):=R;subst R;go_wp2_with fail;refine⟨⟨s+1,X,zO,by go_num,Z,hb14,λ_ M h=>?_⟩,by simp[intOf];omega⟩;by_cases e:M=s
    ·subst e;exact hsk
    exact HNO.out M zO
   | some o=>
    rw[hsk]at R;obtain⟨Gr,cr,rfl,hor⟩:=R;have hF:O3 own o:=Kj (by rw[G,<- HK.out.2];exact hsk);have hrc:=(rX hor (by rw[qH])).1;have sX:=fg (show aX qJ uq.heap.size (.slice Gr (o.map λ(i:Nat)=>(i:Int)).length cr) (o.map λ(i:Nat)=>(i:Int))by rw[qH];exact hor);obtain⟨ml,hml⟩:=nM (o.length);rw[hml]at hrc ⊢;have HF:=aj (al hF (al hrc sX));have hownP11:=AZ.aw hb13;clear hF hrc sX hor CM AZ;go_wp2_with fail;refine(B4 (q:Int) qJ).mono ?_;rintro e DD ⟨rfl,hb15⟩;go_wp2_with fail;refine(Og (q:Int) own o Go no co ml cr Gr _ DD G zO hml HF.out.2.1 ((hownP11.aw hb15).low (aN _)) ((HF.out.2.2.below hb15).more hb15.size) HF.out.1 HK.out.1 (Ov _ _ _) (Mz zO)).mono ?_;rintro e w13 ⟨rfl,hb16⟩;go_wp2_with fail;exact⟨⟨s+1,O,zO,by go_num,rfl,aE (aE hb14 hb15) hb16,λh=>by cases h⟩,by simp[intOf];omega⟩
end
end Go.Proofs.YtikdaeddbkopeaaGreatR
