/- A part of the proof. -/
import Derived.Test.YtikdaeddbkopeaaGreatRV15
import Derived.Test.YtikdaeddbkopeaaGreatRV16
set_option linter.unusedVariables false
set_option linter.unusedSimpArgs false
set_option maxRecDepth 100000
set_option maxHeartbeats 16000000
open And renaming intro → au
open Go renaming wpList_load_row → aL, wp_at_zero → aV, wp_at_succ → aW
open Go.IntKind renaming i64 → ab
open Go.IntWalk renaming i64_in → cV
open Go.Obj renaming cells → ag
open Go.Proofs.Tryz renaming prog → aw, underlying26 → fA
open Go.Value renaming bool → ah, int → aa, pointer → ae, slice → af
open List renaming getElem?_eq_getElem → aO, setIfInBounds_toArray → aj, set_cons_zero → ak, set_cons_succ → al, mem_of_getElem? → bX
open Nat renaming le_trans → aQ, zero_le → aY, lt_of_lt_of_le → bg
open True renaming intro → aC
namespace Go.Proofs.YtikdaeddbkopeaaGreatR
structure SoI (S who px:Nat) (want:List (List Opr)) (tz:dG) (i:Nat) (en:Bool) (ti:dG):Prop where
 we:WE S want ti
 ev:ti.events.length<=200+i
 ca:ti.calls.length<=200+i
 nd:en=false->fL (lyW S) want [] true who (2001 - i) ti=tz/\∃ x,ti.aM[who]? =some x/\x.pos=px
 dn:en=true->ti=tz
section
variable {S who px:Nat} {want:List (List Opr)} {tz t:dG} {ops:List Opr}
theorem SoI.step {i:Nat} {ti:dG} (h:SoI S who px want tz i false ti) (hi:i<=2000) (hw:who < S) (ho:want[who]? =some ops) (hp:px < ops.length) {t':dG} {r:Bool} (ht:ff (lyW S) want who ti=(t',r)):SoI S who px want tz (i+1) r t':=by
 obtain ⟨lG,x,hx,hxp⟩:=h.nd rfl;have he:=h.ev;have hc:=h.ca;have N9:=ub (lyW S) want who ti;have hca:=ou (lyW S) want who ti;have Lc:=h.we.xp hw zO;obtain ⟨sm,g,q,W⟩:=h.we;obtain ⟨op,gk⟩:∃ op,ops[x.pos]? =some op:=⟨_,aO zO⟩;obtain ⟨j,hj⟩:∃ j,2001 - i=j+1:=⟨2000 - i,zO⟩;have hwt:=(W.xp hx ho gk zO).2;rw [hj,fL,if_neg zS] at lG;rw [ht] at lG N9 hca Lc hwt;dsimp only at N9 hca Lc;refine ⟨Lc,zO,zO,fun e=>?_,fun e=>?_⟩
 ·subst e;dsimp only at lG;rw [show 2001 - (i+1)=j by clear hwt;omega]
  refine ⟨lG,?_⟩;rcases hwt with ⟨y,-,-,-,-,-,x',-,-,-,-,AW,e1,-⟩ | ⟨o,-,-,-,hf,-⟩
  ·exact ⟨x',AW,zO⟩
  ·cases hf
 ·subst e;exact lG
theorem SoI.never {ti:dG} (h:SoI S who px want tz 2001 false ti) {z:fZ} (hz:tz.aM[who]? =some z) (he:z.pos=px+1):False:=by
 obtain ⟨lG,x,hx,hxp⟩:=h.nd rfl;rw [show 2001 - 2001=0 from rfl,fL] at lG
 subst lG;rw [hx] at hz;injection hz with hz
 subst hz;omega
theorem IB (W:WE S want t) (he:t.events.length<=200) (hc:t.calls.length<=200) {x:fZ} (hx:t.aM[who]? =some x) (ho:want[who]? =some ops) (hp:x.pos < ops.length):
  ∃ tz,SoI S who x.pos want tz 0 false t/\∃ z,tz.aM[who]? =some z/\z.pos=x.pos+1/\z.made<=x.made+2000:=by
 refine ⟨_,⟨W,he,hc,fun _=>⟨rfl,x,hx,rfl⟩,fun e=>by cases e⟩,?_⟩
 obtain ⟨sm,g,q,W⟩:=W;obtain ⟨op,gk⟩:∃ op,ops[x.pos]? =some op:=⟨_,aO hp⟩;have hr:(pz S op x).rho sm g<=1400:=by
  cases h:pz S op x with
  | go y=>exact Ph.IH _ _ _
  | _=>exact aY _
 obtain ⟨-,-,z,hz,hm,sJ⟩:=Bj (stops:=[]) (all:=true) 2001 W hx ho gk zO zO;refine ⟨z,hz,?_,zO⟩;rcases sJ with e | ⟨-,e,-⟩
 ·exact e
 ·cases e
end
end Go.Proofs.YtikdaeddbkopeaaGreatR
namespace Go.Proofs.YtikdaeddbkopeaaGreatR
open Go.RowKit
attribute [local go_sem ↓] aV aW
theorem MA {want:List (List Opr)} {turns:List Nat} {n m:Nat} {A T:Option Addr} {cw d s0 s1 s2 u:Nat} {w:World} (hn:want.length=n) (hm:turns.length=m) (hW:mB w w.heap.size A want) (hT:zF w w.heap.size T turns) (hs0:s0 < 256) (cQ:s1 < 256) (dB:s2 < 256) (hu:u < 256):
  Calls aw 3 #[.agg (cK A n cw T m d s0 s1 s2),.int .u8 (u:Nat)] w (kW true w):=by
 have k0:=Bk.made w 26 (cK A n cw T m d s0 s1 s2);have mx:=aB (Below.refl w.heap.size w) (ag (cK A n cw T m d s0 s1 s2) 26);go_enter Tryz.func3,Tryz.ntmps3
 go_wp2_with (refine aL rfl 26 (.tmp 2) rfl w.heap.size rfl 26 (cK A n cw T m d s0 s1 s2) (0,0) _ k0 fA rfl zK ?_)
 generalize w.alloc (ag (cK A n cw T m d s0 s1 s2) 26)=w1 at *
 (with_reducible refine (CA A T n cw m d s0 s1 s2 want w1 hn ((hW.below mx).more mx.size)).mono ?_)
 rintro e w2 ⟨rfl,cY⟩;replace k0:=k0.ay cY;have hb:=aF mx cY;clear mx cY
 cases hf:ry want m with
 | false=>
  go_wp2_with fail
  (with_reducible refine (nD _).mono ?_)
  rintro e wz ⟨rfl,Kb⟩
  go_wp2_with fail
  go_ret
  exact ⟨rfl,aF hb Kb⟩
 | true=>
  obtain ⟨S1,S3,m2,ok⟩:=xQ hf;clear hf;have P:rJ w2 w2.heap.size want turns n A T m s0 s1 s2:=⟨(hW.below hb).more hb.size,(hT.below hb).more hb.size,hn,hm,m2,zO,zO,ok,hs0,cQ,dB⟩;clear hW hT
  go_wp2_with (refine aL rfl 26 (.tmp 2) rfl w.heap.size rfl 26 (cK A n cw T m d s0 s1 s2) (0,0) _ k0 fA rfl zK ?_)
  (with_reducible refine (tm P).mono ?_)
  rintro e w3 ⟨gt,rfl,Ep,jg⟩;obtain ⟨we,ev,ca⟩:=tX hn zO zO ok [s0,s1,s2] turns zO;obtain ⟨t0,ht0⟩:∃ z,fW (lyW n) want [s0,s1,s2] turns (ni n)=z:=⟨_,rfl⟩;rw [ht0] at Ep we ev ca;clear ht0;replace k0:=k0.ay jg;have L3:=hb.size;replace hb:=aF hb jg;obtain ⟨B,hB⟩:∃ z,w2.heap.size=z:=⟨_,rfl⟩;have W3:=P.W.below jg;rw [hB] at Ep L3 W3;have hBs:=jg.size;rw [hB] at hBs;clear jg P hB;obtain ⟨who,om⟩:∃ z,u % n=z:=⟨_,rfl⟩;have hw:who < n:=by rw [<- om];exact Nat.mod_lt _ zO
  have hrm:(u:Int).tmod (n:Int)=who:=by rw [Int.tmod_eq_emod_of_nonneg zO,<- om];omega
  have BS:¬ n=0:=zO;have hwv:IntKind.i64.wrap (u:Int)=u:=cV _ zO;have q0:=k0.cell 0;simp at q0;have qb:=Ep.bad;have lT:=Ep.lt;clear om
  go_upto_region 7 with fail
  clear hrm BS hwv q0 qb;obtain ⟨x,ops,hx,ho⟩:∃ x ops,t0.aM[who]? =some x/\want[who]? =some ops:=by
   have lg:t0.aM.length=n:=by obtain ⟨sm,g,q,W⟩:=we;exact W.sl
   exact ⟨_,_,aO zO,aO zO⟩
  have yN:ops.length<=3:=(ok ops (bX ho)).1;have hmd:x.made<=200:=by
   obtain ⟨sm,g,q,W⟩:=we;have:=(W.sr who x ops hx ho).md;omega
  have lg:t0.aM.length=n:=by obtain ⟨sm,g,q,W⟩:=we;exact W.sl
  obtain ⟨bw,ow,rfl,fK,hwc⟩:=W3 zO;obtain ⟨A',c',DK,-⟩:=hwc who ops ho;clear hwc;refine aP (S:=fun w'=>Below w3.drew.heap.size w3.drew w') (E:=fun _=>false) zK ?_
  have dD:=aU (Below.refl w3.heap.size w3);replace Ep:=Ep.ay dD;replace k0:=k0.ay dD;replace hb:=aF hb dD;replace DK:=(cO dD (bg fK hBs)).trans DK;have ur:=dD.mono hBs;replace W3:=W3.below ur;have Cs:B<=w3.drew.heap.size:=aQ hBs dD.size;clear dD ur hBs lT;generalize w3.drew=w4 at *;have pr:=bg fK Cs;have hT4:=Ep;obtain ⟨gs,mv,evv,cv,X⟩:=Ep;obtain ⟨cs,iV⟩:=X.aM;have jI:=X.tab.cell 26;have xO:=(iV.row.cell (who * 5)).trans (iV.at_ who x hx).at_;have hmd2:=(iV.row.cell (who * 5+4)).trans (iV.at_ who x hx).made;rw [lg] at jI;simp at jI;have gsl:=iV.row.lt;have j2:(who:Int) < n:=zO;have lT:=X.tab.lt;clear X iV cs;refine wTk 15 [(0,27,ae (some ⟨gt,0,none⟩)),(1,28,ae (some ⟨gt,0,none⟩)),(2,29,ae (some ⟨gt,26,none⟩)),(3,30,af (some ⟨gs,0,none⟩) n n),(4,31,aa ab (who:Nat)),(5,32,ae (some ⟨gs,who * 5,none⟩)),(6,33,ae (some ⟨gs,who * 5,none⟩)),(7,34,aa ab (x.pos:Nat)),(8,35,ae (some ⟨w.heap.size,0,none⟩)),(9,36,af (some ⟨bw,ow,none⟩) n cw),(10,37,aa ab (who:Nat)),(11,38,ae (some ⟨bw,ow+who,none⟩)),(12,39,(.slice A' ops.length c')),(13,40,aa ab (ops.length:Nat)),(14,41,ah (decide ((x.pos:Int)>=ops.length)))] ?_ (Below.refl _ _) ?_
  ·intro w' hS;have d26:=(cO hS lT).trans jI;have dat:=(cO hS gsl).trans xO;have dw:=(cO hS pr).trans DK;have d0:=(k0.ay hS).cell 0;simp at d0;clear jI xO DK hmd2
   (repeat' (first | exact aC | refine au ⟨_,rfl,.inl ⟨rfl,?_⟩⟩ ?_))
   all_goals exact zG
  simp only [aR,Act.put,aj,ak,al];refine aN zK ?_ _
  by_cases jp:x.pos < ops.length
  rotate_left
  ·rw [show decide ((x.pos:Int)>=ops.length)=true by simp;omega]
   go_wp2_with fail
   (with_reducible refine (nD _).mono ?_)
   rintro e wz ⟨rfl,Kb⟩
   go_wp2_with fail
   go_ret
   exact ⟨rfl,aF hb Kb⟩
  rw [show decide ((x.pos:Int)>=ops.length)=false by simp;omega]
  obtain ⟨tz,I0,z,hz,hzp,hzm⟩:=IB we zO zO hx ho jp;clear DK pr we ev ca
  go_wp2_with fail
  clear jI xO hmd2 gsl j2 lT
  go_loopw [9,10] (fun v9 v10 wr=>∃ (i:Nat) (en:Bool) (ti:dG),i<=2001/\v9= .bool en/\v10=aa ab (i:Nat)/\jW B w4 wr/\lW wr B gt (lyW n) ti/\SoI n who x.pos want tz i en ti) (fun _ v10 _=>2001 - (intOf v10).toNat)
  case atStart=>exact ⟨0,false,t0,zO,rfl,rfl,jW.refl _ _,hT4,I0⟩
  case round=>
   obtain ⟨i,en,ti,hi,rfl,rfl,ts,DB,I⟩:=hrel;have kR:=ts.ay k0 ⟨zD,zD,zD,zD⟩;clear hT4 I0
   cases en with
   | false=>
    have hi2:i<=2000:=by
     rcases Nat.lt_or_ge i 2001 with h | h
     ·omega
     ·obtain rfl:i=2001:=zO;exact (I.never hz hzp).elim
    have gi:decide ((i:Int)<=2000)=true:=by simp;omega
    obtain ⟨⟨t',r⟩,tR⟩:∃ z,ff (lyW n) want who ti=z:=⟨_,rfl⟩;have I2:=I.step hi2 hw ho jp tR;have N9:=I.ev;have hca:=I.ca;obtain ⟨sm,g,q,WI⟩:=I.we;have hBr:B<=wr.heap.size:=aQ Cs ts.below.size;have W5:=W3.below ts.below
    go_wp2_with (refine aL rfl 26 (.tmp 2) rfl w.heap.size rfl 26 (cK (some ⟨bw,ow,none⟩) n cw T m d s0 s1 s2) (0,0) _ kR fA rfl zK ?_)
    (with_reducible refine (nh WI zO zO hw _ T cw m d s0 s1 s2 _ DB hBr W5).mono ?_)
    rintro e w6 ⟨rfl,Eo,ts6⟩;rw [tR] at Eo ⊢;dsimp only at Eo ⊢
    go_wp2_with fail
    exact ⟨⟨i+1,r,t',zO,rfl,by go_num,ts.trans ts6,Eo,I2⟩,by simp [intOf];omega⟩
   | true=>
    obtain rfl:=I.dn rfl;have Iwe:=I.we;clear I;have hw1:IntKind.i64.wrap ((x.pos:Int)+1)=((x.pos+1:Nat):Int):=by
     rw [cV _ (by have:=yN;omega)];omega
    have hw2:IntKind.i64.wrap ((x.made:Int)+2000)=((x.made+2000:Nat):Int):=by
     rw [cV _ zO];omega
    have e1:decide (((x.pos+1:Nat):Int)=((x.pos+1:Nat):Int))=true:=zS;have e2:decide ((z.made:Int)<=((x.made+2000:Nat):Int))=true:=by simp;omega
    by_cases hi2:i<=2000
    ·have gi:decide ((i:Int)<=2000)=true:=by simp;omega
     go_wp2_with fail
     (with_reducible refine (nD _).mono ?_)
     rintro e wz ⟨rfl,Kb⟩;replace DB:=DB.ay Kb;replace hb:=(hb.trans (ts.below.mono L3)).trans (Kb.mono (aQ L3 (aQ Cs ts.below.size)));obtain ⟨gs',mv',Lr,Lt,X⟩:=DB;obtain ⟨cs,iV⟩:=X.aM;have jI:=X.tab.cell 26;have rC:=X.tab.cell 30;have hsl':ti.aM.length=n:=by obtain ⟨sm,g,q,W⟩:=Iwe;exact W.sl
     have xO:=(iV.row.cell (who * 5)).trans (iV.at_ who z hz).at_;have hmd2:=(iV.row.cell (who * 5+4)).trans (iV.at_ who z hz).made;rw [hsl'] at jI;rw [hzp] at xO;simp at jI rC;have gsl:=iV.row.lt;have lT:=X.tab.lt;have j2:(who:Int) < n:=zO;clear X iV cs
     go_wp2_with fail
     go_ret
     exact ⟨by show Ending.returned (ah (decide ((z.made:Int)<=(x.made:Int)+2000)))=_;rw [decide_eq_true zO],hb⟩
    ·have gi:decide ((i:Int)<=2000)=false:=by simp;omega
     go_wp2_with fail
     (with_reducible refine (nD _).mono ?_)
     rintro e wz ⟨rfl,Kb⟩;replace DB:=DB.ay Kb;replace hb:=(hb.trans (ts.below.mono L3)).trans (Kb.mono (aQ L3 (aQ Cs ts.below.size)));obtain ⟨gs',mv',Lr,Lt,X⟩:=DB;obtain ⟨cs,iV⟩:=X.aM;have jI:=X.tab.cell 26;have rC:=X.tab.cell 30;have hsl':ti.aM.length=n:=by obtain ⟨sm,g,q,W⟩:=Iwe;exact W.sl
     have xO:=(iV.row.cell (who * 5)).trans (iV.at_ who z hz).at_;have hmd2:=(iV.row.cell (who * 5+4)).trans (iV.at_ who z hz).made;rw [hsl'] at jI;rw [hzp] at xO;simp at jI rC;have gsl:=iV.row.lt;have lT:=X.tab.lt;have j2:(who:Int) < n:=zO;clear X iV cs
     go_wp2_with fail
     go_ret
     exact ⟨by show Ending.returned (ah (decide ((z.made:Int)<=(x.made:Int)+2000)))=_;rw [decide_eq_true zO],hb⟩
end Go.Proofs.YtikdaeddbkopeaaGreatR
