/- A part of the proof. -/
import Derived.Test.YtikdaeddbkopeaaGreatRV4
import Derived.Test.YtikdaeddbkopeaaGreatRV2
import Derived.Test.YtikdaeddbkopeaaGreatRV3
set_option linter.unusedVariables false
set_option linter.unusedSimpArgs false
set_option maxRecDepth 100000
set_option maxHeartbeats 16000000
open And renaming intro → au
open Array renaming getElem?_eq_some_iff → bE, getElem?_setIfInBounds_self_of_lt → bV
open Bool renaming and_eq_true → dq
open Classical renaming byContradiction → Aw
open Go renaming execOp → Av, Program → Cn, wpList_store_rowTo → aK, wp_at_zero → aV, wp_at_succ → aW, bodyPost_ret → aX, TypeId → bR, run_loadVar_row → be, results_cell_row → cb, loadVar → dr, Ending → lb
open Go.Ending renaming returned → ai
open Go.Instr renaming makeFunc → kZ
open Go.IntKind renaming i64 → ab
open Go.Lib renaming hid → ar
open Go.Obj renaming cells → ag
open Go.Proofs.Tryz renaming underlying70 → aI, underlying34 → aJ, prog → aw, underlying67 → bU
open Go.Region renaming wanted → Eg, ready → qy
open Go.Value renaming oneCell' → aD, bool → ah, int → aa, pointer → ae
open List renaming setIfInBounds_toArray → aj, set_cons_zero → ak, set_cons_succ → al, getElem_cons_zero → an, getElem_cons_succ → ao, getElem_toArray → aq, mem_cons → bD, not_mem_nil → cB, all_eq_true → dM, nodup_cons → fy, range → xF
open Nat renaming le_refl → az, le_add_left → fu
open Option renaming isSome_some → gQ
open True renaming intro → aC
namespace Go.Proofs.YtikdaeddbkopeaaGreatR.list
open Go.RowKit
attribute [local go_sem ↓] aV aW
def Cd (k:Pk) (th:Int) (op:LOp) (gf gb:Nat) (log:Log) (q:An (dA × Pz)) (w:World) (v7:Value) (wr:World):Prop:=
 ∃ z' there prev cur next pt n,v7=aa ab n/\0<=n/\n < 65536/\df wr k z' log/\cL k.gp gf w wr/\Bk wr gf 204 (fdC k there prev cur next pt (nodeAt k.l op.h 0))/\Bk wr gb 70 aZ/\q=fM th k.me op (.sub (.g1 0 (.nd op.h 0)) (.fh (.put n))) z' (log.drop z'.made)
section
variable {w:World} {k:Pk} {z:Pz} {log:Log} {q:An (dA × Pz)}
theorem put_any (th:Int) (op:LOp) (gf:Nat) (there:Bool) (prev cur next pt:Int) (h:df w k z log) (jl:th=2 * k.l.c.aM) (hs:1<=k.l.c.aM/\k.l.c.aM<=8) (zT:k.gp < gf) (hh:op.h<=9223372036854775807) (kf:Bk w gf 204 (fdC k there prev cur next pt (nodeAt k.l op.h 0)))
  (hq:q=fM th k.me op (.sub (.g1 0 (.nd op.h 0)) (.fh (.put 0))) z (log.drop z.made)) (gq:q≠ .stuck):
  Calls aw 169 #[ptr gf,aa ab op.o,aa ab op.v] w (ji k gf q w (vP k log q)):=by
 have aG:cL k.gp gf w (w.alloc (ag aZ 70)):=(cL.refl _ _ _).alloc _;have kb:=Bk.made w 70 aZ;have zf:=kf.lt;have zp:=h.lt;have hp:=h.ay (aB (Below.refl _ _) (ag aZ 70));replace kf:=kf.alloc (ag aZ 70);have HNS:=ar (au gq (au jl (au hs hh)));have HQ:=ar hq;have mT:∃ g,w.heap.size=g:=⟨_,rfl⟩;clear h hq gq jl hs hh;go_enter Tryz.func169,Tryz.ntmps169
 go_wp2_with fail
 generalize w.alloc (ag aZ 70)=w0 at *;obtain ⟨gb,mD⟩:=mT;rw [mD] at kb zf zp ⊢;have HN:=ar (show k.gp < gf/\gf < gb/\k.gp < gb/\w.heap.size=gb from ⟨zT,zf,zp,mD⟩)
 clear mD zf zp zT;have HR:=ar (show Cd k th op gf gb log q w (aa ab 0) w0 from ⟨z,there,prev,cur,next,pt,0,rfl,zD,zD,hp,aG,kf,kb,HQ.out⟩)
 have lp:=hp.lt;clear hp aG HQ kf kb
 go_loopw [7] (fun v7 wr=>Cd k th op gf gb log q w v7 wr) (fun _ wr=>log.length+1 - madeOf k.gp wr)
 case atStart=>exact HR.out
 case round=>
 clear HR lp there prev cur next pt
 obtain ⟨z2,there,prev,cur,next,pt,n,rfl,vt,A3,hp,aG,kf,kb,hq⟩:=hrel
 have HM:=ar (au (dj hp) hp.mle);have HQ:=ar hq;have JH:=ar (au vt A3);clear hq vt A3
 go_wp2_with fail
 (with_reducible refine (uw th op (.put n) gf _ _ _ _ _ hp HNS.out.2.1 HNS.out.2.2.1 HN.out.1 HNS.out.2.2.2 kf HQ.out HNS.out.1).mono ?_)
 clear kf;rintro e w1 (⟨x,h1,rfl,h3⟩ | ⟨v,rfl,⟨there,prev,cur,next,pt,z3,rfl,eP,kf,xc,rr,hm,ei⟩,cQ⟩)
 ·exact ⟨rfl,.inl ⟨x,h1,rfl,aG.trans h3⟩⟩
 replace aG:=aG.trans cQ;replace kb:=cQ.ay kb (by have:=HN.out;omega) (by have:=HN.out;omega)
 have lh:=ar ei;have OX:=ar (au xc (au rr hm));clear hp cQ ei hm xc rr HQ;have hp:=eP;clear eP;have xA:=kf.cell 1;have oU:=kf.lt;simp at xA
 cases there
 case true=>
  by_cases hz:n=0
  case pos=>
   have fR:=ar (show q=cS th k.me op (iE ⟨0,false,pt,cur⟩ z3) (log.drop z3.made) from by
    rw [lh.out];show cS th k.me op (if n≠0 then _ else _) _=_
    rw [if_neg (by simp [hz])])
   have sZ:(n != 0)=false:=by simp [hz]
   clear lh hz;have HT:=ar (fR.out.trans (kq _ _ _ _ _ _));clear fR
   go_upto_region 6 with fail
   have iF:=kf.cell 0;have oU:=kf.lt;simp at iF
   go_wp2_with fail
   (with_reducible refine (iJ th _ hp HT.out).mono ?_)
   rintro e w2 (⟨x,h1,rfl,h3⟩ | ⟨v,rfl,⟨z9,rfl,eP,ei⟩,cQ⟩)
   ·exact ⟨rfl,.inl ⟨x,h1,rfl,aG.trans h3.two⟩⟩
   replace aG:=aG.trans cQ.two;replace kf:=cQ.ay kf (by have:=HN.out;omega)
   replace kb:=cQ.ay kb (by have:=HN.out;omega)
   have HT9:=ar (show q= .fin (⟨0,false,pt,cur⟩,z9) from ei)
   clear hp cQ;have hp:=eP;clear eP;clear ei HT iF oU;have Ow:=kf.cell 5;have oU:=kf.lt;simp at Ow
   go_wp2_with (refine aK rfl 70 (.tmp 6) (.tmp 38) rfl rfl gb (bu 0 false 0 (pt:Nat)) rfl rfl 70 aZ kb zK rfl (by simp [aD]) ?_)
   have lI:=hp.dR kb (by have:=HN.out;omega) (bu 0 false 0 (pt:Nat))
   replace kb:=kb.bL (bu 0 false 0 (pt:Nat));replace aG:=aG.row (b:=gb) (.inl (by have:=HN.out;omega)) (bu 0 false 0 (pt:Nat))
   exact aX (v:=.agg (bu 0 false 0 (pt:Nat))) (cb (p:=6) (ty:=70) rfl _ _ gb 70 _ (0,0) _ rfl kb aI rfl zK) rfl (.inr ⟨_,rfl,⟨_,_,HT9.out,rfl,lI⟩,aG⟩)
  case neg=>
   have fR:=ar (show q=jO th k.me (fun t z l=>cS th k.me op (jS op t z (.clr ⟨0,false,pt,cur⟩)) l) (.v1 n) z3 (log.drop z3.made) from by
    rw [lh.out];show cS th k.me op (if n≠0 then _ else _) _=_
    rw [if_pos hz];exact mF _ _ _ _ _ _ _)
   have sZ:(n != 0)=true:=by simp [hz]
   clear lh hz
   go_upto_region 5 with fail
   clear xA oU;have iF:=kf.cell 0;have oU:=kf.lt;simp at iF
   go_wp2_with fail
   (with_reducible refine (M0 th n _ hp (by have:=JH.out;omega) fR.out).mono ?_)
   rintro e w2 (⟨x,h1,rfl,h3⟩ | ⟨v,rfl,⟨z4,rfl,eP,ei,mV⟩,cQ⟩)
   ·exact ⟨rfl,.inl ⟨x,h1,rfl,aG.trans h3.two⟩⟩
   replace aG:=aG.trans cQ.two;replace kf:=cQ.ay kf (by have:=HN.out;omega)
   replace kb:=cQ.ay kb (by have:=HN.out;omega)
   have hY:=ar (show q=cS th k.me op (iE ⟨0,false,pt,cur⟩ z4) (log.drop z4.made) from ei)
   clear hp cQ;have hp:=eP;clear eP;clear ei mV fR iF oU;have HT:=ar (hY.out.trans (kq _ _ _ _ _ _));clear hY
   go_upto_region 6 with fail
   have iF:=kf.cell 0;have oU:=kf.lt;simp at iF
   go_wp2_with fail
   (with_reducible refine (iJ th _ hp HT.out).mono ?_)
   rintro e w3 (⟨x,h1,rfl,h3⟩ | ⟨v,rfl,⟨z9,rfl,eP,ei⟩,cQ⟩)
   ·exact ⟨rfl,.inl ⟨x,h1,rfl,aG.trans h3.two⟩⟩
   replace aG:=aG.trans cQ.two;replace kf:=cQ.ay kf (by have:=HN.out;omega)
   replace kb:=cQ.ay kb (by have:=HN.out;omega)
   have HT9:=ar (show q= .fin (⟨0,false,pt,cur⟩,z9) from ei)
   clear hp cQ;have hp:=eP;clear eP;clear ei HT iF oU;have Ow:=kf.cell 5;have oU:=kf.lt;simp at Ow
   go_wp2_with (refine aK rfl 70 (.tmp 6) (.tmp 38) rfl rfl gb (bu 0 false 0 (pt:Nat)) rfl rfl 70 aZ kb zK rfl (by simp [aD]) ?_)
   have lI:=hp.dR kb (by have:=HN.out;omega) (bu 0 false 0 (pt:Nat))
   replace kb:=kb.bL (bu 0 false 0 (pt:Nat));replace aG:=aG.row (b:=gb) (.inl (by have:=HN.out;omega)) (bu 0 false 0 (pt:Nat))
   exact aX (v:=.agg (bu 0 false 0 (pt:Nat))) (cb (p:=6) (ty:=70) rfl _ _ gb 70 _ (0,0) _ rfl kb aI rfl zK) rfl (.inr ⟨_,rfl,⟨_,_,HT9.out,rfl,lI⟩,aG⟩)
 case false=>
  by_cases hz:n=0
  case neg=>
   have fR:=ar (show q=fM th k.me op (.p0 n prev cur) z3 (log.drop z3.made) from by
    rw [lh.out];show cS th k.me op (if n=0 then _ else _) _=_
    rw [if_neg hz];rfl)
   have sZ:(n==0)=false:=by simp [hz]
   clear lh hz
   go_upto_region 16 with fail
   clear xA oU sZ;refine aP (S:=fun w'=>Bk w' gf 204 (fdC k false (nodeAt k.l prev 0) cur next (pt:Nat) (nodeAt k.l op.h 0))) (E:=fun _=>false) zK ?_
   replace hp:=hp.ay (aU (Below.refl w1.heap.size w1));replace aG:=aG.drew;replace kf:=kf.drew;replace kb:=kb.drew;generalize w1.drew=w2 at *;refine wTk 14 [(0,84,ae (some ⟨gf,0,none⟩)),(1,85,ae (some ⟨gf,0,none⟩)),(2,86,ae (some ⟨gf,0,none⟩)),(3,87,ae (some ⟨k.gp,0,none⟩)),(4,88,ae (some ⟨gf,0,none⟩)),(5,89,ae (some ⟨gf,0,none⟩)),(6,90,ae (some ⟨gf,0,none⟩)),(7,91,ae (some ⟨k.gp,0,none⟩)),(8,92,aa ab n),(10,94,ae (some ⟨gf,0,none⟩)),(11,95,ae (some ⟨gf,0,none⟩)),(12,96,ae (some ⟨gf,1,none⟩)),(13,97,ae (some ⟨gf,3,none⟩)),(14,98,aa ab cur)] ?_ kf ?_
   ·intro w' hS;have c0:=hS.cell 0;have c3:=hS.cell 3;simp at c0 c3
    (repeat' (first | exact aC | refine au ⟨_,rfl,.inl ⟨rfl,?_⟩⟩ ?_))
    all_goals exact zG
   simp only [aR,Act.put,aj,ak,al];refine aE (i:=9) (o:=_) zK rfl (fun KK hK=>?_)
   (try simp only [aq,ao,an])
   go_simp
   (with_reducible refine (gY n 0 hp (by have:=JH.out;omega)).mono ?_)
   rintro e w3 ⟨rfl,hb⟩;replace hp:=hp.ay hb;replace kf:=kf.ay hb;replace kb:=kb.ay hb;replace aG:=aG.trans (cL.aS _ _ hb);clear hb;refine hK.out _ _ (fun _=>kf) ?_
   clear hK KK
   (try simp only [Act.put,aj,ak,al])
   refine aE (i:=15) (o:=_) zK rfl (fun KK hK=>?_)
   (try simp only [aq,ao,an])
   go_simp
   (with_reducible refine (iv cur _).mono ?_)
   rintro e w4 ⟨rfl,hb⟩;replace hp:=hp.ay hb;replace kf:=kf.ay hb;replace kb:=kb.ay hb;replace aG:=aG.trans (cL.aS _ _ hb);clear hb;refine hK.out _ _ (fun _=>kf) ?_
   clear hK KK
   (try simp only [Act.put,aj,ak,al])
   refine aE (i:=16) (o:=_) zK rfl (fun KK hK=>?_)
   (try simp only [aq,ao,an])
   go_simp
   (with_reducible refine (js (.nd n 0) (nodeAt k.l n 0) (a9 cur) _ hp rfl (fR.out.trans (jX _ _ _ _ _ _))).mono ?_)
   rintro e w5 (⟨x,h1,rfl,h3⟩ | ⟨v,rfl,⟨⟨t1,t2⟩,ht,rfl,eP,ei⟩,cQ⟩)
   ·exact ⟨rfl,.inl ⟨x,h1,rfl,aG.trans h3.two⟩⟩
   replace aG:=aG.trans cQ.two;replace kf:=cQ.ay kf (by have:=HN.out;omega)
   replace kb:=cQ.ay kb (by have:=HN.out;omega)
   have HP1:=ar (show q=fM th k.me op (.pc n prev cur) z3.got (log.drop z3.got.made) from ei)
   clear hp cQ;have hp:=eP;clear eP;clear ei ht fR;refine hK.out _ _ (fun _=>kf) ?_
   clear hK KK
   (try simp only [Act.put,aj,ak,al])
   refine aN zK ?_ _
   go_upto_region 17 with fail
   refine aP (S:=fun w'=>Bk w' gf 204 (fdC k false (nodeAt k.l prev 0) cur next (pt:Nat) (nodeAt k.l op.h 0))) (E:=fun _=>false) zK ?_
   replace hp:=hp.ay (aU (Below.refl w5.heap.size w5));replace aG:=aG.drew;replace kf:=kf.drew;replace kb:=kb.drew;generalize w5.drew=w6 at *;refine wTk 15 [(0,101,ae (some ⟨gf,0,none⟩)),(1,102,ae (some ⟨gf,0,none⟩)),(2,103,ae (some ⟨gf,0,none⟩)),(3,104,ae (some ⟨k.gp,0,none⟩)),(4,105,ae (some ⟨gf,0,none⟩)),(5,106,ae (some ⟨gf,0,none⟩)),(6,107,ae (some ⟨gf,1,none⟩)),(7,108,ae (some ⟨gf,2,none⟩)),(8,109,aa ab (nodeAt k.l prev 0)),(9,110,ae (some ⟨gf,0,none⟩)),(10,111,ae (some ⟨gf,0,none⟩)),(11,112,ae (some ⟨gf,1,none⟩)),(12,113,ae (some ⟨gf,3,none⟩)),(13,114,aa ab cur),(15,116,aa ab n)] ?_ kf ?_
   ·intro w' hS;have c0:=hS.cell 0;have c2:=hS.cell 2;have c3:=hS.cell 3;simp at c0 c2 c3
    (repeat' (first | exact aC | refine au ⟨_,rfl,.inl ⟨rfl,?_⟩⟩ ?_))
    all_goals exact zG
   simp only [aR,Act.put,aj,ak,al];refine aE (i:=14) (o:=_) zK rfl (fun KK hK=>?_)
   (try simp only [aq,ao,an])
   go_simp
   (with_reducible refine (iv cur _).mono ?_)
   rintro e w7 ⟨rfl,hb⟩;replace hp:=hp.ay hb;replace kf:=kf.ay hb;replace kb:=kb.ay hb;replace aG:=aG.trans (cL.aS _ _ hb);clear hb;refine hK.out _ _ (fun _=>kf) ?_
   clear hK KK
   (try simp only [Act.put,aj,ak,al])
   refine aE (i:=16) (o:=_) zK rfl (fun KK hK=>?_)
   (try simp only [aq,ao,an])
   go_simp
   (with_reducible refine (iv n _).mono ?_)
   rintro e w8 ⟨rfl,hb⟩;replace hp:=hp.ay hb;replace kf:=kf.ay hb;replace kb:=kb.ay hb;replace aG:=aG.trans (cL.aS _ _ hb);clear hb;refine hK.out _ _ (fun _=>kf) ?_
   clear hK KK
   (try simp only [Act.put,aj,ak,al])
   refine aE (i:=17) (o:=_) zK rfl (fun KK hK=>?_)
   (try simp only [aq,ao,an])
   go_simp
   (with_reducible refine (pX (.nd prev 0) (nodeAt k.l prev 0) (a9 cur) (a9 n) _ hp rfl (HP1.out.trans (jX _ _ _ _ _ _))).mono ?_)
   rintro e w9 (⟨x,h1,rfl,h3⟩ | ⟨v,rfl,⟨⟨u1,u2⟩,ht,rfl,eP,ei⟩,cQ⟩)
   ·exact ⟨rfl,.inl ⟨x,h1,rfl,aG.trans h3.two⟩⟩
   replace aG:=aG.trans cQ.two;replace kf:=cQ.ay kf (by have:=HN.out;omega)
   replace kb:=cQ.ay kb (by have:=HN.out;omega)
   have HP2:=ar (show q=cS th k.me op ((LPh.pc n prev cur).stp th op z3.got (u1,u2)) (log.drop z3.got.got.made) from ei)
   clear hp cQ;have hp:=eP;clear eP;clear ei ht HP1;refine hK.out _ _ (fun _=>kf) ?_
   clear hK KK
   (try simp only [Act.put,aj,ak,al])
   refine aN zK ?_ _
   cases u2 with
   | false=>
    have OU:=ar (show Cd k th op gf gb log q w (aa ab n) w9 from ⟨_,_,_,_,_,_,_,rfl,JH.out.1,JH.out.2,hp,aG,kf,kb,HP2.out⟩)
    have HMS:=ar (show log.length+1 - madeOf k.gp w9 < log.length+1 - madeOf k.gp wr by
     rw [dj hp,HM.out.1];have hh:=hp.mle;have:=HM.out;have:=OX.out;skip
     revert hh;show z3.made+1+1<=_->log.length+1 - (z3.made+1+1) < _;omega)
    clear hp aG kf kb HP2
    go_wp2_with fail
    go_roundw
    case rel=>exact OU.out
    case measure=>exact HMS.out
   | true=>
    have HP3:=ar (show q=cS th k.me op (iE ⟨0,true,z3.got.made,n⟩ z3.got.got) (log.drop z3.got.got.made) from HP2.out)
    have HP4:=ar (HP3.out.trans (kq _ _ _ _ _ _));clear HP2 HP3
    go_upto_region 18 with fail
    have iF:=kf.cell 0;have oU:=kf.lt;simp at iF
    go_wp2_with fail
    (with_reducible refine (ly hp (fu _ _)).mono ?_)
    rintro e x9 ⟨rfl,rfl⟩;obtain ⟨pl,lH⟩:∃ x,((z3.got.got.made - 1:Nat):Int)=x:=⟨_,rfl⟩;have HPL:=ar (show ((z3.got.made:Nat):Int)=pl from lH)
    rw [lH];clear lH iF oU
    go_upto_region 19 with fail
    have iF:=kf.cell 0;have oU:=kf.lt;simp at iF
    go_wp2_with fail
    (with_reducible refine (iJ th _ hp HP4.out).mono ?_)
    rintro e tZ (⟨x,h1,rfl,h3⟩ | ⟨v,rfl,⟨z9,rfl,eP,ei⟩,cQ⟩)
    ·exact ⟨rfl,.inl ⟨x,h1,rfl,aG.trans h3.two⟩⟩
    replace aG:=aG.trans cQ.two;replace kf:=cQ.ay kf (by have:=HN.out;omega)
    replace kb:=cQ.ay kb (by have:=HN.out;omega)
    have HP9:=ar (show q= .fin (⟨0,true,z3.got.made,n⟩,z9) from ei)
    clear hp cQ;have hp:=eP;clear eP;clear ei HP4 iF oU;have Ch:=ar (show ∃ o z',q= .fin (o,z')/\bu 0 true 0 pl=bu o.val o.is 0 (o.aH:Nat)/\z'=z9 from ⟨_,_,HP9.out,by rw [<- HPL.out],rfl⟩)
    clear HP9
    go_wp2_with (refine aK rfl 70 (.tmp 6) (.tmp 130) rfl rfl gb (bu 0 true 0 pl) rfl rfl 70 aZ kb zK rfl (by simp [aD]) ?_)
    have lI:=hp.dR kb (by have:=HN.out;omega) (bu 0 true 0 pl)
    replace kb:=kb.bL (bu 0 true 0 pl);replace aG:=aG.row (b:=gb) (.inl (by have:=HN.out;omega)) (bu 0 true 0 pl)
    obtain ⟨oo,zz,e1,e2,e3⟩:=Ch.out;exact aX (v:=.agg (bu 0 true 0 pl)) (cb (p:=6) (ty:=70) rfl _ _ gb 70 _ (0,0) _ rfl kb aI rfl zK) rfl (.inr ⟨_,rfl,⟨oo,zz,e1,congrArg Value.agg e2,e3 ▸ lI⟩,aG⟩)
  case pos=>
   have fR:=ar (show q=jO th k.me (fun t z l=>cS th k.me op (jS op t z (.pt prev cur)) l) .t1 z3 (log.drop z3.made) from by
    rw [lh.out];show cS th k.me op (if n=0 then _ else _) _=_
    rw [if_pos hz];exact mF _ _ _ _ _ _ _)
   have sZ:(n==0)=true:=by simp [hz]
   clear lh hz
   go_upto_region 9 with fail
   clear xA oU sZ;have iF:=kf.cell 0;have oU:=kf.lt;simp at iF
   go_wp2_with fail
   (with_reducible refine (MY th _ hp fR.out).mono ?_)
   rintro e w2 (⟨x,h1,rfl,h3⟩ | ⟨v,rfl,⟨n2,p2,ok,z4,rfl,eP,ei,mx,qO,mV⟩,cQ⟩)
   ·exact ⟨rfl,.inl ⟨x,h1,rfl,aG.trans h3.two⟩⟩
   replace aG:=aG.trans cQ.two;replace kf:=cQ.ay kf (by have:=HN.out;omega)
   replace kb:=cQ.ay kb (by have:=HN.out;omega)
   have hY:=ar (show q=cS th k.me op (jS op (.tk n2 p2 ok) z4 (.pt prev cur)) (log.drop z4.made) from ei)
   clear hp cQ;have hp:=eP;clear eP;have HN2:=ar (au mx qO);have HM4:=ar mV;clear ei mV mx qO fR iF oU
   cases ok with
   | false=>exact absurd hY.out HNS.out.1
   | true=>
    have gK:=ar (show q=fM th k.me op (.p1 n2 prev cur) z4 (log.drop z4.made) from hY.out)
    clear hY
    go_upto_region 14 with fail
    refine aP (S:=fun w'=>Bk w' gf 204 (fdC k false (nodeAt k.l prev 0) cur next (pt:Nat) (nodeAt k.l op.h 0))) (E:=fun _=>false) zK ?_
    replace hp:=hp.ay (aU (Below.refl w2.heap.size w2));replace aG:=aG.drew;replace kf:=kf.drew;replace kb:=kb.drew;generalize w2.drew=w3 at *;refine wTk 10 [(0,60,ae (some ⟨gf,0,none⟩)),(1,61,ae (some ⟨gf,0,none⟩)),(2,62,ae (some ⟨gf,0,none⟩)),(3,63,ae (some ⟨k.gp,0,none⟩)),(4,64,ae (some ⟨gf,0,none⟩)),(5,65,ae (some ⟨gf,0,none⟩)),(6,66,ae (some ⟨gf,0,none⟩)),(7,67,ae (some ⟨k.gp,0,none⟩)),(8,68,aa ab n2),(10,70,aa ab op.o)] ?_ kf ?_
    ·intro w' hS;have c0:=hS.cell 0;simp at c0
     (repeat' (first | exact aC | refine au ⟨_,rfl,.inl ⟨rfl,?_⟩⟩ ?_))
     all_goals exact zG
    simp only [aR,Act.put,aj,ak,al];refine aE (i:=9) (o:=_) zK rfl (fun KK hK=>?_)
    (try simp only [aq,ao,an])
    go_simp
    (with_reducible refine (gY n2 1 hp (by have:=HN2.out;omega)).mono ?_)
    rintro e w4 ⟨rfl,hb⟩;replace hp:=hp.ay hb;replace kf:=kf.ay hb;replace kb:=kb.ay hb;replace aG:=aG.trans (cL.aS _ _ hb);clear hb;refine hK.out _ _ (fun _=>kf) ?_
    clear hK KK
    (try simp only [Act.put,aj,ak,al])
    refine aE (i:=11) (o:=_) zK rfl (fun KK hK=>?_)
    (try simp only [aq,ao,an])
    go_simp
    (with_reducible refine (js (.nd n2 1) (nodeAt k.l n2 1) op.o _ hp rfl (gK.out.trans (jX _ _ _ _ _ _))).mono ?_)
    rintro e w5 (⟨x,h1,rfl,h3⟩ | ⟨v,rfl,⟨⟨t1,t2⟩,ht,rfl,eP,ei⟩,cQ⟩)
    ·exact ⟨rfl,.inl ⟨x,h1,rfl,aG.trans h3.two⟩⟩
    replace aG:=aG.trans cQ.two;replace kf:=cQ.ay kf (by have:=HN.out;omega)
    replace kb:=cQ.ay kb (by have:=HN.out;omega)
    have oh:=ar (show q=fM th k.me op (.p2 n2 prev cur) z4.got (log.drop z4.got.made) from ei)
    clear hp cQ;have hp:=eP;clear eP;clear ei ht gK;refine hK.out _ _ (fun _=>kf) ?_
    clear hK KK
    (try simp only [Act.put,aj,ak,al])
    refine aN zK ?_ _
    go_upto_region 15 with fail
    refine aP (S:=fun w'=>Bk w' gf 204 (fdC k false (nodeAt k.l prev 0) cur next (pt:Nat) (nodeAt k.l op.h 0))) (E:=fun _=>false) zK ?_
    replace hp:=hp.ay (aU (Below.refl w5.heap.size w5));replace aG:=aG.drew;replace kf:=kf.drew;replace kb:=kb.drew;generalize w5.drew=w6 at *;refine wTk 10 [(0,72,ae (some ⟨gf,0,none⟩)),(1,73,ae (some ⟨gf,0,none⟩)),(2,74,ae (some ⟨gf,0,none⟩)),(3,75,ae (some ⟨k.gp,0,none⟩)),(4,76,ae (some ⟨gf,0,none⟩)),(5,77,ae (some ⟨gf,0,none⟩)),(6,78,ae (some ⟨gf,0,none⟩)),(7,79,ae (some ⟨k.gp,0,none⟩)),(8,80,aa ab n2),(10,82,aa ab op.v)] ?_ kf ?_
    ·intro w' hS;have c0:=hS.cell 0;simp at c0
     (repeat' (first | exact aC | refine au ⟨_,rfl,.inl ⟨rfl,?_⟩⟩ ?_))
     all_goals exact zG
    simp only [aR,Act.put,aj,ak,al];refine aE (i:=9) (o:=_) zK rfl (fun KK hK=>?_)
    (try simp only [aq,ao,an])
    go_simp
    (with_reducible refine (gY n2 2 hp (by have:=HN2.out;omega)).mono ?_)
    rintro e w7 ⟨rfl,hb⟩;replace hp:=hp.ay hb;replace kf:=kf.ay hb;replace kb:=kb.ay hb;replace aG:=aG.trans (cL.aS _ _ hb);clear hb;refine hK.out _ _ (fun _=>kf) ?_
    clear hK KK
    (try simp only [Act.put,aj,ak,al])
    refine aE (i:=11) (o:=_) zK rfl (fun KK hK=>?_)
    (try simp only [aq,ao,an])
    go_simp
    (with_reducible refine (js (.nd n2 2) (nodeAt k.l n2 2) op.v _ hp rfl (oh.out.trans (jX _ _ _ _ _ _))).mono ?_)
    rintro e w8 (⟨x,h1,rfl,h3⟩ | ⟨v,rfl,⟨⟨t1,t2⟩,ht,rfl,eP,ei⟩,cQ⟩)
    ·exact ⟨rfl,.inl ⟨x,h1,rfl,aG.trans h3.two⟩⟩
    replace aG:=aG.trans cQ.two;replace kf:=cQ.ay kf (by have:=HN.out;omega)
    replace kb:=cQ.ay kb (by have:=HN.out;omega)
    have qF:=ar (show q=fM th k.me op (.p0 n2 prev cur) z4.got.got (log.drop z4.got.got.made) from ei)
    clear hp cQ;have hp:=eP;clear eP;clear ei ht oh;refine hK.out _ _ (fun _=>kf) ?_
    clear hK KK
    (try simp only [Act.put,aj,ak,al])
    refine aN zK ?_ _
    go_upto_region 16 with fail
    refine aP (S:=fun w'=>Bk w' gf 204 (fdC k false (nodeAt k.l prev 0) cur next (pt:Nat) (nodeAt k.l op.h 0))) (E:=fun _=>false) zK ?_
    replace hp:=hp.ay (aU (Below.refl w8.heap.size w8));replace aG:=aG.drew;replace kf:=kf.drew;replace kb:=kb.drew;generalize w8.drew=w9 at *;refine wTk 14 [(0,84,ae (some ⟨gf,0,none⟩)),(1,85,ae (some ⟨gf,0,none⟩)),(2,86,ae (some ⟨gf,0,none⟩)),(3,87,ae (some ⟨k.gp,0,none⟩)),(4,88,ae (some ⟨gf,0,none⟩)),(5,89,ae (some ⟨gf,0,none⟩)),(6,90,ae (some ⟨gf,0,none⟩)),(7,91,ae (some ⟨k.gp,0,none⟩)),(8,92,aa ab n2),(10,94,ae (some ⟨gf,0,none⟩)),(11,95,ae (some ⟨gf,0,none⟩)),(12,96,ae (some ⟨gf,1,none⟩)),(13,97,ae (some ⟨gf,3,none⟩)),(14,98,aa ab cur)] ?_ kf ?_
    ·intro w' hS;have c0:=hS.cell 0;have c3:=hS.cell 3;simp at c0 c3
     (repeat' (first | exact aC | refine au ⟨_,rfl,.inl ⟨rfl,?_⟩⟩ ?_))
     all_goals exact zG
    simp only [aR,Act.put,aj,ak,al];refine aE (i:=9) (o:=_) zK rfl (fun KK hK=>?_)
    (try simp only [aq,ao,an])
    go_simp
    (with_reducible refine (gY n2 0 hp (by have:=HN2.out;omega)).mono ?_)
    rintro e xo ⟨rfl,hb⟩;replace hp:=hp.ay hb;replace kf:=kf.ay hb;replace kb:=kb.ay hb;replace aG:=aG.trans (cL.aS _ _ hb);clear hb;refine hK.out _ _ (fun _=>kf) ?_
    clear hK KK
    (try simp only [Act.put,aj,ak,al])
    refine aE (i:=15) (o:=_) zK rfl (fun KK hK=>?_)
    (try simp only [aq,ao,an])
    go_simp
    (with_reducible refine (iv cur _).mono ?_)
    rintro e tZ ⟨rfl,hb⟩;replace hp:=hp.ay hb;replace kf:=kf.ay hb;replace kb:=kb.ay hb;replace aG:=aG.trans (cL.aS _ _ hb);clear hb;refine hK.out _ _ (fun _=>kf) ?_
    clear hK KK
    (try simp only [Act.put,aj,ak,al])
    refine aE (i:=16) (o:=_) zK rfl (fun KK hK=>?_)
    (try simp only [aq,ao,an])
    go_simp
    (with_reducible refine (js (.nd n2 0) (nodeAt k.l n2 0) (a9 cur) _ hp rfl (qF.out.trans (jX _ _ _ _ _ _))).mono ?_)
    rintro e CC (⟨x,h1,rfl,h3⟩ | ⟨v,rfl,⟨⟨t1,t2⟩,ht,rfl,eP,ei⟩,cQ⟩)
    ·exact ⟨rfl,.inl ⟨x,h1,rfl,aG.trans h3.two⟩⟩
    replace aG:=aG.trans cQ.two;replace kf:=cQ.ay kf (by have:=HN.out;omega)
    replace kb:=cQ.ay kb (by have:=HN.out;omega)
    have HP1:=ar (show q=fM th k.me op (.pc n2 prev cur) z4.got.got.got (log.drop z4.got.got.got.made) from ei)
    clear hp cQ;have hp:=eP;clear eP;clear ei ht qF;refine hK.out _ _ (fun _=>kf) ?_
    clear hK KK
    (try simp only [Act.put,aj,ak,al])
    refine aN zK ?_ _
    go_upto_region 17 with fail
    refine aP (S:=fun w'=>Bk w' gf 204 (fdC k false (nodeAt k.l prev 0) cur next (pt:Nat) (nodeAt k.l op.h 0))) (E:=fun _=>false) zK ?_
    replace hp:=hp.ay (aU (Below.refl CC.heap.size CC));replace aG:=aG.drew;replace kf:=kf.drew;replace kb:=kb.drew;generalize CC.drew=w13 at *;refine wTk 15 [(0,101,ae (some ⟨gf,0,none⟩)),(1,102,ae (some ⟨gf,0,none⟩)),(2,103,ae (some ⟨gf,0,none⟩)),(3,104,ae (some ⟨k.gp,0,none⟩)),(4,105,ae (some ⟨gf,0,none⟩)),(5,106,ae (some ⟨gf,0,none⟩)),(6,107,ae (some ⟨gf,1,none⟩)),(7,108,ae (some ⟨gf,2,none⟩)),(8,109,aa ab (nodeAt k.l prev 0)),(9,110,ae (some ⟨gf,0,none⟩)),(10,111,ae (some ⟨gf,0,none⟩)),(11,112,ae (some ⟨gf,1,none⟩)),(12,113,ae (some ⟨gf,3,none⟩)),(13,114,aa ab cur),(15,116,aa ab n2)] ?_ kf ?_
    ·intro w' hS;have c0:=hS.cell 0;have c2:=hS.cell 2;have c3:=hS.cell 3;simp at c0 c2 c3
     (repeat' (first | exact aC | refine au ⟨_,rfl,.inl ⟨rfl,?_⟩⟩ ?_))
     all_goals exact zG
    simp only [aR,Act.put,aj,ak,al];refine aE (i:=14) (o:=_) zK rfl (fun KK hK=>?_)
    (try simp only [aq,ao,an])
    go_simp
    (with_reducible refine (iv cur _).mono ?_)
    rintro e w14 ⟨rfl,hb⟩;replace hp:=hp.ay hb;replace kf:=kf.ay hb;replace kb:=kb.ay hb;replace aG:=aG.trans (cL.aS _ _ hb);clear hb;refine hK.out _ _ (fun _=>kf) ?_
    clear hK KK
    (try simp only [Act.put,aj,ak,al])
    refine aE (i:=16) (o:=_) zK rfl (fun KK hK=>?_)
    (try simp only [aq,ao,an])
    go_simp
    (with_reducible refine (iv n2 _).mono ?_)
    rintro e w15 ⟨rfl,hb⟩;replace hp:=hp.ay hb;replace kf:=kf.ay hb;replace kb:=kb.ay hb;replace aG:=aG.trans (cL.aS _ _ hb);clear hb;refine hK.out _ _ (fun _=>kf) ?_
    clear hK KK
    (try simp only [Act.put,aj,ak,al])
    refine aE (i:=17) (o:=_) zK rfl (fun KK hK=>?_)
    (try simp only [aq,ao,an])
    go_simp
    (with_reducible refine (pX (.nd prev 0) (nodeAt k.l prev 0) (a9 cur) (a9 n2) _ hp rfl (HP1.out.trans (jX _ _ _ _ _ _))).mono ?_)
    rintro e Co (⟨x,h1,rfl,h3⟩ | ⟨v,rfl,⟨⟨u1,u2⟩,ht,rfl,eP,ei⟩,cQ⟩)
    ·exact ⟨rfl,.inl ⟨x,h1,rfl,aG.trans h3.two⟩⟩
    replace aG:=aG.trans cQ.two;replace kf:=cQ.ay kf (by have:=HN.out;omega)
    replace kb:=cQ.ay kb (by have:=HN.out;omega)
    have HP2:=ar (show q=cS th k.me op ((LPh.pc n2 prev cur).stp th op z4.got.got.got (u1,u2)) (log.drop z4.got.got.got.got.made) from ei)
    clear hp cQ;have hp:=eP;clear eP;clear ei ht HP1;refine hK.out _ _ (fun _=>kf) ?_
    clear hK KK
    (try simp only [Act.put,aj,ak,al])
    refine aN zK ?_ _
    cases u2 with
    | false=>
     have OU:=ar (show Cd k th op gf gb log q w (aa ab n2) Co from ⟨_,_,_,_,_,_,_,rfl,HN2.out.1,HN2.out.2,hp,aG,kf,kb,HP2.out⟩)
     have HMS:=ar (show log.length+1 - madeOf k.gp Co < log.length+1 - madeOf k.gp wr by
      rw [dj hp,HM.out.1];have hh:=hp.mle;have:=HM.out;have:=OX.out;have h4:z4.got.got.made=z4.made+1+1:=rfl;have:=HM4.out
      revert hh;show z4.got.got.made+1+1<=_->log.length+1 - (z4.got.got.made+1+1) < _;omega)
     clear hp aG kf kb HP2
     go_wp2_with fail
     go_roundw
     case rel=>exact OU.out
     case measure=>exact HMS.out
    | true=>
     have HP3:=ar (show q=cS th k.me op (iE ⟨0,true,z4.got.got.got.made,n2⟩ z4.got.got.got.got) (log.drop z4.got.got.got.got.made) from HP2.out)
     have HP4:=ar (HP3.out.trans (kq _ _ _ _ _ _));clear HP2 HP3
     go_upto_region 18 with fail
     have iF:=kf.cell 0;have oU:=kf.lt;simp at iF
     go_wp2_with fail
     (with_reducible refine (ly hp (fu _ _)).mono ?_)
     rintro e x16 ⟨rfl,rfl⟩;obtain ⟨pl,lH⟩:∃ x,((z4.got.got.got.got.made - 1:Nat):Int)=x:=⟨_,rfl⟩;have HPL:=ar (show ((z4.got.got.got.made:Nat):Int)=pl from lH)
     rw [lH];clear lH iF oU
     go_upto_region 19 with fail
     have iF:=kf.cell 0;have oU:=kf.lt;simp at iF
     go_wp2_with fail
     (with_reducible refine (iJ th _ hp HP4.out).mono ?_)
     rintro e Mi (⟨x,h1,rfl,h3⟩ | ⟨v,rfl,⟨z9,rfl,eP,ei⟩,cQ⟩)
     ·exact ⟨rfl,.inl ⟨x,h1,rfl,aG.trans h3.two⟩⟩
     replace aG:=aG.trans cQ.two;replace kf:=cQ.ay kf (by have:=HN.out;omega)
     replace kb:=cQ.ay kb (by have:=HN.out;omega)
     have HP9:=ar (show q= .fin (⟨0,true,z4.got.got.got.made,n2⟩,z9) from ei)
     clear hp cQ;have hp:=eP;clear eP;clear ei HP4 iF oU;have Ch:=ar (show ∃ o z',q= .fin (o,z')/\bu 0 true 0 pl=bu o.val o.is 0 (o.aH:Nat)/\z'=z9 from ⟨_,_,HP9.out,by rw [<- HPL.out],rfl⟩)
     clear HP9
     go_wp2_with (refine aK rfl 70 (.tmp 6) (.tmp 130) rfl rfl gb (bu 0 true 0 pl) rfl rfl 70 aZ kb zK rfl (by simp [aD]) ?_)
     have lI:=hp.dR kb (by have:=HN.out;omega) (bu 0 true 0 pl)
     replace kb:=kb.bL (bu 0 true 0 pl);replace aG:=aG.row (b:=gb) (.inl (by have:=HN.out;omega)) (bu 0 true 0 pl)
     obtain ⟨oo,zz,e1,e2,e3⟩:=Ch.out;exact aX (v:=.agg (bu 0 true 0 pl)) (cb (p:=6) (ty:=70) rfl _ _ gb 70 _ (0,0) _ rfl kb aI rfl zK) rfl (.inr ⟨_,rfl,⟨oo,zz,e1,congrArg Value.agg e2,e3 ▸ lI⟩,aG⟩)
end
section
variable {w:World} {k:Pk} {z:Pz} {log:Log} {q:An (dA × Pz)}
theorem vn (th:Int) (lo:LOp) (op:Opr) (gf jJ b8:Nat) (h:df w k z log) (jl:th=2 * k.l.c.aM) (hs:1<=k.l.c.aM/\k.l.c.aM<=8) (zT:k.gp < gf) (hh:lo.h<=9223372036854775807) (kf:Bk w gf 204 (fdC k false 0 0 0 0 (nodeAt k.l lo.h 0)))
  (ep:Bk w jJ 198 #[ptr gf]) (k8:Bk w b8 54 (eg op)) (Ej:op.a=lo.o/\op.b=lo.v) (hq:q=fM th k.me lo (.sub (.g1 0 (.nd lo.h 0)) (.fh .get)) z (log.drop z.made)) (gq:q≠ .stuck):
  Calls aw 166 #[ptr jJ,ptr b8] w (ji k gf q w (vP k log q)):=by
 have kb:=Bk.made w 70 aZ;have ia:=kf.lt;have aG:cL k.gp gf w (w.alloc (ag aZ 70)):=(cL.refl _ _ _).alloc _;replace h:=h.ay (aB (Below.refl _ _) (ag aZ 70));replace kf:=kf.alloc (ag aZ 70);replace ep:=ep.alloc (ag aZ 70);replace k8:=k8.alloc (ag aZ 70);have HQ:=ar (au hq (au gq (au jl (au hs hh))));have sQ:=ar Ej;clear hq gq jl hs hh Ej;go_enter Tryz.func166,Tryz.ntmps166
 go_upto_region 1 with fail
 generalize w.alloc (ag aZ 70)=w1 at *;obtain ⟨gb,mD⟩:∃ x,w.heap.size=x:=⟨_,rfl⟩;have nV:=ar (show w.heap.size=gb/\k.gp < gf/\gf < gb from ⟨mD,zT,zO⟩)
 rw [mD] at kb ia ⊢;clear mD;have pF:=ep.cell 0;have c8:=k8.cell 2;simp at pF c8;rw [sQ.out.1] at c8;have xu:=ep.lt;have l8:=k8.lt
 go_wp2_with fail
 (with_reducible refine (get_any th lo gf _ _ _ _ _ h HQ.out.2.2.1 HQ.out.2.2.2.1 zT HQ.out.2.2.2.2 kf HQ.out.1 HQ.out.2.1).mono ?_)
 rintro e w2 (⟨x,h1,rfl,h3⟩ | ⟨v,rfl,⟨o,z2,hf,rfl,hp⟩,dB⟩)
 ·exact ⟨rfl,.inl ⟨x,h1,rfl,aG.trans h3⟩⟩
 replace aG:=aG.trans dB;replace kb:=dB.ay kb (by have:=nV.out;omega) (by have:=nV.out;omega)
 have HF:=ar hf;clear h ep k8 pF c8 xu l8 dB hf
 go_wp2_with (refine aK rfl 70 (.tmp 2) (.tmp 6) rfl rfl gb (bu o.val o.is 0 (o.aH:Nat)) rfl rfl 70 aZ kb zK rfl (by simp [aD]) ?_)
 have lI:=hp.dR kb (by have:=nV.out;omega) (bu o.val o.is 0 (o.aH:Nat))
 replace kb:=kb.bL (bu o.val o.is 0 (o.aH:Nat));replace aG:=aG.row (b:=gb) (.inl (by have:=nV.out;omega)) (bu o.val o.is 0 (o.aH:Nat))
 exact aX (v:=.agg (bu o.val o.is 0 (o.aH:Nat))) (cb (p:=2) (ty:=70) rfl _ _ gb 70 _ (0,0) _ rfl kb aI rfl zK) rfl (.inr ⟨_,rfl,⟨_,_,HF.out,rfl,lI⟩,aG⟩)
theorem KZ (th:Int) (lo:LOp) (op:Opr) (gf jJ b8:Nat) (h:df w k z log) (jl:th=2 * k.l.c.aM) (hs:1<=k.l.c.aM/\k.l.c.aM<=8) (zT:k.gp < gf) (hh:lo.h<=9223372036854775807) (kf:Bk w gf 204 (fdC k false 0 0 0 0 (nodeAt k.l lo.h 0)))
  (ep:Bk w jJ 198 #[ptr gf]) (k8:Bk w b8 54 (eg op)) (Ej:op.a=lo.o/\op.b=lo.v) (hq:q=fM th k.me lo (.sub (.g1 0 (.nd lo.h 0)) (.fh (.put 0))) z (log.drop z.made)) (gq:q≠ .stuck):
  Calls aw 168 #[ptr jJ,ptr b8] w (ji k gf q w (vP k log q)):=by
 have kb:=Bk.made w 70 aZ;have ia:=kf.lt;have aG:cL k.gp gf w (w.alloc (ag aZ 70)):=(cL.refl _ _ _).alloc _;replace h:=h.ay (aB (Below.refl _ _) (ag aZ 70));replace kf:=kf.alloc (ag aZ 70);replace ep:=ep.alloc (ag aZ 70);replace k8:=k8.alloc (ag aZ 70);have HQ:=ar (au hq (au gq (au jl (au hs hh))));have sQ:=ar Ej;clear hq gq jl hs hh Ej;go_enter Tryz.func168,Tryz.ntmps168
 go_upto_region 1 with fail
 generalize w.alloc (ag aZ 70)=w1 at *;obtain ⟨gb,mD⟩:∃ x,w.heap.size=x:=⟨_,rfl⟩;have nV:=ar (show w.heap.size=gb/\k.gp < gf/\gf < gb from ⟨mD,zT,zO⟩)
 rw [mD] at kb ia ⊢;clear mD;have pF:=ep.cell 0;have c8:=k8.cell 2;have c9:=k8.cell 3;simp at pF c8 c9;rw [sQ.out.1] at c8;rw [sQ.out.2] at c9;have xu:=ep.lt;have l8:=k8.lt
 go_wp2_with fail
 (with_reducible refine (put_any th lo gf _ _ _ _ _ h HQ.out.2.2.1 HQ.out.2.2.2.1 zT HQ.out.2.2.2.2 kf HQ.out.1 HQ.out.2.1).mono ?_)
 rintro e w2 (⟨x,h1,rfl,h3⟩ | ⟨v,rfl,⟨o,z2,hf,rfl,hp⟩,dB⟩)
 ·exact ⟨rfl,.inl ⟨x,h1,rfl,aG.trans h3⟩⟩
 replace aG:=aG.trans dB;replace kb:=dB.ay kb (by have:=nV.out;omega) (by have:=nV.out;omega)
 have HF:=ar hf;clear h ep k8 pF c8 xu l8 dB hf c9
 go_wp2_with (refine aK rfl 70 (.tmp 2) (.tmp 8) rfl rfl gb (bu o.val o.is 0 (o.aH:Nat)) rfl rfl 70 aZ kb zK rfl (by simp [aD]) ?_)
 have lI:=hp.dR kb (by have:=nV.out;omega) (bu o.val o.is 0 (o.aH:Nat))
 replace kb:=kb.bL (bu o.val o.is 0 (o.aH:Nat));replace aG:=aG.row (b:=gb) (.inl (by have:=nV.out;omega)) (bu o.val o.is 0 (o.aH:Nat))
 exact aX (v:=.agg (bu o.val o.is 0 (o.aH:Nat))) (cb (p:=2) (ty:=70) rfl _ _ gb 70 _ (0,0) _ rfl kb aI rfl zK) rfl (.inr ⟨_,rfl,⟨_,_,HF.out,rfl,lI⟩,aG⟩)
theorem KY (th:Int) (lo:LOp) (op:Opr) (gf jJ b8:Nat) (h:df w k z log) (jl:th=2 * k.l.c.aM) (hs:1<=k.l.c.aM/\k.l.c.aM<=8) (zT:k.gp < gf) (hh:lo.h<=9223372036854775807) (kf:Bk w gf 204 (fdC k false 0 0 0 0 (nodeAt k.l lo.h 0)))
  (ep:Bk w jJ 198 #[ptr gf]) (k8:Bk w b8 54 (eg op)) (Ej:op.a=lo.o/\op.b=lo.v) (hq:q=fM th k.me lo (.sub (.g1 0 (.nd lo.h 0)) (.fh .del)) z (log.drop z.made)) (gq:q≠ .stuck):
  Calls aw 170 #[ptr jJ,ptr b8] w (ji k gf q w (vP k log q)):=by
 have kb:=Bk.made w 70 aZ;have ia:=kf.lt;have aG:cL k.gp gf w (w.alloc (ag aZ 70)):=(cL.refl _ _ _).alloc _;replace h:=h.ay (aB (Below.refl _ _) (ag aZ 70));replace kf:=kf.alloc (ag aZ 70);replace ep:=ep.alloc (ag aZ 70);replace k8:=k8.alloc (ag aZ 70);have HQ:=ar (au hq (au gq (au jl (au hs hh))));have sQ:=ar Ej;clear hq gq jl hs hh Ej;go_enter Tryz.func170,Tryz.ntmps170
 go_upto_region 1 with fail
 generalize w.alloc (ag aZ 70)=w1 at *;obtain ⟨gb,mD⟩:∃ x,w.heap.size=x:=⟨_,rfl⟩;have nV:=ar (show w.heap.size=gb/\k.gp < gf/\gf < gb from ⟨mD,zT,zO⟩)
 rw [mD] at kb ia ⊢;clear mD;have pF:=ep.cell 0;have c8:=k8.cell 2;simp at pF c8;rw [sQ.out.1] at c8;have xu:=ep.lt;have l8:=k8.lt
 go_wp2_with fail
 (with_reducible refine (del_any th lo gf _ _ _ _ _ h HQ.out.2.2.1 HQ.out.2.2.2.1 zT HQ.out.2.2.2.2 kf HQ.out.1 HQ.out.2.1).mono ?_)
 rintro e w2 (⟨x,h1,rfl,h3⟩ | ⟨v,rfl,⟨o,z2,hf,rfl,hp⟩,dB⟩)
 ·exact ⟨rfl,.inl ⟨x,h1,rfl,aG.trans h3⟩⟩
 replace aG:=aG.trans dB;replace kb:=dB.ay kb (by have:=nV.out;omega) (by have:=nV.out;omega)
 have HF:=ar hf;clear h ep k8 pF c8 xu l8 dB hf
 go_wp2_with (refine aK rfl 70 (.tmp 2) (.tmp 6) rfl rfl gb (bu o.val o.is 0 (o.aH:Nat)) rfl rfl 70 aZ kb zK rfl (by simp [aD]) ?_)
 have lI:=hp.dR kb (by have:=nV.out;omega) (bu o.val o.is 0 (o.aH:Nat))
 replace kb:=kb.bL (bu o.val o.is 0 (o.aH:Nat));replace aG:=aG.row (b:=gb) (.inl (by have:=nV.out;omega)) (bu o.val o.is 0 (o.aH:Nat))
 exact aX (v:=.agg (bu o.val o.is 0 (o.aH:Nat))) (cb (p:=2) (ty:=70) rfl _ _ gb 70 _ (0,0) _ rfl kb aI rfl zK) rfl (.inr ⟨_,rfl,⟨_,_,HF.out,rfl,lI⟩,aG⟩)
end
end Go.Proofs.YtikdaeddbkopeaaGreatR.list
namespace Go.Proofs.YtikdaeddbkopeaaGreatR
open Go.RowKit
section
variable {P:Cn} {ops:Array Oper} {Q:Exit->Act->World->Prop} {md:Region.Mode} {S:World->Prop} {E:Nat->Bool}
def bq (tmp:Nat->Nat) (val:Nat->Option Value):List Nat->Act->Act
 | [],a=>a
 | i :: U,a=>bq tmp val U (match val i with | some v=>a.put (some (tmp i)) v | none=>a)
def dC (d:Nat->Bool):List Nat->Array Bool->Array Bool
 | [],l=>l
 | i :: U,l=>dC d U (if d i then l.setIfInBounds i true else l)
def upd (val:Nat->Option Value) (i:Nat) (v:Value):Nat->Option Value:=fun j=>if j=i then some v else val j
theorem KR (a:Act) (x y:Nat) (v u:Value) (dF:x≠y):(a.put (some x) v).put (some y) u=(a.put (some y) u).put (some x) v:=Act.put_comm a v u (fun d hd qE=>by injection hd with hd;injection qE with qE;omega)
theorem LU {tmp:Nat->Nat} {val:Nat->Option Value} {t:Nat} {v:Value}:∀ (U:List Nat) (a:Act),(∀ i∈U,tmp i≠t)->(bq tmp val U a).put (some t) v=bq tmp val U (a.put (some t) v):=by
 intro U
 induction U with
 | nil=>intro a _;rfl
 | cons i U ih=>
  intro a h;simp only [bq];rw [ih _ (fun j hj=>h j (by simp [hj]))]
  congr 1
  cases val i with
  | none=>rfl
  | some u=>exact KR a (tmp i) t u v (h i zS)
theorem D7 {tmp:Nat->Nat} {val dV:Nat->Option Value}:∀ (U:List Nat) (a:Act),(∀ i∈U,val i=dV i)->bq tmp val U a=bq tmp dV U a:=by
 intro U
 induction U with
 | nil=>intro a _;rfl
 | cons i U ih=>intro a h;simp only [bq];rw [h i zS];exact ih _ (fun j hj=>h j (by simp [hj]))
theorem Bb {tmp:Nat->Nat} {val:Nat->Option Value} {i:Nat} {v:Value}:∀ (U:List Nat) (a:Act),U.Nodup->(∀ j∈U,j≠i->tmp j≠tmp i)->i∈U->val i=none->(bq tmp val U a).put (some (tmp i)) v=bq tmp (upd val i v) U a:=by
 intro U
 induction U with
 | nil=>intro a _ _ hi;cases hi
 | cons k U ih=>
  intro a gu dF hi hv;obtain ⟨hk,gu⟩:=fy.1 gu
  by_cases e:k=i
  ·subst e;simp only [bq,hv];rw [LU U a (fun j hj=>dF j (by simp [hj]) (fun e=>hk (e ▸ hj)))]
   rw [show upd val k v k=some v from by simp [upd]]
   exact D7 U _ (fun j hj=>by simp [upd,show j≠k from fun e=>hk (e ▸ hj)])
  ·have hi':i∈U:=by rcases bD.1 hi with h | h;exact absurd h.symm e;exact h
   simp only [bq];rw [ih _ gu (fun j hj=>dF j (by simp [hj])) hi' hv,show upd val i v k=val k from by simp [upd,e]]
theorem K2 {d:Nat->Bool} {i:Nat}:∀ (U:List Nat) (l:Array Bool),(∀ j∈U,j≠i)->(dC d U l).setIfInBounds i true=dC d U (l.setIfInBounds i true):=by
 intro U
 induction U with
 | nil=>intro l _;rfl
 | cons k U ih=>
  intro l h;simp only [dC];rw [ih _ (fun j hj=>h j (by simp [hj]))]
  congr 1
  split
  ·exact Array.setIfInBounds_comm _ _ (h k zS)
  ·rfl
theorem rj {d d':Nat->Bool}:∀ (U:List Nat) (l:Array Bool),(∀ i∈U,d i=d' i)->dC d U l=dC d' U l:=by
 intro U
 induction U with
 | nil=>intro l _;rfl
 | cons i U ih=>intro l h;simp only [dC];rw [h i zS];exact ih _ (fun j hj=>h j (by simp [hj]))
theorem rX {d:Nat->Bool} {i:Nat}:∀ (U:List Nat) (l:Array Bool),U.Nodup->i∈U->d i=false->(dC d U l).setIfInBounds i true=dC (fun j=>j==i||d j) U l:=by
 intro U
 induction U with
 | nil=>intro l _ hi;cases hi
 | cons k U ih=>
  intro l gu hi hd;obtain ⟨hk,gu⟩:=fy.1 gu
  by_cases e:k=i
  ·subst e;simp only [dC,hd];rw [if_neg zS,K2 (i:=k) U l (fun j hj (e:j=k)=>hk (e ▸ hj)),if_pos zS]
   exact rj U _ (fun j hj=>by simp [show j≠k from fun e=>hk (e ▸ hj)])
  ·have hi':i∈U:=by rcases bD.1 hi with h | h;exact absurd h.symm e;exact h
   simp only [dC];rw [ih _ gu hi' hd]
   congr 1
   simp [e]
end
section
variable {P:Cn} {ops:Array Oper} {Q:Exit->Act->World->Prop} {md:Region.Mode} {S:World->Prop} {E:Nat->Bool}
theorem Cw {o:Oper} (hs:∀ cs b,o.op≠ .select cs b) {a a':Act} (he:∀ x∈o.op.operands,a'.eval x=a.eval x) {w:World} {Rv:Value->World->Prop} (hb:∀ t,o.dst=some t->t < a.tmps.size)
  (h:o.wp P a w (fun b w2=>∃ v,b=a.put o.dst v/\Rv v w2) (fun _ _ _=>False)) {K:Act->World->Prop} {Q:Exit->Act->World->Prop} (hK:∀ v w2,Rv v w2->K (a'.put o.dst v) w2):o.wp P a' w K Q:=by
 unfold Oper.wp at *;rw [execOp_congr o hs he];have It:∀ v,a.put o.dst undef=a.put o.dst v->a'.put o.dst undef=a'.put o.dst v:=by
  intro v hv
  cases hd:o.dst with
  | none=>rfl
  | some t=>
   rw [hd] at hv;have dN:=hb t hd;have:(a.put (some t) undef).tmps[t]? =(a.put (some t) v).tmps[t]?:=by rw [hv]
   simp only [Act.put] at this;rw [bV dN,bV dN] at this;injection this with this
   rw [this]
 generalize (Av a.eval o).run P w=r at *
 cases r with
 | ok n w'=>
  cases n <;> simp only [Oper.upon] at h ⊢
  case value u=>
   obtain ⟨v,hv,hR⟩:=h
   cases hd:o.dst with
   | none=>rw [hd] at hK;exact hK v _ hR
   | some t=>
    rw [hd] at hv hK;have dN:=hb t hd;have:(a.put (some t) u).tmps[t]? =(a.put (some t) v).tmps[t]?:=by rw [hv]
    simp only [Act.put] at this;rw [bV dN,bV dN] at this;injection this with this
    rw [this];exact hK v _ hR
  case skip=>
   obtain ⟨v,hv,hR⟩:=h;rw [It v hv];exact hK v _ hR
  case defer d=>
   obtain ⟨v,hv,hR⟩:=h;have:(({ a with defers:=d :: a.defers }:Act).put o.dst undef).defers=(a.put o.dst v).defers:=by rw [hv]
   exfalso
   cases hd:o.dst with
   | none=>rw [hd] at this;simp only [Act.put] at this;have:=congrArg List.length this;simp at this
   | some t=>rw [hd] at this;simp only [Act.put] at this;have:=congrArg List.length this;simp at this
  case enter f args=>
   refine Calls.mono h fun e w'' he=>?_
   cases e with
   | returned u=>
    obtain ⟨v,hv,hR⟩:=he
    cases hd:o.dst with
    | none=>rw [hd] at hK;exact hK v _ hR
    | some t=>
     rw [hd] at hv hK;have dN:=hb t hd;have:(a.put (some t) u).tmps[t]? =(a.put (some t) v).tmps[t]?:=by rw [hv]
     simp only [Act.put] at this;rw [bV dN,bV dN] at this;injection this with this
     rw [this];exact hK v _ hR
   | panicked c=>exact he.elim
   | outgrown=>exact absurd he (by simp [LetsOut])
  case row row args=>
   refine Rows.mono h fun u w'' he=>?_
   obtain ⟨v,hv,hR⟩:=he
   cases hd:o.dst with
   | none=>rw [hd] at hK;exact hK v _ hR
   | some t=>
    rw [hd] at hv hK;have dN:=hb t hd;have:(a.put (some t) u).tmps[t]? =(a.put (some t) v).tmps[t]?:=by rw [hv]
    simp only [Act.put] at this;rw [bV dN,bV dN] at this;injection this with this
    rw [this];exact hK v _ hR
 | halt x w'=>cases x <;> simp only [Oper.upon] at h ⊢ <;> first | exact h | exact h.elim
def xg (md:Region.Mode) (ops:Array Oper) (i j:Nat):Bool:=((ops[i]?).map fun o=>o.after.any fun e=>Region.binds md e&&e.on==j).getD false
def vh (md:Region.Mode) (ops:Array Oper):Nat->Nat->Nat->Bool
 | 0,i,j=>xg md ops i j
 | k+1,i,j=>xg md ops i j||(xF ops.size).any fun u=>xg md ops i u&&vh md ops k u j
def selB:Op->Bool
 | .select ..=>true
 | _=>false
def CO (U:List Nat) (tmp:Nat->Nat) (ps:List Nat):Operand->Bool
 | .tmp t=>ps.any (fun j=>tmp j==t)||U.all (fun j=>tmp j != t)
 | _=>true
def Ca (ops:Array Oper) (U:List Nat) (tmp:Nat->Nat):Option (Nat × Bool)->Bool
 | none=>true
 | some (g,_)=>U.all fun j=>decide ((ops[g]?).bind (·.dst)≠some (tmp j))
def DJ (md:Region.Mode) (ops:Array Oper) (bx:Array Bool) (U:List Nat) (tmp:Nat->Nat) (pre:Nat->List Nat) (tmps:Array Value):Bool:=
 bx.size==ops.size&&
 ((xF ops.size).all fun i=>!bx.getD i true||((ops[i]?).map fun o=>o.after.all fun e=>!Region.binds md e||bx.getD e.on false).getD true)&&
 ((xF ops.size).all fun i=>bx.getD i true||U.contains i||U.all fun u=>vh md ops 8 i u)&&
 (U.all fun i=>!bx.getD i true&&(((ops[i]?).map fun o=>(Eg o (yielded ops tmps)&&Ca ops U tmp o.guard)&&!selB o.op&&(decide (o.dst=some (tmp i)/\tmp i < tmps.size)||decide (o.dst=none/\tmps.size<=tmp i))&&(o.after.all fun e=>!Region.binds md e||bx.getD e.on false||(U.contains e.on&&decide (e.on < i)))
  &&o.op.operands.all (CO U tmp (pre i))).getD false)&&((pre i).all fun j=>U.contains j&&xg md ops i j)&&decide (pre i).Nodup&&decide (∀ j∈pre i,j≠i))&&
 (U.all fun i=>U.all fun j=>i==j||tmp i != tmp j)&&decide U.Nodup
theorem nO {i j:Nat} (h:xg md ops i j=true):∃ o,ops[i]? =some o/\∃ e∈o.after,Region.binds md e=true/\e.on=j:=by
 unfold xg at h
 cases ho:ops[i]? with
 | none=>rw [ho] at h;cases h
 | some o=>
  rw [ho] at h;simp only [Option.map_some,Option.getD_some] at h;obtain ⟨k,hk,nY⟩:=Array.any_eq_true.1 h;simp only [dq,beq_iff_eq] at nY;exact ⟨o,rfl,o.after[k],Array.getElem_mem hk,nY.1,nY.2⟩
def zN (md:Region.Mode) (ops:Array Oper) (ls:Array Bool):Prop:=∀ i o,ops[i]? =some o->ls.getD i true=true->∀ e∈o.after,Region.binds md e=true->ls.getD e.on false=true
theorem pw {ls:Array Bool} {i:Nat} (h:i < ls.size) (a b:Bool):ls.getD i a=ls.getD i b:=by simp [Array.getD,h]
theorem yu {ls:Array Bool} (hs:ls.size=ops.size) (hc:zN md ops ls):∀ (k i j:Nat),vh md ops k i j=true->(∀ o,ops[i]? =some o->∀ e∈o.after,Region.binds md e=true->ls.getD e.on false=true)->ls.getD j false=true:=by
 intro k
 induction k with
 | zero=>
  intro i j h hi;obtain ⟨o,ho,e,he,hb,rfl⟩:=nO h;exact hi o ho e he hb
 | succ k ih=>
  intro i j h hi;simp only [vh,Bool.or_eq_true,List.any_eq_true,List.mem_range,dq] at h;rcases h with h | ⟨u,hu,h1,h2⟩
  ·obtain ⟨o,ho,e,he,hb,rfl⟩:=nO h;exact hi o ho e he hb
  ·obtain ⟨o,ho,e,he,hb,rfl⟩:=nO h1;have hl:=hi o ho e he hb;exact ih e.on j h2 (fun o' oq=>hc e.on o' oq (by rw [pw zO true false];exact hl))
theorem yE {d:Nat->Bool}:∀ (U:List Nat) (l:Array Bool),(dC d U l).size=l.size:=by
 intro U
 induction U with
 | nil=>intro l;rfl
 | cons i U ih=>intro l;simp only [dC];rw [ih];split <;> simp
theorem AT {d:Nat->Bool} (x:Bool) (j:Nat):∀ (U:List Nat) (l:Array Bool),j < l.size->(dC d U l).getD j x=(l.getD j x||(U.contains j&&d j)):=by
 intro U
 induction U with
 | nil=>intro l _;simp [dC]
 | cons i U ih=>
  intro l hj;simp only [dC];rw [ih _ (by split <;> simpa using hj)]
  by_cases e:j=i
  ·subst e
   cases hd:d j with
   | true=>simp [Array.getD,hj]
   | false=>simp
  ·have e':i≠j:=fun q=>e q.symm
   have e2:(j==i)=false:=by simp [e]
   have e3:(if d i=true then l.setIfInBounds i true else l).getD j x=l.getD j x:=by
    cases d i with
    | true=>exact getD_set_ne x e'
    | false=>rfl
   rw [e3,List.contains_cons,e2,Bool.false_or]
theorem iK {tmp:Nat->Nat} {val:Nat->Option Value} {x:Operand}:∀ (U:List Nat) (a:Act),(∀ j∈U,x≠ .tmp (tmp j))->(bq tmp val U a).eval x=a.eval x:=by
 intro U
 induction U with
 | nil=>intro a _;rfl
 | cons i U ih=>
  intro a h;simp only [bq];rw [ih _ (fun j hj=>h j (by simp [hj]))]
  cases val i with
  | none=>rfl
  | some v=>exact Act.eval_put (fun d hd=>by injection hd with hd;subst hd;exact h i zS)
theorem gX {tmp:Nat->Nat} {val:Nat->Option Value}:∀ (U:List Nat) (a:Act),(bq tmp val U a).tmps.size=a.tmps.size:=by
 intro U
 induction U with
 | nil=>intro a;rfl
 | cons i U ih=>
  intro a;simp only [bq];rw [ih]
  cases val i with
  | none=>rfl
  | some v=>simp [Act.put]
theorem ux {a:Act} {t:Nat} (h:a.tmps.size<=t):a.eval (.tmp t)=undef:=by
 simp [Act.eval,Array.getD,Nat.not_lt.2 h]
theorem Am {a:Act} {t:Nat} {v:Value} (h:t < a.tmps.size):(a.put (some t) v).eval (.tmp t)=v:=by
 simp [Act.put,Act.eval,h]
theorem uD {tmp:Nat->Nat} {val:Nat->Option Value} {i:Nat} {v:Value}:∀ (U:List Nat) (a:Act),U.Nodup->(∀ j∈U,j≠i->tmp j≠tmp i)->i∈U->val i=some v->tmp i < a.tmps.size->(bq tmp val U a).eval (.tmp (tmp i))=v:=by
 intro U
 induction U with
 | nil=>intro a _ _ hi;cases hi
 | cons k U ih=>
  intro a gu dF hi hv dN;obtain ⟨hk,gu⟩:=fy.1 gu
  by_cases e:k=i
  ·subst e;simp only [bq,hv];rw [iK U _ (fun j hj q=>dF j (by simp [hj]) (fun e=>hk (e ▸ hj)) (by injection q with q;exact q.symm))]
   exact Am dN
  ·have hi':i∈U:=by rcases bD.1 hi with h | h;exact absurd h.symm e;exact h
   simp only [bq];refine ih _ gu (fun j hj=>dF j (by simp [hj])) hi' hv ?_
   cases val k with
   | none=>exact dN
   | some u=>simpa [Act.put] using dN
theorem Cx {i:Nat} {o:Oper} {K:Act->World->Prop} {a:Act} {w:World} (ho:ops[i]? =some o) (hw:Eg o (yielded ops a.tmps)=true) (h:o.wp P a w K Q):wpOp P ops Q i K a w:=by
 unfold wpOp;simp only [ho];rw [if_pos hw];exact .inl h
theorem tY {U:List Nat} {tmp:Nat->Nat} {val:Nat->Option Value} {o:Oper} (h:Ca ops U tmp o.guard=true) {a:Act}:Eg o (yielded ops (bq tmp val U a).tmps)=Eg o (yielded ops a.tmps):=by
 unfold Eg
 cases hg:o.guard with
 | none=>rfl
 | some gw=>
  obtain ⟨g,want⟩:=gw;rw [hg] at h;have bS:∀ j∈U,(ops[g]?).bind (·.dst)≠some (tmp j):=fun j hj=>of_decide_eq_true (dM.1 h j hj)
  have hy:∀ (V:List Nat) (a:Act),(∀ j∈V,(ops[g]?).bind (·.dst)≠some (tmp j))->yielded ops (bq tmp val V a).tmps g=yielded ops a.tmps g:=by
   intro V
   induction V with
   | nil=>intro a _;rfl
   | cons i V ih=>
    intro a hV;simp only [bq];rw [ih _ (fun j hj=>hV j (by simp [hj]))]
    cases val i with
    | none=>rfl
    | some v=>
     unfold yielded
     cases ht:(ops[g]?).bind (·.dst) with
     | none=>rfl
     | some t=>
      have dF:tmp i≠t:=fun e=>hV i zS (by rw [ht,e])
      simp [Act.put,Array.getElem?_setIfInBounds_ne dF]
  simp only [hy U a bS]
theorem ma {bx:Array Bool} {a:Act} {w:World} (U:List Nat) (tmp:Nat->Nat) (pre:Nat->List Nat) (T:World->Prop) (N:Nat->World->Prop) (G:Nat->World->World->Prop) (R:Nat->(Nat->Option Value)->Value->World->Prop)
  (bG:DJ md ops bx U tmp pre a.tmps=true) (hE:∀ i∈U,E i=false)
  (hS:∀ w1,T w1->S w1) (hT0:T w) (hT:∀ i∈U,∀ w1 w2,T w1->G i w1 w2->T w2) (hN0:∀ i∈U,N i w) (hN:∀ i∈U,∀ j∈U,i≠j->∀ w1 w2,T w1->N i w1->G j w1 w2->N i w2)
  (hR:∀ i∈U,∀ j∈U,i≠j->∀ val v u w1 w2,T w1->val i=some v->val j=none->(∀ p∈pre j,∃ x,val p=some x)->R i val v w1->G j w1 w2->R i (upd val j u) v w2)
  (gk:∀ i∈U,∀ o,ops[i]? =some o->∀ (val:Nat->Option Value) (w1:World) (K:Act->World->Prop),val i=none->T w1->N i w1->(∀ j∈pre i,∃ v,val j=some v/\R j val v w1)->
   (∀ v w2,R i (upd val i v) v w2->G i w1 w2->K ((bq tmp val (pre i) a).put (some (tmp i)) v) w2)->o.wp P (bq tmp val (pre i) a) w1 K (fun _ _ _=>False))
  (fuel:Nat) (h:∀ val w',(∀ i∈U,∃ v,val i=some v/\R i val v w')->T w'->eQ P md ops Q S E fuel (dC (fun i=>(val i).isSome) U bx) (bq tmp val U a) w'):
  eQ P md ops Q S E (fuel+U.length) bx a w:=by
 simp only [DJ,dq] at bG;obtain ⟨⟨⟨⟨⟨o1,o2⟩,o3⟩,o4⟩,o5⟩,o6⟩:=bG;have nX:bx.size=ops.size:=by simpa using o1
 have gu:U.Nodup:=of_decide_eq_true o6;have Je:∀ i∈U,∀ j∈U,j≠i->tmp j≠tmp i:=by
  intro i hi j hj dF e;have:=dM.1 (dM.1 o5 i hi) j hj;simp only [Bool.or_eq_true,beq_iff_eq,bne_iff_ne] at this;rcases this with h | h
  ·exact dF h.symm
  ·exact h e.symm
 have hu:∀ i∈U,bx.getD i true=false/\∃ o,ops[i]? =some o/\(Eg o (yielded ops a.tmps)=true/\Ca ops U tmp o.guard=true)/\(∀ cs b,o.op≠ .select cs b)/\((o.dst=some (tmp i)/\tmp i < a.tmps.size)\/(o.dst=none/\a.tmps.size<=tmp i))/\(∀ e∈o.after,Region.binds md e=true->bx.getD e.on false=true\/(e.on∈U/\e.on < i))/\
   (∀ x∈o.op.operands,∀ t,x= .tmp t->(∃ j∈pre i,tmp j=t)\/∀ j∈U,tmp j≠t)/\(∀ j∈pre i,j∈U/\xg md ops i j=true)/\(pre i).Nodup/\∀ j∈pre i,j≠i:=by
  intro i hi;have h:=dM.1 o4 i hi;simp only [dq,Bool.not_eq_true',decide_eq_true_eq] at h;obtain ⟨⟨⟨⟨h1,h2⟩,h3⟩,h4⟩,h5⟩:=h
  cases ho:ops[i]? with
  | none=>rw [ho] at h2;cases h2
  | some o=>
   rw [ho] at h2;simp only [Option.map_some,Option.getD_some,dq,Bool.or_eq_true,Bool.not_eq_true',decide_eq_true_eq] at h2;obtain ⟨⟨⟨⟨g1,g2⟩,g3⟩,g5⟩,g6⟩:=h2;refine ⟨h1,o,rfl,g1,(fun cs b e=>by rw [e] at g2;cases g2),g3,fun e he hb=>?_,fun x hx t ht=>?_,fun j hj=>?_,h4,h5⟩
   ·have:=(Array.all_eq_true_iff_forall_mem.1 g5) e he;simp only [hb,Bool.not_true,Bool.false_or,Bool.or_eq_true,dq,decide_eq_true_eq,List.contains_iff_mem] at this;exact this
   ·have Dm:CO U tmp (pre i) x=true:=by
     first | exact (dM.1 g6) x hx | exact (Array.all_eq_true_iff_forall_mem.1 g6) x hx
    subst ht;simp only [CO,Bool.or_eq_true,List.any_eq_true,beq_iff_eq,dM,bne_iff_ne] at Dm;exact Dm
   ·have:=dM.1 h3 j hj;simp only [dq,List.contains_iff_mem] at this;exact this
 have xc:zN md ops bx:=by
  intro i o ho hl e he hb;have dN:i < ops.size:=(bE.1 ho).1;have h:=dM.1 o2 i (List.mem_range.2 dN);rw [hl,ho] at h;simp only [Bool.not_true,Bool.false_or,Option.map_some,Option.getD_some] at h;have:=(Array.all_eq_true_iff_forall_mem.1 h) e he
  simpa [hb] using this
 have AZ:∀ i,i < ops.size->bx.getD i true=false->i ∉ U->∀ u∈U,vh md ops 8 i u=true:=by
  intro i hi hl hn u hu;have h:=dM.1 o3 i (List.mem_range.2 hi);rw [hl] at h;simp only [Bool.false_or,Bool.or_eq_true,List.contains_iff_mem,dM] at h;rcases h with h | h
  ·exact absurd h hn
  ·exact h u hu
 clear o1 o2 o3 o4 o5 o6;have main:∀ (k:Nat) (val:Nat->Option Value) (w1:World),(U.filter fun i=>(val i).isNone).length=k->T w1->zN md ops (dC (fun i=>(val i).isSome) U bx)->(∀ i∈U,∀ v,val i=some v->R i val v w1)->(∀ i∈U,val i=none->N i w1)->eQ P md ops Q S E (fuel+k) (dC (fun i=>(val i).isSome) U bx) (bq tmp val U a) w1:=by
  intro k
  induction k with
  | zero=>
   intro val w1 hk hTw jm hv hn;refine h val w1 (fun i hi=>?_) hTw
   cases e:val i with
   | some v=>exact ⟨v,rfl,hv i hi v e⟩
   | none=>
    have:=List.length_eq_zero_iff.1 hk;have hm:i∈U.filter fun i=>(val i).isNone:=List.mem_filter.2 ⟨hi,by simp [e]⟩
    rw [this] at hm
    cases hm
  | succ k ih=>
   intro val w1 hk hTw jm hv hn;have hls:(dC (fun i=>(val i).isSome) U bx).size=ops.size:=by rw [yE,nX]
   have vw:∀ x j,j < ops.size->(dC (fun i=>(val i).isSome) U bx).getD j x=(bx.getD j x||(U.contains j&&(val j).isSome)):=fun x j hj=>AT x j U bx zO
   refine ⟨fun h0=>?_,fun i hi=>?_⟩
   ·-- the least that is not done is ready
    exfalso
    have hex:∀ (m:Nat) (i:Nat),i < m->i∈U->val i=none->False:=by
     intro m
     induction m with
     | zero=>intro i hi;omega
     | succ m ihm=>
      intro i hi hU qD;obtain ⟨u1,o,ho,u2,u3,u4,u6,u7,u8⟩:=hu i hU;have dN:i < ops.size:=(bE.1 ho).1;have NT:i∈qy md ops (dC (fun i=>(val i).isSome) U bx):=by
       refine mem_ready.2 ⟨by rw [vw true i dN,u1,qD];simp,o,ho,fun e he hb=>?_⟩
       rcases u6 e he hb with h1 | ⟨h1,h2⟩
       ·have qJ:e.on < ops.size:=by
         rcases Nat.lt_or_ge e.on bx.size with q | q
         ·omega
         ·simp [Array.getD,Nat.not_lt.2 q] at h1
        rw [vw false e.on qJ,h1];rfl
       ·obtain ⟨v1,o',oq,_⟩:=hu e.on h1;have qJ:e.on < ops.size:=(bE.1 oq).1;rw [vw false e.on qJ]
        cases hve:val e.on with
        | none=>exact (ihm e.on zO h1 hve).elim
        | some v=>simp [h1]
      rw [h0] at NT
      cases NT
    have sJ:0 < (U.filter fun i=>(val i).isNone).length:=zO
    obtain ⟨i,hi⟩:=List.exists_mem_of_length_pos sJ;obtain ⟨h1,h2⟩:=List.mem_filter.1 hi;exact hex (i+1) i zO h1 (by simpa using h2)
   ·obtain ⟨I7,oi,Ek,bS⟩:=mem_ready.1 hi;have dN:i < ops.size:=(bE.1 Ek).1;rw [vw true i dN,Bool.or_eq_false_iff] at I7;have kY:i∈U:=by
     refine Aw fun uL=>?_
     have sJ:0 < (U.filter fun i=>(val i).isNone).length:=zO
     obtain ⟨u,Eh⟩:=List.exists_mem_of_length_pos sJ;obtain ⟨h1,h2⟩:=List.mem_filter.1 Eh;have hrb:=AZ i dN I7.1 uL u h1;have:=yu hls jm 8 i u hrb (fun o ho e he hb=>by
      rw [Ek] at ho;injection ho with ho
      subst ho;exact bS e he hb)
     obtain ⟨v1,o',oq,_⟩:=hu u h1;have qJ:u < ops.size:=(bE.1 oq).1;rw [vw false u qJ,pw zO false true,v1] at this;simp only [Bool.false_or,dq] at this
     cases hvu:val u with
     | none=>rw [hvu] at this;simp at this
     | some v=>rw [hvu] at h2;simp at h2
    have qD:val i=none:=by
     cases e:val i with
     | none=>rfl
     | some v=>rw [e] at I7;simp [kY] at I7
    obtain ⟨u1,o,ho,u2,u3,u4,u6,u7,u8,u9,u10⟩:=hu i kY;have cd:∀ j∈pre i,∃ v,val j=some v/\R j val v w1:=by
     intro j hj;obtain ⟨j1,j2⟩:=u8 j hj;obtain ⟨o',oq,e,he,hb,hon⟩:=nO j2;rw [Ek] at oq;injection oq with oq
     subst oq;have hl:=bS e he hb;obtain ⟨v1,o'',ho'',_⟩:=hu j j1;have qJ:j < ops.size:=(bE.1 ho'').1;rw [hon,vw false j qJ,pw zO false true,v1] at hl
     cases Ah:val j with
     | none=>rw [Ah] at hl;simp at hl
     | some v=>exact ⟨v,rfl,hv j j1 v Ah⟩
    have N8:∀ x∈o.op.operands,(bq tmp val U a).eval x=(bq tmp val (pre i) a).eval x:=by
     intro x hx
     by_cases hxt:∃ t,x= .tmp t
     ·obtain ⟨t,rfl⟩:=hxt;rcases u7 _ hx t rfl with ⟨j,hj,rfl⟩ | mT
      ·obtain ⟨v,Ah,_⟩:=cd j hj;have hjU:=(u8 j hj).1;obtain ⟨_,_,_,_,_,xa,_⟩:=hu j hjU;rcases xa with ⟨_,xa⟩ | ⟨_,xa⟩
       ·rw [uD U a gu (fun q hq dF=>Je j hjU q hq dF) hjU Ah xa,uD (pre i) a u9 (fun q hq dF=>Je j hjU q (u8 q hq).1 dF) hj Ah xa]
       ·rw [ux (by rw [gX];exact xa),ux (by rw [gX];exact xa)]
      ·rw [iK U a (fun j hj q=>mT j hj (by injection q with q;exact q.symm)),iK (pre i) a (fun j hj q=>mT j (u8 j hj).1 (by injection q with q;exact q.symm))]
     ·rw [iK U a (fun j hj q=>hxt ⟨_,q⟩),iK (pre i) a (fun j hj q=>hxt ⟨_,q⟩)]
    have BM:∀ (b:Act),b.tmps.size=a.tmps.size->∀ v,b.put o.dst v=b.put (some (tmp i)) v:=by
     intro b hb v;rcases u4 with ⟨e,_⟩ | ⟨e,hge⟩
     ·rw [e]
     ·rw [e];have:b.tmps.setIfInBounds (tmp i) v=b.tmps:=Array.setIfInBounds_eq_of_size_le zO;simp only [Act.put,this]
    have hwp:=gk i kY o ho val w1 (fun b w2=>∃ v,b=(bq tmp val (pre i) a).put o.dst v/\(R i (upd val i v) v w2/\G i w1 w2)) qD hTw (hn i kY qD) cd (fun v w2 hr hg=>⟨v,(BM _ (gX _ _) v).symm,hr,hg⟩)
    refine Cx ho (by rw [tY u2.2];exact u2.1) (Cw u3 N8 (fun t ht=>by rw [gX];rcases u4 with ⟨e,h5⟩ | ⟨e,_⟩ <;> (rw [e] at ht;first | (injection ht with ht;exact ht ▸ h5) | cases ht)) hwp fun v w2 ⟨hRv,hGv⟩=>?_)
    have hT2:=hT i kY w1 w2 hTw hGv;refine ⟨fun _ _=>hS _ hT2,?_⟩
    have hl:dC (fun j=>j==i||(val j).isSome) U bx=dC (fun j=>(upd val i v j).isSome) U bx:=rj U _ (fun j _=>by by_cases e:j=i <;> simp [upd,e])
    rw [BM _ (gX _ _) v,Bb U a gu (fun j hj dF=>Je i kY j hj dF) kY qD,rX U bx gu kY (by simp [qD]),hl]
    refine ih (upd val i v) w2 ?_ hT2 ?_ (fun j hj u xN=>?_) (fun j hj hnj=>?_)
    ·have Jh:∀ (U:List Nat),U.Nodup->i∈U->(U.filter fun j=>(upd val i v j).isNone).length+1=(U.filter fun j=>(val j).isNone).length:=by
      intro U
      induction U with
      | nil=>intro _ hi;cases hi
      | cons c U ih2=>
       intro gu hi;obtain ⟨hc,gu⟩:=fy.1 gu
       by_cases e:c=i
       ·subst e;have hs:U.filter (fun j=>(upd val c v j).isNone)=U.filter (fun j=>(val j).isNone):=List.filter_congr (fun j hj=>by simp [upd,show j≠c from fun e=>hc (e ▸ hj)])
        simp [upd,qD];rw [<- hs];rfl
       ·have hi':i∈U:=by rcases bD.1 hi with h | h;exact absurd h.symm e;exact h
        have:=ih2 gu hi';simp only [List.filter_cons,show upd val i v c=val c from by simp [upd,e]]
        split <;> simp_all
     have:=Jh U gu kY;omega
    ·rw [<- hl,<- rX U bx gu kY (by simp [qD])]
     intro j oj zQ hlj e he hb;have hltj:j < ops.size:=(bE.1 zQ).1
     by_cases ej:i=j
     ·subst ej;rw [Ek] at zQ;injection zQ with zQ
      subst zQ;exact getD_set_true (bS e he hb)
     ·rw [getD_set_ne true ej] at hlj;exact getD_set_true (jm j oj zQ hlj e he hb)
    ·by_cases e:j=i
     ·subst e;rw [show upd val j v j=some v from by simp [upd]] at xN
      injection xN with xN
      subst xN;exact hRv
     ·rw [show upd val i v j=val j from by simp [upd,e]] at xN
      exact hR j hj i kY e val u v w1 w2 hTw xN qD (fun p hp=>let ⟨x,hx,_⟩:=cd p hp;⟨x,hx⟩) (hv j hj u xN) hGv
    ·have e:j≠i:=by rintro rfl;simp [upd] at hnj
     rw [show upd val i v j=val j from by simp [upd,e]] at hnj
     exact hN j hj i kY e w1 w2 hTw (hn j hj hnj) hGv
 have yL:∀ (U:List Nat) (l:Array Bool),dC (fun i=>((fun _=>none:Nat->Option Value) i).isSome) U l=l:=by
  intro U
  induction U with
  | nil=>intro l;rfl
  | cons i U ih=>intro l;simp only [dC];exact ih l
 have BK:∀ (U:List Nat) (a:Act),bq tmp (fun _=>none) U a=a:=by
  intro U
  induction U with
  | nil=>intro a;rfl
  | cons i U ih=>intro a;simp only [bq];exact ih a
 have hlen:(U.filter fun i=>((fun _=>none:Nat->Option Value) i).isNone).length=U.length:=congrArg List.length (List.filter_eq_self.2 fun i _=>rfl)
 have:=main U.length (fun _=>none) w hlen hT0 (by rw [yL];exact xc) (fun i _ v e=>by cases e) (fun i hi _=>hN0 i hi)
 rw [yL,BK] at this;exact this
theorem gF {bx:Array Bool} {a:Act} {w:World} (U:List Nat) (tmp:Nat->Nat) (pre:Nat->List Nat) (R:Nat->(Nat->Option Value)->Value->World->Prop)
  (bG:DJ md ops bx U tmp pre a.tmps=true) (hE:∀ i∈U,E i=false) (hS:∀ w1,Below w.heap.size w w1->S w1)
  (hR:∀ i val dV v w1 w2,(∀ j u,val j=some u->dV j=some u)->Below w1.heap.size w1 w2->R i val v w1->R i dV v w2)
  (gk:∀ i∈U,∃ o,ops[i]? =some o/\∀ (val:Nat->Option Value) (w1:World) (K:Act->World->Prop),Below w.heap.size w w1->(∀ j∈pre i,∃ v,val j=some v/\R j val v w1)->
   (∀ v w2,R i val v w2->Below w1.heap.size w1 w2->K ((bq tmp val (pre i) a).put (some (tmp i)) v) w2)->o.wp P (bq tmp val (pre i) a) w1 K (fun _ _ _=>False))
  (fuel:Nat) (h:∀ val w',(∀ i∈U,∃ v,val i=some v/\R i val v w')->Below w.heap.size w w'->eQ P md ops Q S E fuel (dC (fun i=>(val i).isSome) U bx) (bq tmp val U a) w'):
  eQ P md ops Q S E (fuel+U.length) bx a w:=by
 have hup:∀ (val:Nat->Option Value) i u,val i=none->∀ j x,val j=some x->upd val i u j=some x:=by
  intro val i u hn j x hx;simp only [upd];split
  ·rename_i e;subst e;rw [hn] at hx;cases hx
  ·exact hx
 refine ma U tmp pre (fun w1=>Below w.heap.size w w1) (fun _ _=>True) (fun _ w1 w2=>Below w1.heap.size w1 w2) R bG hE hS (Below.refl _ _) (fun i _ w1 w2 h1 h2=>aF h1 h2) (fun _ _=>trivial) (fun _ _ _ _ _ _ _ _ _ _=>trivial)
  (fun i _ j _ _ val v u w1 w2 _ _ Ah _ hr hb=>hR i val _ v w1 w2 (hup val j u Ah) hb hr) (fun i hi o ho val w1 K hv hT _ cd hK=>?_) fuel h
 obtain ⟨o',oq,hw⟩:=gk i hi;rw [ho] at oq;injection oq with oq
 subst oq;exact hw val w1 K hT cd fun v w2 hr hb=>hK v w2 (hR i val _ v w2 w2 (hup val i v hv) (Below.refl _ _) hr) hb
end
end Go.Proofs.YtikdaeddbkopeaaGreatR
namespace Go.Proofs.YtikdaeddbkopeaaGreatR.list
open Go.RowKit
attribute [local go_sem ↓] aV aW
theorem df.reB {k:Pk} {z:Pz} {log:Log} {w:World} (h:df w k z log) {B:Nat} (hs:hH w B k.A log) (hb:B<=k.gp):df w { k with B:=B } z log:=
 ⟨h.kp,h.kv,h.kl,hs,h.ne,hb,h.le,h.mle,h.f⟩
def oJ (l:Ly) (q:An (dA × Pz)) (w:World) (e:lb) (w':World):Prop:=
 ((∃ a,q= .ask a/\e=ai (.tuple #[.agg (bj a.k (adr l a.c) a.o a.v),.agg aZ,ah false]))\/
  (∃ o z' gv,q= .fin (o,z')/\e=ai (.tuple #[.agg bW,.agg (br o.val o.is 0 (o.aH:Nat) gv),ah true])/\bN w' gv z'.gone))/\Below w.heap.size w w'
def lnT:Nat->Nat
 | 4=>33
 | 7=>36
 | 8=>37
 | _=>13
def lnP:Nat->List Nat
 | 7=>[4]
 | 8=>[7]
 | _=>[]
def lnR (l:Ly) (me B B4:Nat) (g:cG) (log:Log) (ob:Int) (i:Nat) (val:Nat->Option Value) (v:Value) (w:World):Prop:=
 if i=4 then ∃ k:Pk,v=ptr k.gp/\k.l=l/\k.me=me/\k.B=B/\B4<=k.gp/\df w k ⟨[0,0,0],g,0⟩ log
 else if i=7 then ∃ k:Pk,v= .agg (fdC k false 0 0 0 0 ob)/\k.l=l/\k.me=me/\k.B=B/\B4<=k.gp/\df w k ⟨[0,0,0],g,0⟩ log
 else if i=8 then ∃ (k:Pk) (gf:Nat),v=ptr gf/\Bk w gf 204 (fdC k false 0 0 0 0 ob)/\k.gp < gf/\k.l=l/\k.me=me/\k.B=B/\B4<=k.gp/\df w k ⟨[0,0,0],g,0⟩ log
 else ∃ g13,v=ptr g13/\B4<=g13/\Bk w g13 198 #[.pointer none]
theorem Nv {l:Ly} {me B B4:Nat} {g:cG} {log:Log} {ob:Int} (i:Nat) (val dV:Nat->Option Value) (v:Value) (w1 w2:World) (_:∀ j u,val j=some u->dV j=some u) (hb:Below w1.heap.size w1 w2) (h:lnR l me B B4 g log ob i val v w1):lnR l me B B4 g log ob i dV v w2:=by
 unfold lnR at h ⊢;split
 ·rename_i e;rw [if_pos e] at h;obtain ⟨k,h1,h2,h3,h4,h5,h6⟩:=h;exact ⟨k,h1,h2,h3,h4,h5,h6.ay hb⟩
 ·rename_i e;rw [if_neg e] at h;split
  ·rename_i e;rw [if_pos e] at h;obtain ⟨k,h1,h2,h3,h4,h5,h6⟩:=h;exact ⟨k,h1,h2,h3,h4,h5,h6.ay hb⟩
  ·rename_i e;rw [if_neg e] at h;split
   ·rename_i e;rw [if_pos e] at h;obtain ⟨k,gf,h1,h2,h3,h4,h5,h6,h7,h8⟩:=h;exact ⟨k,gf,h1,h2.ay hb,h3,h4,h5,h6,h7,h8.ay hb⟩
   ·rename_i e;rw [if_neg e] at h;obtain ⟨g13,h1,h2,h3⟩:=h;exact ⟨g13,h1,h2,h3.ay hb⟩
theorem lnext (l:Ly) (me:Nat) (lo:LOp) (op:Opr) (g:cG) (gv:Value) (A:Option Addr) (cap:Nat) (log:Log) (w:World) (f:dU l) (Ld:1<=l.c.aM/\l.c.aM<=8) (hh:lo.h<=9223372036854775807) (ho:op.obj=nodeAt l lo.h 0) (A1:0<=op.obj/\op.obj < l.size) (Ej:op.a=lo.o/\op.b=lo.v)
  (hk:op.kind=lo.kind) (nm:lo.kind=1\/lo.kind=2\/lo.kind=3) (hg:bN w gv g) (hs:hH w w.heap.size A log) (hl:log.length<=100000) (q:An (dA × Pz)) (hq:q=cS (2 * l.c.aM) me lo (dp lo g) log) (gq:q≠ .stuck) (oe:∀ o z',q= .fin (o,z')->z'.gone.length<=1000):
  Calls aw 125 #[lyV l,aa ab me,gv,.agg (eg op),.slice A log.length cap] w (oJ l q w):=by
 obtain ⟨G,gc,rfl,hN,qP⟩:=hg;have HG:=ar (show bN w (.slice G g.length gc) g from ⟨G,gc,rfl,hN,qP⟩)
 have HA:=ar (au f (au hs (au hl (au Ld hh))));have HQ:=ar (au hq (au gq oe));have sQ:=ar (au ho (au Ej (au hk nm)));have k0:=(((Bk.made w 34 (lyC l)).alloc (ag (eg op) 54)).alloc (ag bW 67)).alloc (ag aZ 70);have k1:=((Bk.new (w.alloc (ag (lyC l) 34)) (g:=w.heap.size+1) zS 54 (eg op)).alloc (ag bW 67)).alloc (ag aZ 70);have k2:=(Bk.new ((w.alloc (ag (lyC l) 34)).alloc (ag (eg op) 54)) (g:=w.heap.size+1+1) zS 67 bW).alloc (ag aZ 70);have k3:=Bk.new (((w.alloc (ag (lyC l) 34)).alloc (ag (eg op) 54)).alloc (ag bW 67)) (g:=w.heap.size+1+1+1) zS 70 aZ;have bz:=aB (aB (aB (aB (Below.refl w.heap.size w) (ag (lyC l) 34)) (ag (eg op) 54)) (ag bW 67)) (ag aZ 70);have jG:decide (op.obj < 0)=false:=by simp;omega
 have mw:decide (l.size<=op.obj)=false:=by simp;omega
 have mI:decide (op.obj>=l.size)=false:=by simp;omega
 clear f Ld hh ho A1 Ej hk nm hs hl hq gq oe hN qP;go_enter Tryz.func125,Tryz.ntmps125
 go_upto_region 1 with fail
 generalize (((w.alloc (ag (lyC l) 34)).alloc (ag (eg op) 54)).alloc (ag bW 67)).alloc (ag aZ 70)=w4 at *;obtain ⟨b0,h0⟩:∃ x,w.heap.size=x:=⟨_,rfl⟩;have HW:=ar h0;rw [h0] at k0 k1 k2 k3 ⊢;clear h0;obtain ⟨b1,h1⟩:∃ x,b0+1=x:=⟨_,rfl⟩;obtain ⟨b2,h2⟩:∃ x,b1+1=x:=⟨_,rfl⟩;obtain ⟨b3,h3⟩:∃ x,b2+1=x:=⟨_,rfl⟩;rw [h1] at k1;rw [h1,h2] at k2;rw [h1,h2,h3] at k3 ⊢;have z1:b0 < b1:=zO;have z2:b1 < b2:=zO;have z3:b2 < b3:=zO;clear h1 h2 h3;have c1:=k1.cell 1;have c24:=k0.cell 24;simp at c1 c24;have l1:=k1.lt;have l0:=k0.lt
 go_upto_region 3 with fail
 clear c1 c24 l1 l0 jG mw mI;refine aP (S:=fun w'=>Bk w' b0 34 (lyC l)/\Bk w' b1 54 (eg op)) (E:=fun _=>false) zK ?_
 replace k0:=k0.drew;replace k1:=k1.drew;replace k2:=k2.drew;replace k3:=k3.drew;replace bz:=bz.drew;generalize w4.drew=w5 at *;refine wTk 6 [(0,29,lyV l),(1,30,aa ab me),(2,31,.slice G g.length gc),(3,32,.slice A log.length cap),(5,34,ae (some ⟨b1,1,none⟩)),(6,35,aa ab op.obj)] ?_ ⟨k0,k1⟩ ?_
 ·intro w' hS;have fg:(dr 34 ⟨b0,0,none⟩).run aw w'= .ok (lyV l) w':=be w' b0 34 34 (lyC l) (0,0) _ hS.1 aJ rfl zK;have c1:=hS.2.cell 1;simp at c1
  (repeat' (first | exact aC | refine au ⟨_,rfl,.inl ⟨rfl,?_⟩⟩ ?_))
  all_goals first | exact bI rfl rfl fg | ((try simp only [aq,ao,an,Act.put,aj,ak,al]);go_simp;done)
 simp only [aR,Act.put,aj,ak,al];have nX:w.heap.size<=w5.heap.size:=bz.size;have HB5:=ar bz;have lb3:=k3.lt;obtain ⟨ob,A1⟩:∃ x,op.obj=x:=⟨_,rfl⟩;have HOB:=ar (show nodeAt l lo.h 0=ob from sQ.out.1.symm.trans A1)
 rw [A1];clear A1;refine gF (U:=[4,7,8,9]) (tmp:=lnT) (pre:=lnP) (R:=lnR l me w.heap.size w5.heap.size g log ob) zK (fun _ _=>rfl) (fun w2 h=>⟨k0.ay h,k1.ay h⟩) Nv (fun i hi=>?_) 1 (fun val w7 bS jc=>?_)
 ·simp only [bD,cB,or_false] at hi;rcases hi with rfl | rfl | rfl | rfl
  ·refine ⟨_,rfl,fun val w2 K cY cd hK=>?_⟩
   simp only [lnP,bq] at hK ⊢;go_simp;have hb:=aF HB5.out cY;have hG6:bN w2 (.slice G g.length gc) g:=HG.out.ay hb;have BS:hH w2 w.heap.size A log:=HA.out.2.1.below hb;have hS6:hH w2 w2.heap.size A log:=BS.more hb.size
   (with_reducible refine (yA l me _ g A cap log w2 HA.out.1 hG6 hS6 HA.out.2.2.1).mono ?_)
   rintro e w8 ⟨rfl,hp,pQ⟩;exact hK _ _ ⟨{ lA w2 l me A cap with B:=w.heap.size },rfl,rfl,rfl,rfl,by have:=cY.size;unfold lA;dsimp only;omega,hp.reB (BS.below (pQ.mono hb.size)) (by have:=hb.size;unfold lA;dsimp only;omega)⟩ pQ
  ·refine ⟨_,rfl,fun val w2 K cY cd hK=>?_⟩
   obtain ⟨v,e,k,rfl,r1,r2,r3,r4,r5⟩:=cd 4 (by simp [lnP])
   simp only [lnP,bq,e,lnT] at hK ⊢;go_simp;exact hK _ _ ⟨k,rfl,r1,r2,r3,r4,r5⟩ (Below.refl _ _)
  ·refine ⟨_,rfl,fun val w2 K cY cd hK=>?_⟩
   obtain ⟨v,e,k,rfl,r1,r2,r3,r4,r5⟩:=cd 7 (by simp [lnP])
   simp only [lnP,bq,e,lnT] at hK ⊢;go_simp;exact hK _ _ ⟨k,_,rfl,Bk.made _ _ _,r5.lt,r1,r2,r3,r4,r5.ay (aB (Below.refl _ _) _)⟩ (aB (Below.refl _ _) _)
  ·refine ⟨_,rfl,fun val w2 K cY cd hK=>?_⟩
   simp only [lnP,bq] at hK ⊢;go_simp;exact hK _ _ ⟨_,rfl,cY.size,Bk.made _ _ _⟩ (aB (Below.refl _ _) _)
 obtain ⟨v4,e4,-⟩:=bS 4 zS;obtain ⟨v7,e7,-⟩:=bS 7 zS;obtain ⟨v8,e8,k,gf,rfl,kf,zT,r1,r2,r3,r4,hp⟩:=bS 8 zS;obtain ⟨v9,e9,jJ,rfl,hb13,ep⟩:=bS 9 zS;replace k0:=k0.ay jc;replace k1:=k1.ay jc;replace k2:=k2.ay jc;replace k3:=k3.ay jc;replace bz:=aF bz jc;simp only [lnT,bq,dC,e4,e7,e8,e9,gQ,if_true];clear bS e4 e7 e8 e9 jc;have hn13:gf≠jJ:=kf.typ ep zD;have fU:=ar (show k.l=l/\k.me=me/\k.B=w.heap.size/\b3 < w5.heap.size/\w5.heap.size<=k.gp/\k.gp < gf/\w5.heap.size<=jJ/\w.heap.size<=w5.heap.size/\gf≠jJ/\k.gp≠jJ from ⟨r1,r2,r3,lb3,r4,zT,hb13,nX,hn13,by obtain ⟨_,_,_,_,hb,-⟩:=hp.kp;exact hb.typ ep zD⟩)
 have pF:=ep.cell 0;have f13:=ep.free 0;have xu:=ep.lt;simp at pF;clear r1 r2 r3 r4 zT hb13 nX lb3 hn13;refine aE (i:=10) (o:=_) zK rfl (fun KK hK=>?_)
 (try simp only [aq,ao,an,Act.put,aj,ak,al])
 go_simp;replace hp:=hp.rB ep (by have:=fU.out;omega) zD 0 (ptr gf)
 replace kf:=kf.other (p:=⟨jJ,0,none⟩) (by have:=fU.out;dsimp only;omega) (ptr gf)
 replace k0:=k0.other (p:=⟨jJ,0,none⟩) (by have:=fU.out;dsimp only;omega) (ptr gf)
 replace k1:=k1.other (p:=⟨jJ,0,none⟩) (by have:=fU.out;dsimp only;omega) (ptr gf)
 replace k2:=k2.other (p:=⟨jJ,0,none⟩) (by have:=fU.out;dsimp only;omega) (ptr gf)
 replace k3:=k3.other (p:=⟨jJ,0,none⟩) (by have:=fU.out;dsimp only;omega) (ptr gf)
 replace bz:=bK bz (p:=⟨jJ,0,none⟩) (by have:=fU.out;dsimp only;omega) (ptr gf)
 replace ep:Bk (w7.setCell ⟨jJ,0,none⟩ (ptr gf)) jJ 198 #[ptr gf]:=ep.stored 0 (ptr gf);clear pF f13 xu;generalize w7.setCell ⟨jJ,0,none⟩ (ptr gf)=w8 at *;refine hK.out _ _ (fun _=>⟨k0,k1⟩) ?_
 clear hK KK k0
 (try simp only [Act.put,aj,ak,al])
 refine aN zK ?_ _;have c0:=k1.cell 0;simp at c0;have l1:=k1.lt;rcases sQ.out.2.2.2 with hk1 | nY | El
 ·have mw:(op.kind==1)=true:=by rw [sQ.out.2.2.1,hk1];rfl
  have mI:(op.kind==2)=false:=by rw [sQ.out.2.2.1,hk1];rfl
  have hz3:(op.kind==3)=false:=by rw [sQ.out.2.2.1,hk1];rfl
  have gK:=ar (show q=fM (2 * l.c.aM) k.me lo (.sub (.g1 0 (.nd lo.h 0)) (.fh .get)) ⟨[0,0,0],g,0⟩ (log.drop 0) by
   rw [HQ.out.1];unfold dp;rw [hk1,fU.out.2.1];rfl)
  clear hk1
  go_upto_region 6 with fail
  clear c0 l1 mw mI hz3;have pF:=ep.cell 0;have xu:=ep.lt;have cf:=kf.cell 0;have lf:=kf.lt;simp at pF cf;have Dv:∀ (fn:Fn) (first cap:Array Value) (w:World),(kZ fn first cap).run aw w= .ok (.func fn first cap) w:=fun _ _ _ _=>rfl
  have HB:=ar (au bz (au k2 k3));have xC:=ar (cL.aS k.gp gf bz);have HC:=ar (au hp (au kf (au ep k1)));have A1:ob=nodeAt k.l lo.h 0:=by rw [fU.out.1];exact HOB.out.symm
  go_wp2_with fail
  have lH:=q9 (k:=k) (z:=⟨[0,0,0],g,0⟩) (log:=log) q (fun val is aH z'=>∃ o,q= .fin (o,z')/\val=o.val/\is=o.is/\aH=(o.aH:Nat)) 166 #[ptr jJ,ptr b1] gf w8 lf HC.out.1 (by intro w;simp [go_sem]) (fun val is aH z' hT=>by obtain ⟨o,h,-⟩:=hT;exact HQ.out.2.2 _ _ h)
   (fun w2 h2=>(vn (2 * l.c.aM) lo op gf jJ b1 (HC.out.1.ay h2) (by rw [fU.out.1]) (by rw [fU.out.1];exact HA.out.2.2.2.1) fU.out.2.2.2.2.2.1 HA.out.2.2.2.2 (by rw [<- A1];exact HC.out.2.1.ay h2) (HC.out.2.2.1.ay h2) (HC.out.2.2.2.ay h2) sQ.out.2.1 gK.out HQ.out.2.1).mono
    fun e w3 hh=>by
     rcases hh with ⟨a,h1,h2,h3⟩ | ⟨v,h1,⟨o,z',h2,h3,h4⟩,h5⟩
     ·exact .inl ⟨a,h1,h2,h3⟩
     ·exact .inr ⟨v,h1,⟨_,_,_,z',⟨o,h2,rfl,rfl,rfl⟩,h3,h4⟩,h5⟩)
  clear pF xu cf lf kf ep k1 hp bz k2 k3
  (with_reducible refine lH.mono ?_)
  rintro e tZ ⟨fI,aG⟩;obtain ⟨iX,iR,iQ,iW,dV,is,er,pt,rG,rn,rc,dn,rfl,gW⟩:∃ c0 c1 c2 c3 val is er pt rG rn rc dn,e=ai (.tuple #[.agg (bj c0 c1 c2 c3),.agg (br val is er pt (.slice rG rn rc)),.bool dn])/\∀ w':World,(∀ gg,bN tZ (.slice rG rn rc) gg->bN w' (.slice rG rn rc) gg)->Below w.heap.size w w'->oJ l q w (ai (.tuple #[.agg (bj c0 c1 c2 c3),.agg (br val is er pt (.slice rG rn rc)),.bool dn])) w':=by
   rcases fI with ⟨x,hx,rfl⟩ | ⟨val,is,aH,z',gv,⟨o,hT,rfl,rfl,rfl⟩,rfl,jQ⟩
   ·exact ⟨_,_,_,_,_,_,_,_,_,_,_,_,rfl,fun w' _ hb=>⟨.inl ⟨x,hx,by rw [fU.out.1]⟩,hb⟩⟩
   ·obtain ⟨rG,rc,rfl,r1,r2⟩:=jQ;exact ⟨_,_,_,_,_,_,_,_,_,_,_,_,rfl,fun w' hk hb=>⟨.inr ⟨o,z',_,hT,rfl,hk _ ⟨rG,rc,rfl,r1,r2⟩⟩,hb⟩⟩
  have HF:=ar gW;have k2:=aG.ay HB.out.2.1 (by have:=fU.out;omega) (by have:=fU.out;omega)
  have k3:=aG.ay HB.out.2.2 (by have:=fU.out;omega) (by have:=fU.out;omega)
  have nM:=xC.out.trans aG;clear fI gW aG lH A1
  go_wp2_with (first
   | (refine aK rfl 67 (.tmp 10) (.tmp 48) rfl rfl b2 (bj iX iR iQ iW) rfl rfl 67 bW k2 zK rfl (by simp [aD]) ?_)
   | (refine aK rfl 70 (.tmp 11) (.tmp 49) rfl rfl b3 (br dV is er pt (.slice rG rn rc)) rfl rfl 70 aZ (k3.a7 (b:=b2) zO (bj iX iR iQ iW)) zK rfl (by simp [aD]) ?_))
  have sX:=k3.a7 (b:=b2) zO (bj iX iR iQ iW);have Ag:=(k2.bL (bj iX iR iQ iW)).a7 (b:=b3) zO (br dV is er pt (.slice rG rn rc));have Af:=sX.bL (br dV is er pt (.slice rG rn rc));have nk:=(nM.row (b:=b2) (.inl (by rw [HW.out];omega)) (bj iX iR iQ iW)).row (b:=b3) (.inl (by rw [HW.out];omega)) (br dV is er pt (.slice rG rn rc))
  exact aX (v:=.tuple #[.agg (bj iX iR iQ iW),.agg (br dV is er pt (.slice rG rn rc)),.bool dn]) (eH (p:=10) (q:=11) (t:=12) (t1:=67) (t2:=70) rfl _ _ b2 b3 _ _ (0,0) (0,0) _ _ _ rfl rfl rfl Ag Af bU rfl zK aI rfl zK) rfl
   (HF.out _ (fun gg hg=>(hg.row k2 zD _).row sX zD _) (nk.part (by have:=fU.out;omega) (by have:=fU.out;omega) (az _)))
 ·have mw:(op.kind==1)=false:=by rw [sQ.out.2.2.1,nY];rfl
  have mI:(op.kind==2)=true:=by rw [sQ.out.2.2.1,nY];rfl
  have hz3:(op.kind==3)=false:=by rw [sQ.out.2.2.1,nY];rfl
  have gK:=ar (show q=fM (2 * l.c.aM) k.me lo (.sub (.g1 0 (.nd lo.h 0)) (.fh (.put 0))) ⟨[0,0,0],g,0⟩ (log.drop 0) by
   rw [HQ.out.1];unfold dp;rw [nY,fU.out.2.1];rfl)
  clear nY
  go_upto_region 8 with fail
  clear c0 l1 mw mI hz3;have pF:=ep.cell 0;have xu:=ep.lt;have cf:=kf.cell 0;have lf:=kf.lt;simp at pF cf;have Dv:∀ (fn:Fn) (first cap:Array Value) (w:World),(kZ fn first cap).run aw w= .ok (.func fn first cap) w:=fun _ _ _ _=>rfl
  have HB:=ar (au bz (au k2 k3));have xC:=ar (cL.aS k.gp gf bz);have HC:=ar (au hp (au kf (au ep k1)));have A1:ob=nodeAt k.l lo.h 0:=by rw [fU.out.1];exact HOB.out.symm
  go_wp2_with fail
  have lH:=q9 (k:=k) (z:=⟨[0,0,0],g,0⟩) (log:=log) q (fun val is aH z'=>∃ o,q= .fin (o,z')/\val=o.val/\is=o.is/\aH=(o.aH:Nat)) 168 #[ptr jJ,ptr b1] gf w8 lf HC.out.1 (by intro w;simp [go_sem]) (fun val is aH z' hT=>by obtain ⟨o,h,-⟩:=hT;exact HQ.out.2.2 _ _ h)
   (fun w2 h2=>(KZ (2 * l.c.aM) lo op gf jJ b1 (HC.out.1.ay h2) (by rw [fU.out.1]) (by rw [fU.out.1];exact HA.out.2.2.2.1) fU.out.2.2.2.2.2.1 HA.out.2.2.2.2 (by rw [<- A1];exact HC.out.2.1.ay h2) (HC.out.2.2.1.ay h2) (HC.out.2.2.2.ay h2) sQ.out.2.1 gK.out HQ.out.2.1).mono
    fun e w3 hh=>by
     rcases hh with ⟨a,h1,h2,h3⟩ | ⟨v,h1,⟨o,z',h2,h3,h4⟩,h5⟩
     ·exact .inl ⟨a,h1,h2,h3⟩
     ·exact .inr ⟨v,h1,⟨_,_,_,z',⟨o,h2,rfl,rfl,rfl⟩,h3,h4⟩,h5⟩)
  clear pF xu cf lf kf ep k1 hp bz k2 k3
  (with_reducible refine lH.mono ?_)
  rintro e tZ ⟨fI,aG⟩;obtain ⟨iX,iR,iQ,iW,dV,is,er,pt,rG,rn,rc,dn,rfl,gW⟩:∃ c0 c1 c2 c3 val is er pt rG rn rc dn,e=ai (.tuple #[.agg (bj c0 c1 c2 c3),.agg (br val is er pt (.slice rG rn rc)),.bool dn])/\∀ w':World,(∀ gg,bN tZ (.slice rG rn rc) gg->bN w' (.slice rG rn rc) gg)->Below w.heap.size w w'->oJ l q w (ai (.tuple #[.agg (bj c0 c1 c2 c3),.agg (br val is er pt (.slice rG rn rc)),.bool dn])) w':=by
   rcases fI with ⟨x,hx,rfl⟩ | ⟨val,is,aH,z',gv,⟨o,hT,rfl,rfl,rfl⟩,rfl,jQ⟩
   ·exact ⟨_,_,_,_,_,_,_,_,_,_,_,_,rfl,fun w' _ hb=>⟨.inl ⟨x,hx,by rw [fU.out.1]⟩,hb⟩⟩
   ·obtain ⟨rG,rc,rfl,r1,r2⟩:=jQ;exact ⟨_,_,_,_,_,_,_,_,_,_,_,_,rfl,fun w' hk hb=>⟨.inr ⟨o,z',_,hT,rfl,hk _ ⟨rG,rc,rfl,r1,r2⟩⟩,hb⟩⟩
  have HF:=ar gW;have k2:=aG.ay HB.out.2.1 (by have:=fU.out;omega) (by have:=fU.out;omega)
  have k3:=aG.ay HB.out.2.2 (by have:=fU.out;omega) (by have:=fU.out;omega)
  have nM:=xC.out.trans aG;clear fI gW aG lH A1
  go_wp2_with (first
   | (refine aK rfl 67 (.tmp 10) (.tmp 59) rfl rfl b2 (bj iX iR iQ iW) rfl rfl 67 bW k2 zK rfl (by simp [aD]) ?_)
   | (refine aK rfl 70 (.tmp 11) (.tmp 60) rfl rfl b3 (br dV is er pt (.slice rG rn rc)) rfl rfl 70 aZ (k3.a7 (b:=b2) zO (bj iX iR iQ iW)) zK rfl (by simp [aD]) ?_))
  have sX:=k3.a7 (b:=b2) zO (bj iX iR iQ iW);have Ag:=(k2.bL (bj iX iR iQ iW)).a7 (b:=b3) zO (br dV is er pt (.slice rG rn rc));have Af:=sX.bL (br dV is er pt (.slice rG rn rc));have nk:=(nM.row (b:=b2) (.inl (by rw [HW.out];omega)) (bj iX iR iQ iW)).row (b:=b3) (.inl (by rw [HW.out];omega)) (br dV is er pt (.slice rG rn rc))
  exact aX (v:=.tuple #[.agg (bj iX iR iQ iW),.agg (br dV is er pt (.slice rG rn rc)),.bool dn]) (eH (p:=10) (q:=11) (t:=12) (t1:=67) (t2:=70) rfl _ _ b2 b3 _ _ (0,0) (0,0) _ _ _ rfl rfl rfl Ag Af bU rfl zK aI rfl zK) rfl
   (HF.out _ (fun gg hg=>(hg.row k2 zD _).row sX zD _) (nk.part (by have:=fU.out;omega) (by have:=fU.out;omega) (az _)))
 ·have mw:(op.kind==1)=false:=by rw [sQ.out.2.2.1,El];rfl
  have mI:(op.kind==2)=false:=by rw [sQ.out.2.2.1,El];rfl
  have hz3:(op.kind==3)=true:=by rw [sQ.out.2.2.1,El];rfl
  have gK:=ar (show q=fM (2 * l.c.aM) k.me lo (.sub (.g1 0 (.nd lo.h 0)) (.fh .del)) ⟨[0,0,0],g,0⟩ (log.drop 0) by
   rw [HQ.out.1];unfold dp;rw [El,fU.out.2.1];rfl)
  clear El
  go_upto_region 10 with fail
  clear c0 l1 mw mI hz3;have pF:=ep.cell 0;have xu:=ep.lt;have cf:=kf.cell 0;have lf:=kf.lt;simp at pF cf;have Dv:∀ (fn:Fn) (first cap:Array Value) (w:World),(kZ fn first cap).run aw w= .ok (.func fn first cap) w:=fun _ _ _ _=>rfl
  have HB:=ar (au bz (au k2 k3));have xC:=ar (cL.aS k.gp gf bz);have HC:=ar (au hp (au kf (au ep k1)));have A1:ob=nodeAt k.l lo.h 0:=by rw [fU.out.1];exact HOB.out.symm
  go_wp2_with fail
  have lH:=q9 (k:=k) (z:=⟨[0,0,0],g,0⟩) (log:=log) q (fun val is aH z'=>∃ o,q= .fin (o,z')/\val=o.val/\is=o.is/\aH=(o.aH:Nat)) 170 #[ptr jJ,ptr b1] gf w8 lf HC.out.1 (by intro w;simp [go_sem]) (fun val is aH z' hT=>by obtain ⟨o,h,-⟩:=hT;exact HQ.out.2.2 _ _ h)
   (fun w2 h2=>(KY (2 * l.c.aM) lo op gf jJ b1 (HC.out.1.ay h2) (by rw [fU.out.1]) (by rw [fU.out.1];exact HA.out.2.2.2.1) fU.out.2.2.2.2.2.1 HA.out.2.2.2.2 (by rw [<- A1];exact HC.out.2.1.ay h2) (HC.out.2.2.1.ay h2) (HC.out.2.2.2.ay h2) sQ.out.2.1 gK.out HQ.out.2.1).mono
    fun e w3 hh=>by
     rcases hh with ⟨a,h1,h2,h3⟩ | ⟨v,h1,⟨o,z',h2,h3,h4⟩,h5⟩
     ·exact .inl ⟨a,h1,h2,h3⟩
     ·exact .inr ⟨v,h1,⟨_,_,_,z',⟨o,h2,rfl,rfl,rfl⟩,h3,h4⟩,h5⟩)
  clear pF xu cf lf kf ep k1 hp bz k2 k3
  (with_reducible refine lH.mono ?_)
  rintro e tZ ⟨fI,aG⟩;obtain ⟨iX,iR,iQ,iW,dV,is,er,pt,rG,rn,rc,dn,rfl,gW⟩:∃ c0 c1 c2 c3 val is er pt rG rn rc dn,e=ai (.tuple #[.agg (bj c0 c1 c2 c3),.agg (br val is er pt (.slice rG rn rc)),.bool dn])/\∀ w':World,(∀ gg,bN tZ (.slice rG rn rc) gg->bN w' (.slice rG rn rc) gg)->Below w.heap.size w w'->oJ l q w (ai (.tuple #[.agg (bj c0 c1 c2 c3),.agg (br val is er pt (.slice rG rn rc)),.bool dn])) w':=by
   rcases fI with ⟨x,hx,rfl⟩ | ⟨val,is,aH,z',gv,⟨o,hT,rfl,rfl,rfl⟩,rfl,jQ⟩
   ·exact ⟨_,_,_,_,_,_,_,_,_,_,_,_,rfl,fun w' _ hb=>⟨.inl ⟨x,hx,by rw [fU.out.1]⟩,hb⟩⟩
   ·obtain ⟨rG,rc,rfl,r1,r2⟩:=jQ;exact ⟨_,_,_,_,_,_,_,_,_,_,_,_,rfl,fun w' hk hb=>⟨.inr ⟨o,z',_,hT,rfl,hk _ ⟨rG,rc,rfl,r1,r2⟩⟩,hb⟩⟩
  have HF:=ar gW;have k2:=aG.ay HB.out.2.1 (by have:=fU.out;omega) (by have:=fU.out;omega)
  have k3:=aG.ay HB.out.2.2 (by have:=fU.out;omega) (by have:=fU.out;omega)
  have nM:=xC.out.trans aG;clear fI gW aG lH A1
  go_wp2_with (first
   | (refine aK rfl 67 (.tmp 10) (.tmp 70) rfl rfl b2 (bj iX iR iQ iW) rfl rfl 67 bW k2 zK rfl (by simp [aD]) ?_)
   | (refine aK rfl 70 (.tmp 11) (.tmp 71) rfl rfl b3 (br dV is er pt (.slice rG rn rc)) rfl rfl 70 aZ (k3.a7 (b:=b2) zO (bj iX iR iQ iW)) zK rfl (by simp [aD]) ?_))
  have sX:=k3.a7 (b:=b2) zO (bj iX iR iQ iW);have Ag:=(k2.bL (bj iX iR iQ iW)).a7 (b:=b3) zO (br dV is er pt (.slice rG rn rc));have Af:=sX.bL (br dV is er pt (.slice rG rn rc));have nk:=(nM.row (b:=b2) (.inl (by rw [HW.out];omega)) (bj iX iR iQ iW)).row (b:=b3) (.inl (by rw [HW.out];omega)) (br dV is er pt (.slice rG rn rc))
  exact aX (v:=.tuple #[.agg (bj iX iR iQ iW),.agg (br dV is er pt (.slice rG rn rc)),.bool dn]) (eH (p:=10) (q:=11) (t:=12) (t1:=67) (t2:=70) rfl _ _ b2 b3 _ _ (0,0) (0,0) _ _ _ rfl rfl rfl Ag Af bU rfl zK aI rfl zK) rfl
   (HF.out _ (fun gg hg=>(hg.row k2 zD _).row sX zD _) (nk.part (by have:=fU.out;omega) (by have:=fU.out;omega) (az _)))
end Go.Proofs.YtikdaeddbkopeaaGreatR.list
namespace Go.Proofs.YtikdaeddbkopeaaGreatR
open Go.RowKit
def eU (t0:bR) (w w':World):Prop:=∀ (g:Nat) (cs:Array Value) (t:bR) (fr:Nat × Nat),w.heap[g]? =some (ag cs t fr)->t≠t0->w'.heap[g]? =some (ag cs t fr)
section
variable {w w':World} {t0:bR}
theorem iS {b:Nat} {cs cs':Array Value} (k:Bk w b t0 cs):eU t0 w (w.setRow b cs'):=by
 intro g c t fr h ht;have dF:g≠b:=by
  rintro rfl;rw [Bk,h] at k;injection k with k
  injection k with _ k _
  exact ht k
 rw [setRow_other _ _ _ _ dF];exact h
theorem Bk.dh {g:Nat} {t:bR} {cs:Array Value} (k:Bk w g t cs) (h:eU t0 w w') (ne:t≠t0):Bk w' g t cs:=h g cs t (0,0) k ne
end
abbrev tr (c1 c2:Array Value) (v3:Value):Value:=.tuple #[.agg c1,.agg c2,v3]
def c3P (b:Nat) (i:Nat):List Nat:=if i=b+1 then [b] else if i=b+2 then [b+1] else if i=b+3 then [b+1] else if i=b+4 then [b+1] else if i=b+7 then [b,b+2,b+5] else if i=b+8 then [b,b+3,b+6] else if i=b+9 then [b+4] else []
def c3R (b B:Nat) (t1 t2:bR) (z1 z2:Array Value) (X:Array Value->Array Value->Value->World->Prop) (i:Nat) (val:Nat->Option Value) (v:Value) (w:World):Prop:=
 if i=b then ∃ c1 c2 v3,v=tr c1 c2 v3/\X c1 c2 v3 w
 else if i=b+1 then ∃ c1 c2 v3,v=tr c1 c2 v3/\val b=some v
 else if i=b+2 then ∃ c1 c2 v3,val b=some (tr c1 c2 v3)/\v= .agg c1
 else if i=b+3 then ∃ c1 c2 v3,val b=some (tr c1 c2 v3)/\v= .agg c2
 else if i=b+4 then ∃ c1 c2 v3,val b=some (tr c1 c2 v3)/\v=v3
 else if i=b+5 then ∃ g,v=ptr g/\B<=g/\(val (b+7)=none->Bk w g t1 z1)
 else if i=b+6 then ∃ g,v=ptr g/\B<=g/\(val (b+8)=none->Bk w g t2 z2)
 else if i=b+7 then ∃ g c1 c2 v3,val b=some (tr c1 c2 v3)/\val (b+5)=some (ptr g)/\B<=g/\Bk w g t1 c1
 else if i=b+8 then ∃ g c1 c2 v3,val b=some (tr c1 c2 v3)/\val (b+6)=some (ptr g)/\B<=g/\Bk w g t2 c2
 else ∃ c1 c2 v3,val b=some (tr c1 c2 v3)/\v=v3
def c3G (b B:Nat) (t1 t2:bR) (i:Nat) (w1 w2:World):Prop:=if i=b+7 then eU t1 w1 w2/\Below B w1 w2 else if i=b+8 then eU t2 w1 w2/\Below B w1 w2 else Below w1.heap.size w1 w2
theorem zw {b:Nat} {t1 t2:bR} {i:Nat} {w0 w1 w2:World} (h:Below w0.heap.size w0 w1) (hg:c3G b w0.heap.size t1 t2 i w1 w2):Below w0.heap.size w0 w2:=by
 unfold c3G at hg;split at hg
 ·exact h.trans hg.2
 ·split at hg
  ·exact h.trans hg.2
  ·exact aF h hg
theorem zx {b B:Nat} {t1 t2:bR} {z1 z2:Array Value} {X:Array Value->Array Value->Value->World->Prop} (dF:t1≠t2)
  (hX:∀ c1 c2 v3 w1 w2,X c1 c2 v3 w1->(eU t1 w1 w2\/eU t2 w1 w2\/Below w1.heap.size w1 w2)->X c1 c2 v3 w2) {i j:Nat} (oP:i≠j) {val:Nat->Option Value} {v u:Value} {w1 w2:World} (hi:val i=some v) (hj:val j=none)
  (h:c3R b B t1 t2 z1 z2 X i val v w1) (hg:c3G b B t1 t2 j w1 w2):c3R b B t1 t2 z1 z2 X i (upd val j u) v w2:=by
 have hv:∀ k x,val k=some x->upd val j u k=some x:=fun k x hk=>by
  simp only [upd];split
  ·rename_i e;subst e;rw [hj] at hk;cases hk
  ·exact hk
 have hn:∀ k,upd val j u k=none->val k=none/\k≠j:=fun k hk=>by
  simp only [upd] at hk;split at hk
  ·cases hk
  ·rename_i e;exact ⟨hk,e⟩
 have hd:eU t1 w1 w2\/eU t2 w1 w2\/Below w1.heap.size w1 w2:=by
  unfold c3G at hg;split at hg
  ·exact .inl hg.1
  ·split at hg
   ·exact .inr (.inl hg.1)
   ·exact .inr (.inr hg)
 have k1:∀ {g:Nat} {c:Array Value},j≠b+7->Bk w1 g t1 c->Bk w2 g t1 c:=by
  intro g c hne7 k;unfold c3G at hg;rw [if_neg hne7] at hg;split at hg
  ·exact k.dh hg.1 dF
  ·exact k.ay hg
 have k2:∀ {g:Nat} {c:Array Value},j≠b+8->Bk w1 g t2 c->Bk w2 g t2 c:=by
  intro g c hne8 k;unfold c3G at hg;split at hg
  ·exact k.dh hg.1 dF.symm
  ·first
   | exact k.ay hg
   | (rw [if_neg hne8] at hg;exact k.ay hg)
 unfold c3R at h ⊢;split
 ·rename_i e;rw [if_pos e] at h;obtain ⟨c1,c2,v3,h1,h2⟩:=h;exact ⟨c1,c2,v3,h1,hX _ _ _ _ _ h2 hd⟩
 rename_i e0;rw [if_neg e0] at h;split
 ·rename_i e;rw [if_pos e] at h;obtain ⟨c1,c2,v3,h1,h2⟩:=h;exact ⟨c1,c2,v3,h1,hv _ _ h2⟩
 rename_i e1;rw [if_neg e1] at h;split
 ·rename_i e;rw [if_pos e] at h;obtain ⟨c1,c2,v3,h1,h2⟩:=h;exact ⟨c1,c2,v3,hv _ _ h1,h2⟩
 rename_i e2;rw [if_neg e2] at h;split
 ·rename_i e;rw [if_pos e] at h;obtain ⟨c1,c2,v3,h1,h2⟩:=h;exact ⟨c1,c2,v3,hv _ _ h1,h2⟩
 rename_i e3;rw [if_neg e3] at h;split
 ·rename_i e;rw [if_pos e] at h;obtain ⟨c1,c2,v3,h1,h2⟩:=h;exact ⟨c1,c2,v3,hv _ _ h1,h2⟩
 rename_i e4;rw [if_neg e4] at h;split
 ·rename_i e;rw [if_pos e] at h;obtain ⟨g,h1,h2,h3⟩:=h;exact ⟨g,h1,h2,fun q=>k1 (fun e'=>(hn _ q).2 e'.symm) (h3 (hn _ q).1)⟩
 rename_i e5;rw [if_neg e5] at h;split
 ·rename_i e;rw [if_pos e] at h;obtain ⟨g,h1,h2,h3⟩:=h;exact ⟨g,h1,h2,fun q=>k2 (fun e'=>(hn _ q).2 e'.symm) (h3 (hn _ q).1)⟩
 rename_i e6;rw [if_neg e6] at h;split
 ·rename_i e;rw [if_pos e] at h;obtain ⟨g,c1,c2,v3,h0,h1,h2,h3⟩:=h;exact ⟨g,c1,c2,v3,hv _ _ h0,hv _ _ h1,h2,k1 (fun e'=>oP (e.trans e'.symm)) h3⟩
 rename_i e7;rw [if_neg e7] at h;split
 ·rename_i e;rw [if_pos e] at h;obtain ⟨g,c1,c2,v3,h0,h1,h2,h3⟩:=h;exact ⟨g,c1,c2,v3,hv _ _ h0,hv _ _ h1,h2,k2 (fun e'=>oP (e.trans e'.symm)) h3⟩
 rename_i e8;rw [if_neg e8] at h;obtain ⟨c1,c2,v3,h1,h2⟩:=h;exact ⟨c1,c2,v3,hv _ _ h1,h2⟩
theorem dz {c1 c2 d1 d2:Array Value} {v3 u3:Value} (h:some (tr c1 c2 v3)=some (tr d1 d2 u3)):c1=d1/\c2=d2/\v3=u3:=by
 injection h with h
 injection h with h
 have h1:=congrArg (fun x=>x.toList) h
 simp only [List.cons.injEq,and_true] at h1;obtain ⟨h1,h2,h3⟩:=h1;injection h1 with h1
 injection h2 with h2
 exact ⟨h1,h2,h3⟩
theorem oz {g g':Nat} (h:some (ptr g)=some (ptr g')):g=g':=by
 injection h with h
 injection h with h
 injection h with h
 injection h with h
theorem fC {B:Nat} {w:World} {g:Nat} (hg:B<=g) (cs:Array Value):Below B w (w.setRow g cs):=
 ⟨rfl,rfl,rfl,by simp [World.setRow],fun k hk=>setRow_other w g k cs zO⟩
end Go.Proofs.YtikdaeddbkopeaaGreatR
