/- A part of the proof. -/
import Derived.WalkMore
import Derived.Test.YtikdaeddbkopeaaGreatRV1
import Derived.Test.YtikdaeddbkopeaaGreatRV3
set_option linter.unusedVariables false
set_option linter.unusedSimpArgs false
set_option maxRecDepth 100000
set_option maxHeartbeats 16000000
open Go.Proofs.Tryz
open And renaming intro → al
open Bool renaming false → X, true → O
open Go renaming Calls → U, Value → I, World → W, run_loadVar_row → a7, wpList_store_rowTo → aI, wpList_load_row → aM, wp_at_zero → aQ, wp_at_succ → aR, bodyPost_ret → aS, TypeId → bM, results_cell_row → bQ, loadVar → cL, rounds_succ → dB, results_none → gT, execOp → nO, Operand → vn
open Go.Ending renaming returned → ai
open Go.Instr renaming sureAddr → uS, makeFunc → uT
open Go.IntKind renaming i64 → H, i64 → ab
open Go.IntWalk renaming i64_in → dh
open Go.Lib renaming hid → N, hid → aj
open Go.Obj renaming cells → ag
open Go.Proofs.Tryz renaming underlying70 → aJ, underlying34 → aK, prog → ao, underlying67 → cF
open Go.Result renaming andThen_ok → bC
open Go.RowKit renaming Below → D
open Go.Sem renaming run_bind → cD, run_pure → dF
open Go.Value renaming int → V, oneCell' → aB, bool → ah, int → aa, pointer → ae
open List renaming mem_of_getElem? → aU, setIfInBounds_toArray → ak, getElem_cons_zero → an, getElem_cons_succ → ar, getElem_toArray → au, set_cons_zero → ay, set_cons_succ → az
open Nat renaming le_trans → aF, le_refl → aq, le_add_left → eK, add_sub_cancel → jJ
open Option renaming none → Y, some → J
open True renaming intro → bd
namespace Go.Proofs.YtikdaeddbkopeaaGreatR
namespace elim
open Go.RowKit
attribute [local go_sem ↓] aQ aR
theorem gJ(th b a:Int)(x:EPh)(z:Pz)(l:Log):hH th b a x z l=doR (x.acc b a) z (λr _ c=>eX th b a (x.stp th a z r) c) l:=by
 cases l with
 | nil=>rfl
 | cons r l=>exact tu th b a x z r l
section
variable {w:W} {k:Pk} {z:Pz} {log:Log} {q:An Out}
theorem BY(th a n:Int)(h:dz w k z log)(hn:n<=9223372036854775807)(M:q=hH th k.me a (.u2 n) z (log.drop z.made)):
  Calls ao 132 #[ptr k.gp,aa H (fj k.l 0),aa H n] w (lq k q w λu t=>∃(b:Bool) (z':Pz),u= .bool b/\dz t k z' log/\z.made<z'.made/\
   (b=O->q= .fin ⟨0,O,((z'.made-1:Nat):Int),z'.gone⟩)/\(b=X->q=hH th k.me a (.u5 n) z' (log.drop z'.made))):=by
 have HP:=N h;have W:=N M;have lp:=h.lt;go_enter func132,ntmps132;go_wp2_with fail;refine(iL .top (fj k.l 0) (λr _ o=>eX th k.me a (EPh.stp th a z (.u2 n) r) o) h Z (W.out.trans (gJ _ _ _ _ _ _))).mono ?_;rintro e w1 (⟨x,y,rfl,A⟩|⟨v,rfl,⟨⟨f,x2⟩,hx,rfl,d,Y⟩,c⟩)
 ·exact⟨Z,.inl ⟨x,y,Z,A⟩⟩
 have U:=N (show q=hH th k.me a (.u3 n f) z.got (log.drop z.got.made)from Y);go_wp2_with fail;refine(gL f _).mono ?_;rintro e D ⟨rfl,g⟩;replace d:=d.aw g;replace c:=c.trans (Stp.aT _ g);obtain⟨i,L⟩:=nM (f%65536);obtain⟨m,uC⟩:=nM ((f / 65536%2==1));obtain⟨l,G⟩:=nM (f / 131072%268435456);rw[L,uC,G];have J:=N (al L G);go_upto_region 3 with fail;have j:=Bk.made D 81 #[aa H i,.bool m,aa H l];have zg3:=d.lt;replace d:=d.aw (aA bS (ag #[aa H i,.bool m,aa H l] 81));replace c:=c.alloc (ag #[aa H i,.bool m,aa H l] 81);generalize D.alloc (ag #[aa H i,.bool m,aa H l] 81)=F at *;generalize D.heap.size=B at *;have qc:B≠k.gp:=zO;refine aH (S:=λt=>Hd k t/\Bk t B 81 #[aa H i,.bool m,aa H l]) (E:=λ_=>X) zK ?_;replace d:dz F.drew k z.got log:=d.aw (bD F);replace c:=c.drew;replace j:=j.drew;generalize F.drew=w5 at *;refine wTq 5 [(0,14,ptr k.gp),(1,15,ptr k.gp),(2,16,aa H n),(4,18,ae (some ⟨B,0,none⟩)),(5,19,aa H i)] ?_ ⟨d.hd,j⟩ ?_
 ·intro t hS;have T:=hS.2.cell 0;simp at T;exact zT
 refine wOq 3 (λK C=>?_);go_simp;refine(fR n 0 d hn).mono ?_;rintro e w6 ⟨rfl,g⟩;replace d:=d.aw g;replace j:=j.aw g;replace c:=c.trans (Stp.aT _ g);refine sO C (λ_=>⟨d.hd,j⟩) ?_;refine wOq 6 (λK C=>?_);go_simp;have CS:q=doR ⟨2,.nd n 0,0,i⟩ z.got (λr _ o=>eX th k.me a (EPh.stp th a z.got (.u3 n f) r) o) (log.drop z.got.made):=by
  have:=U.out.trans (gJ _ _ _ _ _ _)
  rwa [show (EPh.u3 n f).acc k.me a=⟨2,.nd n 0,0,i⟩by simp only[EPh.acc,idxOf,J.out.1]]at this
 refine(ir (.nd n 0) (nodeAt k.l n 0) i (λr _ o=>eX th k.me a (EPh.stp th a z.got (.u3 n f) r) o) d Z CS).mono ?_;rintro e w7 (⟨x,y,rfl,A⟩|⟨v,rfl,⟨⟨y1,y2⟩,hy,rfl,s,R⟩,qa⟩)
 ·exact⟨Z,.inl ⟨x,y,Z,c.trans A⟩⟩
 replace c:=c.trans qa;replace j:=qa.aw j qc;have qe:=N (show q=hH th k.me a (.u4 n f) z.got.got (log.drop z.got.got.made)from R);refine sO C (λ_=>⟨s.hd,j⟩) ?_;refine aG zK ?_ _;go_upto_region 4 with fail;go_wp2_with (refine aM Z 81 (.tmp 8) Z B Z 81 #[aa H i,.bool m,aa H l] (0,0) _ j underlying81 Z zK ?_);refine(jQ i m l n _).mono ?_;rintro e Q ⟨rfl,g⟩;replace s:=s.aw g;replace c:=c.trans (Stp.aT _ g);go_wp2_with fail;refine(gk (n%65536) X ((l+1)%268435456) Q).mono ?_;rintro e w9 ⟨rfl,g⟩;replace s:=s.aw g;replace c:=c.trans (Stp.aT _ g);have BC:dL (n%65536) X ((l+1)%268435456)=dC f n:=by unfold dC kH;rw[J.out.2]
 rw[BC];go_wp2_with fail;refine(nY .top (fj k.l 0) f (dC f n) (λr _ o=>eX th k.me a (EPh.stp th a z.got.got (.u4 n f) r) o) s Z (qe.out.trans (gJ _ _ _ _ _ _))).mono ?_;rintro e uq (⟨x,y,rfl,A⟩|⟨v,rfl,⟨⟨t1,qb⟩,ht,rfl,qd,V⟩,P⟩)
 ·exact⟨Z,.inl ⟨x,y,Z,c.trans A⟩⟩
 replace c:=c.trans P;have I:=N V;go_wp2_with fail;go_ret;refine .inr ⟨_,Z,⟨qb,_,Z,qd,by show z.made<z.made+1+1+1;omega,?_,?_⟩,c⟩
 ·rintro rfl;exact I.out
 rintro rfl;exact I.out
theorem met_any(th a n w0:Int)(p0:Nat)(h:dz w k z log)(J:q=hH th k.me a (.u7 0 n w0 p0) z (log.drop z.made)):
  Calls ao 138 #[ptr k.gp,aa H (dQ k.l 0 0),aa H (fS a w0),aa H (noW w0)] w (lq k q w λu M=>∃(b:Bool) (z':Pz),u= .bool b/\dz M k z' log/\z.made<z'.made/\
   (b=O->q=hH th k.me a (.u9 n w0 p0) z' (log.drop z'.made))/\(b=X->q=hH th k.me a (.u2 n) z' (log.drop z'.made))):=by
 obtain⟨f,E⟩:=nM (fS a w0);obtain⟨no,C⟩:=nM (noW w0);have j:=N (al E C);have Q:=N J;have Y:=h.lt;rw[E,C];go_enter func138,ntmps138;go_wp2_with fail;refine wp_loop_rounds 3 ?_;rw[dB];go_wp2_with fail;refine(iL .slot (dQ k.l 0 0) (λr _ i=>eX th k.me a (EPh.stp th a z (.u7 0 n w0 p0) r) i) h Z (Q.out.trans (gJ _ _ _ _ _ _))).mono ?_;rintro e w1 (⟨x,l,rfl,o⟩|⟨v,rfl,⟨⟨m,U⟩,W,rfl,D,R⟩,c⟩)
 ·exact⟨Z,.inl ⟨x,l,Z,o⟩⟩
 have G:=N R;by_cases d:m=f;rotate_left
 ·have g:m≠fS a w0:=λe=>d (e.trans j.out.1);have y:=N (show q=hH th k.me a (.u9 n w0 p0) z.got (log.drop z.got.made)by
   rw[G.out];simp only[EPh.stp];rw[if_pos g];rfl)
  have B:(m != f)=O:=by simp[d]
  go_wp2_with fail;go_ret;exact .inr ⟨_,Z,⟨O,_,Z,D,Nat.lt_succ_self _,λ_=>y.out,λh=>by cases h⟩,c⟩
 have g:m=fS a w0:=d.trans j.out.1.symm;have y:=N (show q=hH th k.me a (.u7 1 n w0 p0) z.got (log.drop z.got.made)by
  rw[G.out];simp only[EPh.stp];rw[if_neg (by simpa using g)];rfl)
 have B:(m != f)=X:=by simp[d]
 go_wp2_with fail;rw[dB];go_wp2_with fail;refine(iL .slot (dQ k.l 0 0) (λr _ i=>eX th k.me a (EPh.stp th a z.got (.u7 1 n w0 p0) r) i) D Z (y.out.trans (gJ _ _ _ _ _ _))).mono ?_;rintro e w2 (⟨x,l,rfl,o⟩|⟨v,rfl,⟨⟨s,V⟩,K,rfl,qa,qc⟩,L⟩)
 ·exact⟨Z,.inl ⟨x,l,Z,c.trans o⟩⟩
 replace c:=c.trans L;have F:=N qc;by_cases d:s=f;rotate_left
 ·have g:s≠fS a w0:=λe=>d (e.trans j.out.1);have A:=N (show q=hH th k.me a (.u9 n w0 p0) z.got.got (log.drop z.got.got.made)by
   rw[F.out];simp only[EPh.stp];rw[if_pos g];rfl)
  have B:(s != f)=O:=by simp[d]
  go_wp2_with fail;go_ret;exact .inr ⟨_,Z,⟨O,_,Z,qa,by show z.made<z.made+1+1;omega,λ_=>A.out,λh=>by cases h⟩,c⟩
 have g:s=fS a w0:=d.trans j.out.1.symm;have A:=N (show q=hH th k.me a (.u8 n w0 p0) z.got.got (log.drop z.got.got.made)by
  rw[F.out];simp only[EPh.stp];rw[if_neg (by simpa using g)];rfl)
 have B:(s != f)=X:=by simp[d]
 go_wp2_with fail;rw[dB];go_wp2_with fail;have T:q=doR ⟨3,.slot,f,no⟩ z.got.got (λr _ i=>eX th k.me a (EPh.stp th a z.got.got (.u8 n w0 p0) r) i) (log.drop z.got.got.made):=by
  have:=A.out.trans (gJ _ _ _ _ _ _)
  rwa [show (EPh.u8 n w0 p0).acc k.me a=⟨3,.slot,f,no⟩by simp only[EPh.acc,j.out.1,j.out.2]]at this
 refine(nY .slot (dQ k.l 0 0) f no (λr _ i=>eX th k.me a (EPh.stp th a z.got.got (.u8 n w0 p0) r) i) qa Z T).mono ?_;rintro e qe (⟨x,l,rfl,o⟩|⟨v,rfl,⟨⟨qd,t⟩,K,rfl,S,P⟩,qb⟩)
 ·exact⟨Z,.inl ⟨x,l,Z,c.trans o⟩⟩
 replace c:=c.trans qb;have I:=N P;go_wp2_with fail;go_ret;refine .inr ⟨_,Z,⟨!t,_,Z,S,by show z.made<z.made+1+1+1;omega,?_,?_⟩,c⟩
 ·cases t<;>simp;exact I.out
 cases t<;>simp;exact I.out
end
def sR(k:Pk)(th a n:Int)(gb:Nat)(log:Log)(q:An Out)(w wr:W):Prop:=
 ∃b,dz wr k b log/\Stp k.gp w wr/\Bk wr gb 70 aW/\q=hH th k.me a (.u2 n) b (log.drop b.made)
section
variable {w:W} {k:Pk} {z:Pz} {log:Log} {q:An Out}
theorem MJ(th a:Int)(h:dz w k z log)(K:q=hH th k.me a (.sub .t1 .ut) z (log.drop z.made))(mF:q≠ .stuck):
  Calls ao 97 #[ptr k.gp,V ab (fj k.l 0),V ab (dQ k.l 0 0),V ab a] w (lq k q w λu w'=>∃val qd qf W,q= .fin ⟨val,qd,qf,W.gone⟩/\u= .agg (bh val qd 0 qf)/\dz w' k W log):=by
 have qb:=N (K.trans (nj _ _ _ _ _ _ _));have HNS:=N mF;have d:=Bk.made w 70 aW;have c:=(Stp.refl k.gp w).alloc (ag aW 70);have lp0:=h.lt;replace h:=h.aw (aA bS (ag aW 70));obtain⟨gb,ya⟩:=nM (w.heap.size);have BI:=N ya;rw[ya]at d lp0;go_enter func97,ntmps97;go_upto_region 1 with fail;generalize w.alloc (ag aW 70)=w1 at *;have fH:k.gp<gb:=lp0;have s:gb≠k.gp:=zO;go_wp2_with fail;refine(MK th _ h qb.out).mono ?_;rintro e w2 (⟨x,g,rfl,i⟩|⟨v,rfl,⟨n,p,ok,H,rfl,l,BE,Iy,Ix,-⟩,D⟩)
 ·exact⟨Z,.inl ⟨x,g,Z,c.trans i⟩⟩
 replace c:=c.trans D;replace d:=D.aw d s;have rG:=N BE;cases ok with
 | false=>exact absurd rG.out HNS.out
 | true=>
 have sT:=N (show q=hH th k.me a (.u1 n) H (log.drop H.made)from rG.out);go_upto_region 2 with fail;go_upto_region 4 with fail;go_wp2_with fail;refine(fR n 1 l zO).mono ?_;rintro e w3 ⟨rfl,j⟩;replace l:=l.aw j;replace d:=d.aw j;replace c:=c.trans (Stp.aT _ j);go_wp2_with fail;refine(ir (.nd n 1) (nodeAt k.l n 1) a (λr _ y=>eX th k.me a (EPh.stp th a H (.u1 n) r) y) l rfl (sT.out.trans (gJ _ _ _ _ _ _))).mono ?_;rintro e w4 (⟨x,g,rfl,i⟩|⟨v,rfl,⟨⟨x1,x2⟩,R,rfl,hp2,zI⟩,D⟩)
 ·exact⟨Z,.inl ⟨x,g,Z,c.trans i⟩⟩
 replace c:=c.trans D;replace d:=D.aw d s;have t:=N (show sR k th a n gb log q w w4 from⟨H.got,hp2,c,d,zI⟩);have lp:=hp2.lt;go_wp2_with fail;go_loopw [12] (λ_ wr=>sR k th a n gb log q w wr) (λ_ wr=>log.length+1-madeOf k.gp wr)
 case atStart=>exact t.out
 case round=>
 obtain⟨z2,l,c,d,K⟩:=hrel;have HM:=N (cU l);have lp:=l.lt;have qb:=N K;go_wp2_with fail;refine(BY th a n l zO qb.out).mono ?_;rintro e w5 (⟨x,g,rfl,i⟩|⟨v,rfl,⟨b,f,rfl,T,hm3,P,Q⟩,sj⟩)
 ·exact⟨Z,.inl ⟨x,g,Z,c.trans i⟩⟩
 replace c:=c.trans sj;replace d:=sj.aw d s;have B:=N (al HM.out l.mle);cases b with
 | true=>
  have S:=N (P Z);go_wp2_with fail;refine(jv T zO).mono ?_;rintro e qc ⟨rfl,rfl⟩;go_wp2_with (refine aI rfl 70 (.tmp 8) (.tmp 40) rfl rfl gb (bh 0 O 0 ((f.made-1:Nat):Int)) rfl rfl 70 aW d zK rfl (by simp[aB]) ?_);have m:=T.dK d zO (bh 0 O 0 ((f.made-1:Nat):Int));replace d:=d.bG (bh 0 O 0 ((f.made-1:Nat):Int));replace c:=c.row (b:=gb) (.inl (by rw[BI.out];omega)) (bh 0 O 0 ((f.made-1:Nat):Int));exact aS (v:=.agg (bh 0 O 0 ((f.made-1:Nat):Int))) (bQ (p:=8) (ty:=70) rfl _ _ gb 70 _ (0,0) _ rfl d aJ rfl zK) rfl (.inr ⟨_,rfl,⟨_,_,_,_,S.out,rfl,m⟩,c⟩)
 | false=>
  have S:=N (Q Z);go_wp2_with fail;refine(iL .slot (dQ k.l 0 0) (λr _ y=>eX th k.me a (EPh.stp th a f (.u5 n) r) y) T Z (S.out.trans (gJ _ _ _ _ _ _))).mono ?_;rintro e qc (⟨x,g,rfl,i⟩|⟨v,rfl,⟨⟨x1,x2⟩,R,rfl,m,hq4⟩,DE⟩)
  ·exact⟨Z,.inl ⟨x,g,Z,c.trans i⟩⟩
  replace c:=c.trans DE;replace d:=DE.aw d s;have iB:=N hq4;go_wp2_with fail;refine(uy x1 _).mono ?_;rintro e w7 ⟨rfl,rfl⟩;obtain⟨ov,hov⟩:=nM (x1%4294967296);obtain⟨ok,fC⟩:=nM (x1 / 4294967296%4);obtain⟨A,qe⟩:=nM (x1 / 17179869184%268435456);have hcb:0<=A/\A<268435456:=zO;rw[hov,fC,qe];have qa:=N (al fC qe);have M:=N hm3;by_cases G:ok=0;rotate_left
  ·have t:=N (show sR k th a n gb log q w qc from⟨_,m,c,d,by
    rw[iB.out];simp only[EPh.stp];rw[if_pos (by show ji x1≠0;unfold ji;rw[qa.out.1];exact G)];rfl⟩)
   have E:=cU m;have F:=N (show log.length+1-madeOf k.gp qc<log.length+1-madeOf k.gp wr by
    rw[E,B.out.1];have g:=B.out.2;have h2:=M.out;show log.length+1-(f.made+1)<_;omega)
   have xZ:(ok != 0)=O:=by simp[G]
   go_wp2_with fail;go_roundw
   case rel=>exact t.out
   case measure=>exact F.out
  have rK:=N (show q=hH th k.me a (.u6 n x1) f.got (log.drop f.got.made)by
   rw[iB.out];simp only[EPh.stp];rw[if_neg (by show ¬(ji x1≠0);unfold ji;rw[qa.out.1];simp[G])];rfl)
  have xZ:(ok != 0)=X:=by simp[G]
  go_upto_region 10 with fail;go_wp2_with fail;refine(tH a 1 (A+1) _).mono ?_;rintro e w7 ⟨rfl,j⟩;replace m:=m.aw j;replace d:=d.aw j;replace c:=c.trans (Stp.aT _ j);go_wp2_with fail;refine(tH 0 0 (A+1) _).mono ?_;rintro e w8 ⟨rfl,j⟩;replace m:=m.aw j;replace d:=d.aw j;replace c:=c.trans (Stp.aT _ j);have e1:ld a 1 (A+1)=fS a x1:=by unfold fS Kw;rw[qa.out.2]
  have e2:ld 0 0 (A+1)=noW x1:=by unfold noW Kw;rw[qa.out.2]
  rw[e1,e2];go_wp2_with fail;refine(nY .slot (dQ k.l 0 0) x1 (fS a x1) (λr _ y=>eX th k.me a (EPh.stp th a f.got (.u6 n x1) r) y) m Z (rK.out.trans (gJ _ _ _ _ _ _))).mono ?_;rintro e w9 (⟨x,g,rfl,i⟩|⟨v,rfl,⟨⟨y1,U⟩,R,rfl,C,hq5⟩,NF⟩)
  ·exact⟨Z,.inl ⟨x,g,Z,c.trans i⟩⟩
  replace c:=c.trans NF;replace d:=NF.aw d s;have vm:=N hq5;cases U with
  | false=>
   have t:=N (show sR k th a n gb log q w w9 from⟨_,C,c,d,vm.out⟩);have E:=cU C;have F:=N (show log.length+1-madeOf k.gp w9<log.length+1-madeOf k.gp wr by
    rw[E,B.out.1];have g:=B.out.2;have h2:=M.out;show log.length+1-(f.made+1+1)<_;omega)
   go_wp2_with fail;go_roundw
   case rel=>exact t.out
   case measure=>exact F.out
  | true=>
   have uj:=N (show q=hH th k.me a (.u7 0 n x1 f.got.made) f.got.got (log.drop f.got.got.made)from vm.out);go_upto_region 12 with fail;go_wp2_with fail;refine(jv C (eK _ _)).mono ?_;rintro e uq ⟨rfl,rfl⟩;have ru:((f.got.got.made-1:Nat):Int)=(f.got.made:Nat):=by show ((f.got.made+1-1:Nat):Int)=_;rw[jJ]
   rw[ru];go_upto_region 13 with fail;go_wp2_with fail;refine(met_any th a n x1 f.got.made C uj.out).mono ?_;rintro e qJ (⟨x,g,rfl,i⟩|⟨v,rfl,⟨bm,J,rfl,L,hm6,P,Q⟩,hs6⟩)
   ·exact⟨Z,.inl ⟨x,g,Z,c.trans i⟩⟩
   replace c:=c.trans hs6;replace d:=hs6.aw d s;have HM6:=N (show f.got.made+1<J.made from hm6);have hple:(f.got.made:Int)<=100000:=by have:=C.mle;have:=C.le;have:f.got.got.made=f.got.made+1:=Z;omega
   cases bm with
   | false=>
    have t:=N (show sR k th a n gb log q w qJ from⟨_,L,c,d,Q Z⟩);have E:=cU L;have F:=N (show log.length+1-madeOf k.gp qJ<log.length+1-madeOf k.gp wr by
     rw[E,B.out.1];have g:=B.out.2;have h2:=M.out;have i:=HM6.out;have:f.got.made=f.made+1:=Z;omega)
    go_wp2_with fail;go_roundw
    case rel=>exact t.out
    case measure=>exact F.out
   | true=>
    have DC:=N (P Z);obtain⟨o,zJ⟩:=nM (f.got.made);rw[zJ]at DC hple ⊢;go_upto_region 14 with fail;go_wp2_with fail;refine(ir .slot (dQ k.l 0 0) (noW x1) (λr _ y=>eX th k.me a (EPh.stp th a J (.u9 n x1 o) r) y) L Z (DC.out.trans (gJ _ _ _ _ _ _))).mono ?_;rintro e DD (⟨x,g,rfl,i⟩|⟨v,rfl,⟨⟨y1,U⟩,R,rfl,hp7,hq7⟩,Y⟩)
    ·exact⟨Z,.inl ⟨x,g,Z,c.trans i⟩⟩
    replace c:=c.trans Y;replace d:=Y.aw d s;have HQ9:=N ((show q=hH th k.me a (.sub (.v1 n) (.ug o)) J.got (log.drop J.got.made)from hq7).trans (nj _ _ _ _ _ _ _));go_wp2_with fail;refine(MM th n _ hp7 zO HQ9.out).mono ?_;rintro e w13 (⟨x,g,rfl,i⟩|⟨v,rfl,⟨z5,rfl,hp8,hq8,-⟩,hs8⟩)
    ·exact⟨Z,.inl ⟨x,g,Z,c.trans i⟩⟩
    replace c:=c.trans hs8;replace d:=hs8.aw d s;have HQ10:=N (show q= .fin ⟨0,O,-(o:Int)-2,z5.gone⟩from hq8);go_wp2_with (refine aI Z 70 (.tmp 8) (.tmp 82) Z Z gb (bh 0 O 0 (-(o:Int)-2)) Z Z 70 aW d zK Z (by simp[aB]) ?_);have AY:=hp8.dK d zO (bh 0 O 0 (-(o:Int)-2));replace d:=d.bG (bh 0 O 0 (-(o:Int)-2));replace c:=c.row (b:=gb) (.inl (by rw[BI.out];omega)) (bh 0 O 0 (-(o:Int)-2));exact aS (v:=.agg (bh 0 O 0 (-(o:Int)-2))) (bQ (p:=8) (ty:=70) Z _ _ gb 70 _ (0,0) _ Z d aJ Z zK) Z (.inr ⟨_,Z,⟨_,_,_,_,HQ10.out,Z,AY⟩,c⟩)
end
section
variable {w:W} {k:Pk} {z:Pz} {log:Log} {q:An Out}
def TryPost(th a:Int)(k:Pk)(log:Log)(q:An Out)(z:Pz)(u:I)(e:W):Prop:=
 ∃(n p c:Int) (b:Pz),u= .tuple #[V H n,V H p,V H c]/\dz e k b log/\z.made<b.made/\n<=65536/\
  ((c=0/\q=eX th k.me a (oT 0 X p b) (log.drop b.made))\/(c=1/\q=hH th k.me a .o5 b (log.drop b.made))\/(c=2/\∃d:Nat,p=(d:Nat)/\q=hH th k.me a (.o4 n d) b (log.drop b.made)))
theorem Hl(th a:Int)(h:dz w k z log)(Q:q=hH th k.me a (.sub (.g1 0 .top) .og) z (log.drop z.made)):
  Calls ao 140 #[ptr k.gp,V H (fj k.l 0)] w (lq k q w (TryPost th a k log q z)):=by
 have W:=N (Q.trans (nj _ _ _ _ _ _ _));have lp:=h.lt;clear Q;go_enter func140,ntmps140;go_wp2_with fail;have hd:Calls ao 172 #[ptr k.gp,V H 0,V H (fj k.l 0)] w _:=wy th 0 .top (fj k.l 0) _ h zO Z W.out;(with_reducible refine hd.mono ?_);rintro e w1 (⟨x,t,rfl,y⟩|⟨v,rfl,⟨i,p,b,rfl,j,qe,T,-⟩,c⟩)
 ·exact⟨Z,.inl ⟨x,t,Z,y⟩⟩
 have D:=N qe;have P:=N T;clear h hd qe T W lp;go_wp2_with fail;refine(gL i _).mono ?_;rintro e M ⟨rfl,g⟩;replace j:=j.aw g;replace c:=c.trans (Stp.aT _ g);clear g;obtain⟨f,qa⟩:=nM (i%65536);obtain⟨m,uC⟩:=nM ((i / 65536%2==1));obtain⟨l,qb⟩:=nM (i / 131072%268435456);have LM:0<=f/\f<65536:=zO;rw[qa,uC,qb];have u:=N (al qa qb);clear qa uC qb;go_upto_region 3 with fail;have d:=Bk.made M 81 #[V H f,.bool m,V H l];have zg3:=j.lt;replace j:=j.aw (aA bS (ag #[V H f,.bool m,V H l] 81));replace c:=c.alloc (ag #[V H f,.bool m,V H l] 81);generalize M.alloc (ag #[V H f,.bool m,V H l] 81)=w4 at *;generalize M.heap.size=F at *;have Y:F≠k.gp:=zO;have C:=d.cell 0;have lr:=d.lt;simp at C;by_cases o:f=0
 ·have B:=N (show q=eX th k.me a (oT 0 X p b) (log.drop b.made)by
   rw[D.out];show eX th k.me a (if idxOf i=0 then _ else _) _=_;rw[if_pos (show idxOf i=0 from u.out.1.trans o)])
  have xZ:(f==0)=true:=by simp[o]
  clear o D;go_wp2_with fail;exact aS (v:=.tuple #[V H 0,V H (p:Nat),V H 0]) (by rw[results_tmp3 Z];rfl) Z (.inr ⟨_,Z,⟨0,p,0,b,Z,j,P.out,zO,.inl ⟨Z,B.out⟩⟩,c⟩)
 have B:=N (show q=hH th k.me a (.o2 i) b (log.drop b.made)by
  rw[D.out];show eX th k.me a (if idxOf i=0 then _ else _) _=_;rw[if_neg (show ¬(idxOf i=0)from λe=>o (u.out.1.symm.trans e))];rfl)
 have xZ:(f==0)=X:=by simp[o]
 clear o D;go_upto_region 5 with fail;go_wp2_with fail;refine(fR f 0 j zO).mono ?_;rintro e w5 ⟨rfl,g⟩;replace j:=j.aw g;replace d:=d.aw g;replace c:=c.trans (Stp.aT _ g);clear g C lr;go_wp2_with fail;refine(iL (.nd (idxOf i) 0) (nodeAt k.l f 0) (λr _ O=>eX th k.me a (EPh.stp th a b (.o2 i) r) O) j (by rw[<- u.out.1];simp only[adr,idxOf]) (B.out.trans (gJ _ _ _ _ _ _))).mono ?_;rintro e w6 (⟨x,t,rfl,y⟩|⟨v,rfl,⟨⟨y1,y2⟩,hy,rfl,n,qf⟩,I⟩)
 ·exact⟨Z,.inl ⟨x,t,Z,c.trans y⟩⟩
 replace c:=c.trans I;replace d:=I.aw d Y;have U:=N (show q=hH th k.me a (.o3 i y1) b.got (log.drop b.got.made)from qf);clear j I hy qf B;go_upto_region 6 with fail;go_wp2_with (refine aM Z 81 (.tmp 8) Z F Z 81 #[V H f,.bool m,V H l] (0,0) _ d underlying81 Z zK ?_);refine(jQ f m l y1 _).mono ?_;rintro e w8 ⟨rfl,g⟩;replace n:=n.aw g;replace d:=d.aw g;replace c:=c.trans (Stp.aT _ g);clear g;go_wp2_with fail;refine(gk (y1%65536) X ((l+1)%268435456) w8).mono ?_;rintro e w9 ⟨rfl,g⟩;replace n:=n.aw g;replace d:=d.aw g;replace c:=c.trans (Stp.aT _ g);have BC:dL (y1%65536) X ((l+1)%268435456)=dC i y1:=by unfold dC kH;rw[u.out.2]
 rw[BC];clear g BC;go_wp2_with fail;refine(nY .top (fj k.l 0) i (dC i y1) (λr _ O=>eX th k.me a (EPh.stp th a b.got (.o3 i y1) r) O) n Z (U.out.trans (gJ _ _ _ _ _ _))).mono ?_;rintro e J (⟨x,t,rfl,y⟩|⟨v,rfl,⟨⟨t1,t2⟩,ht,rfl,s,qd⟩,L⟩)
 ·exact⟨Z,.inl ⟨x,t,Z,c.trans y⟩⟩
 replace c:=c.trans L;replace d:=L.aw d Y;have iB:=N qd;clear n L ht qd U;have A:((b.got.got.made-1:Nat):Int)=(b.got.made:Nat):=by show ((b.got.made+1-1:Nat):Int)=_;rw[jJ]
 cases t2 with
 | false=>
  go_upto_region 7 with fail;go_wp2_with fail;refine(jv s (eK _ _)).mono ?_;rintro e qJ ⟨rfl,rfl⟩;rw[A];clear A;go_wp2_with fail;exact aS (v:=.tuple #[V H 0,V H (b.got.made:Nat),V H 1]) (by rw[results_tmp3 rfl];rfl) rfl (.inr ⟨_,rfl,⟨0,(b.got.made:Nat),1,b.got.got,rfl,s,by have:=P.out;show z.made<b.made+1+1;omega,zO,.inr (.inl ⟨rfl,iB.out⟩)⟩,c⟩)
 | true=>
  go_upto_region 8 with fail;refine aH (S:=λqc=>Bk qc F 81 #[V H f,.bool m,V H l]) (E:=λ_=>X) zK ?_;replace s:dz J.drew k b.got.got log:=s.aw (bD J);replace c:=c.drew;replace d:=d.drew;generalize J.drew=qJ at *;refine wTq 3 [(0,39,ae (some ⟨F,0,none⟩)),(1,40,V H f),(2,41,ptr k.gp)] ?_ d ?_
  ·intro qc hS;have C:=hS.cell 0;simp at C;exact zT
  refine wOq 3 (λK R=>?_);go_simp;refine(jv s (eK _ _)).mono ?_;rintro e DD ⟨rfl,rfl⟩;rw[A];clear A;refine sO R (λ_=>d) ?_;clear R K;refine wTq 3 [(4,4,V H f),(5,5,V H (b.got.made:Nat)),(6,6,V H 2)] ?_ d ?_
  ·intro qc hS;exact zT
  refine aG zK ?_ _;go_wp2_with fail;refine aS (v:=.tuple #[V H f,V H (b.got.made:Nat),V H 2]) (by rw[results_tmp3 Z];rfl) Z (.inr ⟨_,Z,⟨f,(b.got.made:Nat),2,b.got.got,Z,s,by have:=P.out;show z.made<b.made+1+1;omega,zO,.inr (.inr ⟨Z,b.got.made,Z,?_⟩)⟩,c⟩);rw[<- u.out.1];exact iB.out
end
theorem rf(th b a:Int)(k:EK)(y:SX)(f:Ret->Pz->EX)(l:Log)(c:∀t s,f t s=nu t s k):eX th b a (y.jc k f) l=fx th b (λt z l=>eX th b a (nu t z k) l) y l:=by
 cases y with
 | go x z=>exact nj th b a k l x z
 | ret t z=>show eX th b a (f t z) l=eX th b a (nu t z k) l;rw[c]
 | stuck=>rfl
def Bs(k:Pk)(th a:Int)(gb go:Nat)(log:Log)(q:An Out)(w wr:W):Prop:=
 ∃b,dz wr k b log/\Stp k.gp w wr/\Bk wr gb 70 aW/\Bk wr go 70 aW/\q=hH th k.me a (.sub (.g1 0 .top) .og) b (log.drop b.made)
section
variable {w:W} {k:Pk} {z:Pz} {log:Log} {q:An Out}
theorem pop_any(a:Int)(h:dz w k z log)(hs:1<=k.l.c.aO/\k.l.c.aO<=8)(qh:q=hH (2*k.l.c.aO) k.me a (.sub (.g1 0 .top) .og) z (log.drop z.made))(mF:q≠ .stuck):
  Calls ao 99 #[ptr k.gp,V ab (fj k.l 0),V ab (dQ k.l 0 0)] w (lq k q w λu w'=>∃val is bc z',q= .fin ⟨val,is,bc,z'.gone⟩/\u= .agg (bh val is 0 bc)/\dz w' k z' log):=by
 have HNS:=N mF;have HSE:=N hs;have f:=(Bk.made w 70 aW).alloc (ag aW 70);have i:=Bk.new (w.alloc (ag aW 70)) (g:=w.heap.size+1) zS 70 aW;have d:=((Stp.refl k.gp w).alloc (ag aW 70)).alloc (ag aW 70);have lp0:=h.lt;replace h:=(h.aw (aA bS (ag aW 70))).aw (aA bS (ag aW 70));obtain⟨j,rr⟩:=nM (2*k.l.c.aO);rw[rr]at qh;have HTH:=N rr;have HQ:=N qh;go_enter func99,ntmps99;go_wp2_with fail;go_step3;go_wp2_with fail;go_step3;go_wp2_with fail;generalize (w.alloc (ag aW 70)).alloc (ag aW 70)=w1 at *;obtain⟨go,hgo⟩:=nM (w.heap.size+1);obtain⟨t,ya⟩:=nM (w.heap.size);have J:=N (al ya (show t<go by omega));rw[hgo]at i ⊢;rw[ya]at f lp0 ⊢;have G:t≠k.gp:=M;have hlg:t<go:=J.out.2;have E:go≠k.gp:=M;have qd:=N (show Bs k j a t go log q w w1 from⟨z,h,d,f,i,HQ.out⟩);have lp:=h.lt;go_loopw [11] (λ_ wr=>Bs k j a t go log q w wr) (λ_ wr=>log.length+1-madeOf k.gp wr)
 case atStart=>exact qd.out
 case round=>
 obtain⟨z2,qe,d,f,i,qh⟩:=hrel;have HM:=N (cU qe);have lp:=qe.lt;have HQ:=N qh;go_wp2_with fail;refine(Hl j a qe HQ.out).mono ?_;rintro e w5 (⟨x,o,rfl,y⟩|⟨v,rfl,⟨n,p,c,l,rfl,H,hm3,hnb,hc⟩,sj⟩)
 ·exact⟨Z,.inl ⟨x,o,Z,d.trans y⟩⟩
 replace d:=d.trans sj;replace f:=sj.aw f G;replace i:=sj.aw i E;have L:=N (al HM.out (al qe.mle hm3));rcases hc with⟨rfl,P⟩|⟨rfl,P⟩|⟨rfl,m,rfl,P⟩
 ·have T:=N (P.trans (rf j k.me a (.oc ⟨0,X,p,[]⟩) (df l 0) _ _ (λ_ _=>Z)));go_upto_region 5 with fail;go_wp2_with (refine aI Z 70 (.tmp 7) (.tmp 26) Z Z go (bh 0 X 0 p) Z Z 70 aW i zK Z (by simp[aB]) ?_);replace H:=H.dK i M (bh 0 X 0 p);replace f:=f.a6 (b:=go) M (bh 0 X 0 p);replace d:=d.row (b:=go) (.inl (by rw[J.out.1];omega)) (bh 0 X 0 p);replace i:=i.bG (bh 0 X 0 p);generalize w5.setRow go (bh 0 X 0 p)=Y at *;refine(gK j _ H T.out).mono ?_;rintro e w7 (⟨x,o,rfl,y⟩|⟨v,rfl,⟨qb,rfl,B,qc⟩,C⟩)
  ·exact⟨Z,.inl ⟨x,o,Z,d.trans y⟩⟩
  replace d:=d.trans C;replace f:=C.aw f G;replace i:=C.aw i E;have S:=N (show q= .fin ⟨0,X,p,qb.gone⟩from qc);go_wp2_with (first
   | (refine aM Z 70 (.tmp 7) Z go Z 70 (bh 0 X 0 p) (0,0) _ i aJ Z zK ?_)
   | (refine aI Z 70 (.tmp 6) (.tmp 70) Z Z t (bh 0 X 0 p) Z Z 70 aW f zK Z (by simp[aB]) ?_))
  have U:=B.dK f M (bh 0 X 0 p);replace f:=f.bG (bh 0 X 0 p);replace d:=d.row (b:=t) (.inl (by rw[J.out.1];omega)) (bh 0 X 0 p);rw[Exit.noGoto_ret];exact aS (v:=.agg (bh 0 X 0 p)) (bQ (p:=6) (ty:=70) Z _ _ t 70 _ (0,0) _ Z f aJ Z zK) Z (.inr ⟨_,Z,⟨_,_,_,_,S.out,Z,U⟩,d⟩)
 ·have T:=N P;go_wp2_with fail;refine(iL .slot (dQ k.l 0 0) (λr _ Q=>eX j k.me a (EPh.stp j a l .o5 r) Q) H Z (T.out.trans (gJ _ _ _ _ _ _))).mono ?_;rintro e Y (⟨x,o,rfl,y⟩|⟨v,rfl,⟨⟨x1,x2⟩,hx,rfl,B,qc⟩,C⟩)
  ·exact⟨Z,.inl ⟨x,o,Z,d.trans y⟩⟩
  replace d:=d.trans C;replace f:=C.aw f G;replace i:=C.aw i E;have iB:=N qc;go_wp2_with fail;refine(uy x1 _).mono ?_;rintro e w7 ⟨rfl,rfl⟩;obtain⟨ov,qg⟩:=nM (x1%4294967296);obtain⟨ok,fC⟩:=nM (x1 / 4294967296%4);obtain⟨oc,Iw⟩:=nM (x1 / 17179869184%268435456);rw[qg,fC,Iw];have R:=N (al qg (al fC Iw));by_cases qf:ok=1;rotate_left
  ·have qd:=N (show Bs k j a t go log q w Y from⟨_,B,d,f,i,by
    rw[iB.out];simp only[EPh.stp];rw[if_pos (by show ji x1≠1;unfold ji;rw[R.out.2.1];exact qf)];rfl⟩)
   have NT:=cU B;have DI:=N (show log.length+1-madeOf k.gp Y<log.length+1-madeOf k.gp wr by
    rw[NT,L.out.1];have o:=L.out.2.1;have h2:=L.out.2.2;show log.length+1-(l.made+1)<_;omega)
   have xZ:(ok != 1)=O:=by simp[qf]
   go_wp2_with fail;go_roundw
   case rel=>exact qd.out
   case measure=>exact DI.out
  have rK:=N (show q=hH j k.me a (.o6 x1) l.got (log.drop l.got.made)by
   rw[iB.out];simp only[EPh.stp];rw[if_neg (by show ¬(ji x1≠1);unfold ji;rw[R.out.2.1];simp[qf])];rfl)
  have xZ:(ok != 1)=X:=by simp[qf]
  go_upto_region 13 with fail;go_wp2_with fail;refine(tH ov 2 oc _).mono ?_;rintro e w7 ⟨rfl,D⟩;replace B:=B.aw D;replace f:=f.aw D;replace i:=i.aw D;replace d:=d.trans (Stp.aT _ D);have e1:ld ov 2 oc=kX x1:=by unfold kX mE Kw;rw[R.out.1,R.out.2.2]
  rw[e1];go_wp2_with fail;refine(nY .slot (dQ k.l 0 0) x1 (kX x1) (λr _ Q=>eX j k.me a (EPh.stp j a l.got (.o6 x1) r) Q) B Z (rK.out.trans (gJ _ _ _ _ _ _))).mono ?_;rintro e w9 (⟨x,o,rfl,y⟩|⟨v,rfl,⟨⟨y1,y2⟩,hx,rfl,F,hq5⟩,qa⟩)
  ·exact⟨Z,.inl ⟨x,o,Z,d.trans y⟩⟩
  replace d:=d.trans qa;replace f:=qa.aw f G;replace i:=qa.aw i E;have vm:=N hq5;cases y2 with
  | false=>
   have qd:=N (show Bs k j a t go log q w w9 from⟨_,F,d,f,i,vm.out⟩);have NT:=cU F;have DI:=N (show log.length+1-madeOf k.gp w9<log.length+1-madeOf k.gp wr by
    rw[NT,L.out.1];have o:=L.out.2.1;have h2:=L.out.2.2;show log.length+1-(l.made+1+1)<_;omega)
   go_wp2_with fail;go_roundw
   case rel=>exact qd.out
   case measure=>exact DI.out
  | true=>
   have uj:=N ((show q=eX j k.me a (oT (mE x1) O (l.got.made:Nat) l.got.got) (log.drop l.got.got.made)from vm.out).trans (rf j k.me a (.oc ⟨mE x1,O,(l.got.made:Nat),[]⟩) (df l.got.got 0) _ _ (λ_ _=>Z)));have qg:mE x1=ov:=R.out.1;rw[qg]at uj;go_upto_region 14 with fail;go_wp2_with fail;refine(jv F (eK _ _)).mono ?_;rintro e uq ⟨rfl,rfl⟩;have ru:((l.got.got.made-1:Nat):Int)=(l.got.made:Nat):=by show ((l.got.made+1-1:Nat):Int)=_;rw[jJ]
   rw[ru];obtain⟨A,zJ⟩:=nM (l.got.made);rw[zJ]at uj ⊢;go_wp2_with (refine aI Z 70 (.tmp 7) (.tmp 67) Z Z go (bh ov O 0 (A:Nat)) Z Z 70 aW i zK Z (by simp[aB]) ?_);replace F:=F.dK i M (bh ov O 0 (A:Nat));replace f:=f.a6 (b:=go) M (bh ov O 0 (A:Nat));replace d:=d.row (b:=go) (.inl (by rw[J.out.1];omega)) (bh ov O 0 (A:Nat));replace i:=i.bG (bh ov O 0 (A:Nat));generalize uq.setRow go (bh ov O 0 (A:Nat))=qJ at *;refine(gK j _ F uj.out).mono ?_;rintro e DD (⟨x,o,rfl,y⟩|⟨v,rfl,⟨qb,rfl,hp6,hq6⟩,K⟩)
   ·exact⟨Z,.inl ⟨x,o,Z,d.trans y⟩⟩
   replace d:=d.trans K;replace f:=K.aw f G;replace i:=K.aw i E;have S:=N (show q= .fin ⟨ov,O,(A:Nat),qb.gone⟩from hq6);go_wp2_with (first
    | (refine aM Z 70 (.tmp 7) Z go Z 70 (bh ov O 0 (A:Nat)) (0,0) _ i aJ Z zK ?_)
    | (refine aI Z 70 (.tmp 6) (.tmp 70) Z Z t (bh ov O 0 (A:Nat)) Z Z 70 aW f zK Z (by simp[aB]) ?_))
   have U:=hp6.dK f M (bh ov O 0 (A:Nat));replace f:=f.bG (bh ov O 0 (A:Nat));replace d:=d.row (b:=t) (.inl (by rw[J.out.1];omega)) (bh ov O 0 (A:Nat));rw[Exit.noGoto_ret];exact aS (v:=.agg (bh ov O 0 (A:Nat))) (bQ (p:=6) (ty:=70) Z _ _ t 70 _ (0,0) _ Z f aJ Z zK) Z (.inr ⟨_,Z,⟨_,_,_,_,S.out,Z,U⟩,d⟩)
 have T:=N P;go_upto_region 8 with fail;go_wp2_with fail;refine(fR n 1 H M).mono ?_;rintro e Y ⟨rfl,D⟩;replace H:=H.aw D;replace f:=f.aw D;replace i:=i.aw D;replace d:=d.trans (Stp.aT _ D);go_wp2_with fail;refine(iL (.nd n 1) (nodeAt k.l n 1) (λr _ Q=>eX j k.me a (EPh.stp j a l (.o4 n m) r) Q) H rfl (T.out.trans (gJ _ _ _ _ _ _))).mono ?_;rintro e w7 (⟨x,o,rfl,y⟩|⟨v,rfl,⟨⟨x1,x2⟩,hx,rfl,B,qc⟩,C⟩)
 ·exact⟨Z,.inl ⟨x,o,Z,d.trans y⟩⟩
 replace d:=d.trans C;replace f:=C.aw f G;replace i:=C.aw i E;have iB:=N ((show q=eX j k.me a ((df l.got 0).jc (.orr n ⟨x1,O,(m:Nat),[]⟩) λ_ s=>.go (.sub (.r1 n) (.od ⟨x1,O,(m:Nat),[]⟩)) s) (log.drop l.got.made)from qc).trans (rf j k.me a (.orr n ⟨x1,O,(m:Nat),[]⟩) (df l.got 0) _ _ (λ_ _=>Z)));go_wp2_with (refine aI Z 70 (.tmp 7) (.tmp 37) Z Z go (bh x1 O 0 (m:Nat)) Z Z 70 aW i zK Z (by simp[aB]) ?_);replace B:=B.dK i M (bh x1 O 0 (m:Nat));replace f:=f.a6 (b:=go) M (bh x1 O 0 (m:Nat));replace d:=d.row (b:=go) (.inl (by rw[J.out.1];omega)) (bh x1 O 0 (m:Nat));replace i:=i.bG (bh x1 O 0 (m:Nat));generalize w7.setRow go (bh x1 O 0 (m:Nat))=w8 at *;refine(gK j _ B iB.out).mono ?_;rintro e w9 (⟨x,o,rfl,y⟩|⟨v,rfl,⟨qb,rfl,F,hq5⟩,qa⟩)
 ·exact⟨Z,.inl ⟨x,o,Z,d.trans y⟩⟩
 replace d:=d.trans qa;replace f:=qa.aw f G;replace i:=qa.aw i E;have rK:=N ((show q=hH j k.me a (.sub (.r1 n) (.od ⟨x1,O,(m:Nat),[]⟩)) qb (log.drop qb.made)from hq5).trans (nj _ _ _ _ _ _ _));have rr:j=2*k.l.c.aO:=HTH.out.symm;subst rr;go_wp2_with fail;refine(AE n _ F HSE.out rK.out HNS.out).mono ?_;rintro e uq (⟨x,o,rfl,y⟩|⟨v,rfl,⟨z5,rfl,hp6,hq6,-⟩,K⟩)
 ·exact⟨Z,.inl ⟨x,o,Z,d.trans y⟩⟩
 replace d:=d.trans K;replace f:=K.aw f G;replace i:=K.aw i E;have S:=N (show q= .fin ⟨x1,O,(m:Nat),z5.gone⟩from hq6);go_wp2_with (first
  | (refine aM Z 70 (.tmp 7) Z go Z 70 (bh x1 O 0 (m:Nat)) (0,0) _ i aJ Z zK ?_)
  | (refine aI Z 70 (.tmp 6) (.tmp 70) Z Z t (bh x1 O 0 (m:Nat)) Z Z 70 aW f zK Z (by simp[aB]) ?_))
 have U:=hp6.dK f M (bh x1 O 0 (m:Nat));replace f:=f.bG (bh x1 O 0 (m:Nat));replace d:=d.row (b:=t) (.inl (by rw[J.out.1];omega)) (bh x1 O 0 (m:Nat));rw[Exit.noGoto_ret];exact aS (v:=.agg (bh x1 O 0 (m:Nat))) (bQ (p:=6) (ty:=70) Z _ _ t 70 _ (0,0) _ Z f aJ Z zK) Z (.inr ⟨_,Z,⟨_,_,_,_,S.out,Z,U⟩,d⟩)
end
theorem dp{o:Oper}{a:Act}{x:vn}{w:W}{ty:bM}{g:Nat}{v:I}(ho:o.op= .load ty x)(b:a.eval x=ptr g)(c:(cL ty ⟨g,0,Y⟩).run ao w= .ok v w):(nO a.eval o).run ao w= .ok (.value v) w:=by
 unfold nO;simp only[ho,b,ptr,Instr.loadAt,uS,cD,dF,bC,c]
section
variable {w:W} {k:Pk} {z:Pz} {log:Log} {q:An Out}
theorem OU(l:Ly)(h:Nat)(s:Int)(w:W)(f:eu l)(j:l.c.slots=1):U ao 94 #[lyV l,V H h,V H s] w (gy (dQ l s 0) w):=by
 have a:=Bk.made w 34 (lyC l);have d:=bA w (ag (lyC l) 34);have u:=N j;clear j;go_enter func94,ntmps94;go_upto_region 1 with fail;generalize w.alloc (ag (lyC l) 34)=v at *;obtain⟨b,i⟩:=nM (w.heap.size);rw[i]at a ⊢;clear i;have c:=a.cell 3;simp at c;rw[u.out]at c;have o:=a.lt;go_upto_region 4 with fail;clear c o;refine aH (S:=λw'=>Bk w' b 34 (lyC l)) (E:=λ_=>X) zK ?_;replace a:=a.drew;replace d:=d.drew;generalize v.drew=x at *;have y:((h:Int).tmod 1)=0:=Int.tmod_one _;refine wTq 9 [(0,13,lyV l),(1,14,V H s),(2,15,V H h),(3,16,V H 1),(4,17,V H 0),(5,18,V H 1),(6,19,V H 1),(7,20,V H 1),(8,21,V H 0)] ?_ a ?_
 ·intro w' n;have t:(cL 34 ⟨b,0,Y⟩).run ao w'= .ok (lyV l) w':=a7 w' b 34 34 (lyC l) (0,0) _ n aK Z zK
  (repeat' (first|exact bd|refine al ⟨_,Z,.inl ⟨Z,?_⟩⟩ ?_))
  all_goals first|exact dp Z Z t|((try simp only[au,ar,an,Act.put,ak,ay,az]);go_simp;(try rfl);done)
 refine wOq 9 (λK m=>?_);go_simp;refine(Mg l s 0 x f).mono ?_;rintro e A ⟨rfl,g⟩;refine sO m (λ_=>a.aw g) ?_;clear m K;refine wTq 1 [(10,6,V H (dQ l s 0))] ?_ (a.aw g) ?_
 ·intro w' n;exact zT
 refine aG zK ?_ _;go_wp2_with fail;go_ret;exact⟨Z,aE d g⟩
theorem Kq(th:Int)(op:Opr)(B o t D:Nat)(h:dz w k z log)(j:Bk w B 154 #[ptr k.gp])(i:Bk w o 3 #[aa ab (fj k.l 0)])(m:Bk w t 3 #[aa ab (dQ k.l 0 0)])(n:Bk w D 54 (di op))(F:q=hH th k.me op.a (.sub .t1 .ut) z (log.drop z.made))(L:q≠ .stuck):
  Calls ao 96 #[ptr B,ptr o,ptr t,ptr D] w (lq k q w λu H=>∃f d a y,q= .fin ⟨f,d,a,y.gone⟩/\u= .agg (bh f d 0 a)/\dz H k y log):=by
 have c:=Bk.made w 70 aW;have J:=h.lt;have g:=(Stp.refl k.gp w).alloc (ag aW 70);replace h:=h.aw (aA bS (ag aW 70));replace j:=j.alloc (ag aW 70);replace i:=i.alloc (ag aW 70);replace m:=m.alloc (ag aW 70);replace n:=n.alloc (ag aW 70);have A:=aj (al F L);go_enter func96,ntmps96;go_upto_region 1 with fail;generalize w.alloc (ag aW 70)=w1 at *;obtain⟨l,C⟩:=nM (w.heap.size);have S:=aj C;rw[C]at c J ⊢;have P:l≠k.gp:=zO;have E:=j.cell 0;have N:=i.cell 0;have K:=m.cell 0;have M:=n.cell 2;simp at E N K M;have qa:=j.lt;have V:=i.lt;have qb:=m.lt;have X:=n.lt;go_wp2_with fail;refine(MJ th op.a h A.out.1 A.out.2).mono ?_;rintro e Y (⟨x,I,rfl,O⟩|⟨v,rfl,⟨f,d,a,U,R,rfl,G⟩,s⟩)
 ·exact⟨Z,.inl ⟨x,I,Z,g.trans O⟩⟩
 replace g:=g.trans s;replace c:=s.aw c P;have T:=aj R;go_wp2_with (refine aI Z 70 (.tmp 4) (.tmp 10) Z Z l (bh f d 0 a) Z Z 70 aW c zK Z (by simp[aB]) ?_);have Q:=G.dK c zO (bh f d 0 a);replace c:=c.bG (bh f d 0 a);replace g:=g.row (b:=l) (.inl (by rw[S.out];omega)) (bh f d 0 a);exact aS (v:=.agg (bh f d 0 a)) (bQ (p:=4) (ty:=70) Z _ _ l 70 _ (0,0) _ Z c aJ Z zK) Z (.inr ⟨_,Z,⟨_,_,_,_,T.out,Z,Q⟩,g⟩)
theorem ML(a:Int)(B s y:Nat)(h:dz w k z log)(H:1<=k.l.c.aO/\k.l.c.aO<=8)(l:Bk w B 154 #[ptr k.gp])(j:Bk w s 3 #[aa ab (fj k.l 0)])(n:Bk w y 3 #[aa ab (dQ k.l 0 0)])(E:q=hH (2*k.l.c.aO) k.me a (.sub (.g1 0 .top) .og) z (log.drop z.made))(L:q≠ .stuck):
  Calls ao 98 #[ptr B,ptr s,ptr y] w (lq k q w λu G=>∃g f c A,q= .fin ⟨g,f,c,A.gone⟩/\u= .agg (bh g f 0 c)/\dz G k A log):=by
 have d:=Bk.made w 70 aW;have J:=h.lt;have i:=(Stp.refl k.gp w).alloc (ag aW 70);replace h:=h.aw (aA bS (ag aW 70));replace l:=l.alloc (ag aW 70);replace j:=j.alloc (ag aW 70);replace n:=n.alloc (ag aW 70);have o:=aj (al E (al L H));go_enter func98,ntmps98;go_upto_region 1 with fail;generalize w.alloc (ag aW 70)=Y at *;obtain⟨m,C⟩:=nM (w.heap.size);have Q:=aj C;rw[C]at d J ⊢;have N:m≠k.gp:=zO;have D:=l.cell 0;have R:=j.cell 0;have K:=n.cell 0;simp at D R K;have V:=l.lt;have U:=j.lt;have X:=n.lt;go_wp2_with fail;refine(pop_any a h o.out.2.2 o.out.1 o.out.2.1).mono ?_;rintro e qa (⟨x,I,rfl,M⟩|⟨v,rfl,⟨g,f,c,T,P,rfl,F⟩,t⟩)
 ·exact⟨Z,.inl ⟨x,I,Z,i.trans M⟩⟩
 replace i:=i.trans t;replace d:=t.aw d N;have S:=aj P;go_wp2_with (refine aI Z 70 (.tmp 3) (.tmp 7) Z Z m (bh g f 0 c) Z Z 70 aW d zK Z (by simp[aB]) ?_);have O:=F.dK d zO (bh g f 0 c);replace d:=d.bG (bh g f 0 c);replace i:=i.row (b:=m) (.inl (by rw[Q.out];omega)) (bh g f 0 c);exact aS (v:=.agg (bh g f 0 c)) (bQ (p:=3) (ty:=70) Z _ _ m 70 _ (0,0) _ Z d aJ Z zK) Z (.inr ⟨_,Z,⟨_,_,_,_,S.out,Z,O⟩,i⟩)
end
theorem enext(l:Ly)(me:Nat)(op:Opr)(g:cq)(gv:I)(A:Option Addr)(cap:Nat)(log:Log)(w:W)(f:eu l)(sX:l.c.slots=1)(LG:1<=l.c.aO/\l.c.aO<=8)(htop:0<=fj l 0)(ho:op.obj=0)(hk:(op.kind=4/\0<=op.a/\op.a<4294967296)\/op.kind=5)(hg:bI w gv g)(hs:gH w w.heap.size A log)(hl:log.length<=100000)(q:An Out)(hq:q=eX (2*l.c.aO) me op.a (te op.kind g) log)(mF:q≠ .stuck)(uM:∀o,q= .fin o->o.gone.length<=1000):
  U ao 72 #[lyV l,V H me,gv,.agg (di op),.slice A log.length cap] w (hJ l q w):=by
 obtain⟨G,gc,rfl,hN,yc⟩:=hg;have HG:=aj (show bI w (.slice G g.length gc) g from⟨G,gc,Z,hN,yc⟩);have qf:=aj (al f (al sX (al LG (al hs hl))));have HQ:=aj (al hq (al mF uM));have HK:=aj (al hk htop);have y:=(((Bk.made w 34 (lyC l)).alloc (ag (di op) 54)).alloc (ag cG 67)).alloc (ag aW 70);have n:=((Bk.new (w.alloc (ag (lyC l) 34)) (g:=w.heap.size+1) zS 54 (di op)).alloc (ag cG 67)).alloc (ag aW 70);have m:=(Bk.new ((w.alloc (ag (lyC l) 34)).alloc (ag (di op) 54)) (g:=w.heap.size+1+1) zS 67 cG).alloc (ag aW 70);have s:=Bk.new (((w.alloc (ag (lyC l) 34)).alloc (ag (di op) 54)).alloc (ag cG 67)) (g:=w.heap.size+1+1+1) zS 70 aW;have D:=aA (aA (aA (bA w (ag (lyC l) 34)) (ag (di op) 54)) (ag cG 67)) (ag aW 70);clear f sX LG htop hk hs hl hq mF uM hN yc;go_enter func72,ntmps72;go_upto_region 1 with fail;generalize (((w.alloc (ag (lyC l) 34)).alloc (ag (di op) 54)).alloc (ag cG 67)).alloc (ag aW 70)=w4 at *;obtain⟨b0,h0⟩:=nM (w.heap.size);have HW:=aj h0;rw[h0]at y n m s ⊢;clear h0;obtain⟨b1,h1⟩:=nM (b0+1);obtain⟨b2,F⟩:=nM (b1+1);obtain⟨b3,h3⟩:=nM (b2+1);rw[h1]at n;rw[h1,F]at m;rw[h1,F,h3]at s ⊢;have z1:b0<b1:=zO;have z2:b1<b2:=zO;have z3:b2<b3:=zO;clear h1 F h3;have K:=n.cell 1;simp at K;rw[ho]at K;have l1:=n.lt;go_wp2_with (refine aM Z 34 (.tmp 5) Z b0 Z 34 (lyC l) (0,0) _ y aK Z zK ?_);refine(I7 l 0 w4 qf.out.1).mono ?_;rintro e w5 ⟨rfl,a⟩;replace y:=y.aw a;replace n:=n.aw a;replace m:=m.aw a;replace s:=s.aw a;clear K l1;go_upto_region 2 with fail;have E:=Bk.made w5 3 #[V H (fj l 0)];replace y:=y.alloc (ag #[V H (fj l 0)] 3);replace n:=n.alloc (ag #[V H (fj l 0)] 3);replace m:=m.alloc (ag #[V H (fj l 0)] 3);replace s:=s.alloc (ag #[V H (fj l 0)] 3);replace D:=aA (aE D a) (ag #[V H (fj l 0)] 3);clear a;generalize w5.alloc (ag #[V H (fj l 0)] 3)=S at *;obtain⟨ky,h13⟩:=nM (w5.heap.size);rw[h13]at E ⊢;clear h13;have yd:=E.cell 0;have Nr:=E.lt;simp at yd;obtain⟨tp,KM⟩:=nM (fj l 0);have HTP:=aj KM;have htz:decide (tp<0)=false:=by have:=HK.out.2;rw[KM]at this;simp;omega
 rw[KM]at E yd ⊢;clear KM;go_upto_region 4 with fail;clear yd Nr htz;go_wp2_with (refine aM Z 34 (.tmp 5) Z b0 Z 34 (lyC l) (0,0) _ y aK Z zK ?_);have rI:w.heap.size<=S.heap.size:=D.size;have hG6:bI S (.slice G g.length gc) g:=HG.out.aw D;have hS6:gH S S.heap.size A log:=(qf.out.2.2.2.1.below D).more rI;refine(H9 (tp:=174) (tv:=154) (fd:=126) l me _ g A cap log S qf.out.1 hG6 hS6 qf.out.2.2.2.2).mono ?_;rintro e w7 ⟨rfl,O,a⟩;clear hG6 hS6;have A4:=s.lt;replace y:=y.aw a;replace n:=n.aw a;replace m:=m.aw a;replace s:=s.aw a;replace E:=E.aw a;replace D:=aE D a;obtain⟨k,oP⟩:=nM (r9 S l me A cap);have P:=aj (show k.l=l/\k.me=me/\k.gp=S.heap.size+1+1 from oP ▸ ⟨rfl,rfl,rfl⟩);have hgp:S.heap.size+1+1=k.gp:=P.out.2.2.symm;rw[oP]at O;rw[hgp];have hw6:S.heap.size<=k.gp:=zO;have HP6:=aj (al hw6 (al rI (show b3<k.gp by omega)));clear oP hgp hw6 a rI A4;go_upto_region 5 with fail;have qc:=Bk.made w7 154 #[ptr k.gp];have lp:=O.lt;replace O:=O.aw (aA bS (ag #[ptr k.gp] 154));replace y:=y.alloc (ag #[ptr k.gp] 154);replace n:=n.alloc (ag #[ptr k.gp] 154);replace m:=m.alloc (ag #[ptr k.gp] 154);replace s:=s.alloc (ag #[ptr k.gp] 154);replace E:=E.alloc (ag #[ptr k.gp] 154);replace D:=aA D (ag #[ptr k.gp] 154);generalize w7.alloc (ag #[ptr k.gp] 154)=w8 at *;obtain⟨oW,Oc⟩:=nM (w7.heap.size);rw[Oc]at qc lp ⊢;clear Oc;have K:=n.cell 1;simp at K;rw[ho]at K;have l1:=n.lt;go_wp2_with (refine aM rfl 34 (.tmp 5) rfl b0 rfl 34 (lyC l) (0,0) _ y aK rfl zK ?_);refine(OU l me 0 w8 qf.out.1 qf.out.2.1).mono ?_;rintro e w9 ⟨rfl,a⟩;replace O:=O.aw a;replace y:=y.aw a;replace n:=n.aw a;replace m:=m.aw a;replace s:=s.aw a;replace E:=E.aw a;replace qc:=qc.aw a;replace D:=aE D a;clear a K l1;go_upto_region 6 with fail;have k15:=Bk.made w9 3 #[V H (dQ l 0 0)];replace O:=O.aw (aA bS (ag #[V H (dQ l 0 0)] 3));replace y:=y.alloc (ag #[V H (dQ l 0 0)] 3);replace n:=n.alloc (ag #[V H (dQ l 0 0)] 3);replace m:=m.alloc (ag #[V H (dQ l 0 0)] 3);replace s:=s.alloc (ag #[V H (dQ l 0 0)] 3);replace E:=E.alloc (ag #[V H (dQ l 0 0)] 3);replace qc:=qc.alloc (ag #[V H (dQ l 0 0)] 3);replace D:=aA D (ag #[V H (dQ l 0 0)] 3);generalize w9.alloc (ag #[V H (dQ l 0 0)] 3)=uq at *;obtain⟨b15,h15⟩:=nM (w9.heap.size);rw[h15]at k15 ⊢;clear h15;have hmf:∀(fn:Fn) (first cap:Array I) (w:W),(uT fn first cap).run ao w= .ok (.func fn first cap) w:=λ_ _ _ _=>rfl;have qd:=n.cell 0;have Q:=n.cell 2;have yE:=qc.cell 0;simp at qd Q yE;have l1:=n.lt;have Io:=qc.lt;have k13':Bk uq ky 3 #[V H (fj k.l 0)]:=by rw[P.out.1,HTP.out];exact E
 have k15':Bk uq b15 3 #[V H (dQ k.l 0 0)]:=by rw[P.out.1];exact k15
 have HB:=aj (al D (al m s));have N:=aj (al n (al qc (al k13' (al k15' O))));have hgt:w.heap.size<=k.gp:=aF HP6.out.2.1 HP6.out.1;have HGT:=aj hgt;have uQ:=aj (Stp.aT k.gp D);clear y n m s E qc k15 k13' k15' O D lp hgt;rcases HK.out.1 with⟨hk4,ha0,yC⟩|CP
 ·have sf:(op.kind==4)=true:=by simp[hk4]
  have tP:decide (0<=op.a)=true:=by simpa using ha0
  have sW:decide (op.a<4294967296)=true:=by simpa using yC
  have iB:=aj (show q=hH (2*k.l.c.aO) k.me op.a (.sub .t1 .ut) ⟨[0,0,0],g,0⟩ (log.drop 0)by
   rw[HQ.out.1,hk4,P.out.1,P.out.2.1];rfl)
  clear hk4 ha0 yC;go_upto_region 7 with fail;go_wp2_with fail;have qB:=rW (fn:=95) (k:=k) (z:=⟨[0,0,0],g,0⟩) (log:=log) q (λj c qg qe=>q= .fin ⟨j,c,qg,qe.gone⟩) 96 #[ptr oW,ptr ky,ptr b15,ptr b1] k.gp uq N.out.2.2.2.2.lt N.out.2.2.2.2 (by intro w;simp[go_sem]) (λj c qg qe X=>HQ.out.2.2 _ X)
   (λw2 F=>(Kq (2*k.l.c.aO) op oW ky b15 b1 (N.out.2.2.2.2.aw F) (N.out.2.1.aw F) (N.out.2.2.1.aw F) (N.out.2.2.2.1.aw F) (N.out.1.aw F) iB.out HQ.out.2.1).mono λ_ _ h=>h.two)
  (with_reducible refine qB.mono ?_);rintro e qJ ⟨ib,qb⟩;replace qb:=qb.one;obtain⟨M,L,qa,J,j,c,B,C,d,u,i,T,rfl,ie⟩:∃qd K Q c3 j c B C d u i T,e=ai (.tuple #[.agg (bj qd K Q c3),.agg (bg j c B C (.slice d u i)),.bool T])/\∀w':W,(∀Y,bI qJ (.slice d u i) Y->bI w' (.slice d u i) Y)->Below w.heap.size w w'->hJ l q w (ai (.tuple #[.agg (bj qd K Q c3),.agg (bg j c B C (.slice d u i)),.bool T])) w':=by
   rcases ib with⟨x,hx,rfl⟩|⟨j,c,qg,qe,gv,X,rfl,mD⟩
   ·exact⟨_,_,_,_,_,_,_,_,_,_,_,_,Z,λw' _ a=>⟨.inl ⟨x,hx,by rw[P.out.1]⟩,a⟩⟩
   obtain⟨d,i,rfl,r1,r2⟩:=mD;exact⟨_,_,_,_,_,_,_,_,_,_,_,_,Z,λw' hk a=>⟨.inr ⟨_,_,X,Z,hk _ ⟨d,i,Z,r1,r2⟩⟩,a⟩⟩
  have HF:=aj ie;have m:=qb.aw HB.out.2.1 (by have:=HP6.out.2.2;omega);have s:=qb.aw HB.out.2.2 (by have:=HP6.out.2.2;omega);have nC:=uQ.out.trans qb;clear ib ie qb qB qd Q yE l1 Io;go_wp2_with (first
   | (refine aI Z 67 (.tmp 10) (.tmp 54) Z Z b2 (bj M L qa J) Z Z 67 cG m zK Z (by simp[aB]) ?_)
   | (refine aI Z 70 (.tmp 11) (.tmp 55) Z Z b3 (bg j c B C (.slice d u i)) Z Z 70 aW (s.a6 (b:=b2) zO (bj M L qa J)) zK Z (by simp[aB]) ?_))
  have xc:=s.a6 (b:=b2) zO (bj M L qa J);have ys:=(m.bG (bj M L qa J)).a6 (b:=b3) zO (bg j c B C (.slice d u i));have yr:=xc.bG (bg j c B C (.slice d u i));have lG:=(nC.row (b:=b2) (.inl (by rw[HW.out];omega)) (bj M L qa J)).row (b:=b3) (.inl (by rw[HW.out];omega)) (bg j c B C (.slice d u i));exact aS (v:=.tuple #[.agg (bj M L qa J),.agg (bg j c B C (.slice d u i)),.bool T]) (eo (p:=10) (q:=11) (t:=12) (t1:=67) (t2:=70) Z _ _ b2 b3 _ _ (0,0) (0,0) _ _ _ Z Z Z ys yr cF Z zK aJ Z zK) Z
   (HF.out _ (λY hg=>(hg.row m zD _).row xc zD _) (lG.part HGT.out (aq _)))
 have sf:(op.kind==4)=false:=by simp[CP]
 have tP:(op.kind==5)=true:=by simp[CP]
 have iB:=aj (show q=hH (2*k.l.c.aO) k.me op.a (.sub (.g1 0 .top) .og) ⟨[0,0,0],g,0⟩ (log.drop 0)by
  rw[HQ.out.1,CP,P.out.1,P.out.2.1];rfl)
 have LG:1<=k.l.c.aO/\k.l.c.aO<=8:=by rw[P.out.1];exact qf.out.2.2.1
 clear CP;go_upto_region 9 with fail;go_wp2_with fail;have qB:=rW (fn:=95) (k:=k) (z:=⟨[0,0,0],g,0⟩) (log:=log) q (λj c qg qe=>q= .fin ⟨j,c,qg,qe.gone⟩) 98 #[ptr oW,ptr ky,ptr b15] k.gp uq N.out.2.2.2.2.lt N.out.2.2.2.2 (by intro w;simp[go_sem]) (λj c qg qe X=>HQ.out.2.2 _ X)
  (λw2 F=>(ML op.a oW ky b15 (N.out.2.2.2.2.aw F) LG (N.out.2.1.aw F) (N.out.2.2.1.aw F) (N.out.2.2.2.1.aw F) iB.out HQ.out.2.1).mono λ_ _ h=>h.two)
 (with_reducible refine qB.mono ?_);rintro e qJ ⟨ib,qb⟩;replace qb:=qb.one;obtain⟨M,L,qa,J,j,c,B,C,d,u,i,T,rfl,ie⟩:∃qd K Q c3 j c B C d u i T,e=ai (.tuple #[.agg (bj qd K Q c3),.agg (bg j c B C (.slice d u i)),.bool T])/\∀w':W,(∀Y,bI qJ (.slice d u i) Y->bI w' (.slice d u i) Y)->Below w.heap.size w w'->hJ l q w (ai (.tuple #[.agg (bj qd K Q c3),.agg (bg j c B C (.slice d u i)),.bool T])) w':=by
  rcases ib with⟨x,hx,rfl⟩|⟨j,c,qg,qe,gv,X,rfl,mD⟩
  ·exact⟨_,_,_,_,_,_,_,_,_,_,_,_,Z,λw' _ a=>⟨.inl ⟨x,hx,by rw[P.out.1]⟩,a⟩⟩
  obtain⟨d,i,rfl,r1,r2⟩:=mD;exact⟨_,_,_,_,_,_,_,_,_,_,_,_,Z,λw' hk a=>⟨.inr ⟨_,_,X,Z,hk _ ⟨d,i,Z,r1,r2⟩⟩,a⟩⟩
 have HF:=aj ie;have m:=qb.aw HB.out.2.1 (by have:=HP6.out.2.2;omega);have s:=qb.aw HB.out.2.2 (by have:=HP6.out.2.2;omega);have nC:=uQ.out.trans qb;clear ib ie qb qB qd Q yE l1 Io;go_wp2_with (first
  | (refine aI Z 67 (.tmp 10) (.tmp 64) Z Z b2 (bj M L qa J) Z Z 67 cG m zK Z (by simp[aB]) ?_)
  | (refine aI Z 70 (.tmp 11) (.tmp 65) Z Z b3 (bg j c B C (.slice d u i)) Z Z 70 aW (s.a6 (b:=b2) zO (bj M L qa J)) zK Z (by simp[aB]) ?_))
 have xc:=s.a6 (b:=b2) zO (bj M L qa J);have ys:=(m.bG (bj M L qa J)).a6 (b:=b3) zO (bg j c B C (.slice d u i));have yr:=xc.bG (bg j c B C (.slice d u i));have lG:=(nC.row (b:=b2) (.inl (by rw[HW.out];omega)) (bj M L qa J)).row (b:=b3) (.inl (by rw[HW.out];omega)) (bg j c B C (.slice d u i));exact aS (v:=.tuple #[.agg (bj M L qa J),.agg (bg j c B C (.slice d u i)),.bool T]) (eo (p:=10) (q:=11) (t:=12) (t1:=67) (t2:=70) Z _ _ b2 b3 _ _ (0,0) (0,0) _ _ _ Z Z Z ys yr cF Z zK aJ Z zK) Z
  (HF.out _ (λY hg=>(hg.row m zD _).row xc zD _) (lG.part HGT.out (aq _)))
end elim
namespace segment
open Go.RowKit
attribute [local go_sem ↓] aQ aR
theorem fK(th b a:Int)(x:CPh)(z:Pz)(l:Log):fU th b a x z l=doR (x.acc b a) z (λr _ c=>ez th b a (x.stp th a z r) c) l:=by
 cases l with
 | nil=>rfl
 | cons r l=>exact tw th b a x z r l
theorem iV(th b a:Int)(k:CK)(y:SX)(f:Ret->Pz->CX)(l:Log)(c:∀t s,f t s=oS t s k):ez th b a (y.oM k f) l=fx th b (λt z l=>ez th b a (oS t z k) l) y l:=by
 cases y with
 | go x z=>exact nm th b a k l x z
 | ret t z=>show ez th b a (f t z) l=ez th b a (oS t z k) l;rw[c]
 | stuck=>rfl
section
variable {w:W} {k:Pk} {z:Pz} {log:Log} {q:An Out}
theorem Oh(th a n d:Int)(h:dz w k z log)(l:n<=9223372036854775807)(Y:0<=a/\a<4294967296)(G:q=fU th k.me a (.fl n d 0) z (log.drop z.made)):
  Calls ao 154 #[ptr k.gp,aa ab n,aa ab a] w (lq k q w λu I=>∃A:Pz,u= .tuple #[]/\dz I k A log/\z.made<=A.made/\q=fU th k.me a (.s6 n d) A (log.drop A.made)):=by
 have O:=N G;have qb:=h.lt;go_enter func154,ntmps154;go_wp2_with fail;refine(fR n 0 h l).mono ?_;rintro e w1 ⟨rfl,c⟩;replace h:=h.aw c;have b:=Stp.aT k.gp c;go_wp2_with fail;refine(ir (.nd n 0) (nodeAt k.l n 0) 0 (λr _ j=>ez th k.me a (CPh.stp th a z (.fl n d 0) r) j) h rfl (O.out.trans (fK _ _ _ _ _ _))).mono ?_;rintro e w2 (⟨x,g,rfl,i⟩|⟨v,rfl,⟨⟨x1,X⟩,m,rfl,o,Q⟩,f⟩)
 ·exact⟨Z,.inl ⟨x,g,Z,b.trans i⟩⟩
 replace b:=b.trans f;have M:=N (show q=fU th k.me a (.fl n d 1) z.got (log.drop z.got.made)from Q);go_wp2_with fail;refine(fR n 1 o l).mono ?_;rintro e w3 ⟨rfl,c⟩;replace o:=o.aw c;replace b:=b.trans (Stp.aT k.gp c);have W:IntKind.i64.wrap (a+2)=a+2:=dh _ zO;go_wp2_with fail;refine(ir (.nd n 1) (nodeAt k.l n 1) (a+2) (λr _ j=>ez th k.me a (CPh.stp th a z.got (.fl n d 1) r) j) o rfl (M.out.trans (fK _ _ _ _ _ _))).mono ?_;rintro e w4 (⟨x,g,rfl,i⟩|⟨v,rfl,⟨⟨D,t⟩,m,rfl,B,K⟩,f⟩)
 ·exact⟨Z,.inl ⟨x,g,Z,b.trans i⟩⟩
 replace b:=b.trans f;have H:=N (show q=fU th k.me a (.fl n d 2) z.got.got (log.drop z.got.got.made)from K);go_wp2_with fail;refine wp_loop_rounds 5 ?_;rw[dB];go_wp2_with fail;refine(fR n 2 B l).mono ?_;rintro e E ⟨rfl,c⟩;replace B:=B.aw c;replace b:=b.trans (Stp.aT k.gp c);go_wp2_with fail;refine(ir (.nd n 2) (nodeAt k.l n 2) 0 (λr _ j=>ez th k.me a (CPh.stp th a z.got.got (.fl n d 2) r) j) B rfl (H.out.trans (fK _ _ _ _ _ _))).mono ?_;rintro e F (⟨x,g,rfl,i⟩|⟨v,rfl,⟨⟨D,t⟩,m,rfl,C,qa⟩,f⟩)
 ·exact⟨Z,.inl ⟨x,g,Z,b.trans i⟩⟩
 replace b:=b.trans f;have L:=N (show q=fU th k.me a (.fl n d 3) z.got.got.got (log.drop z.got.got.got.made)from qa);go_wp2_with fail;rw[dB];go_wp2_with fail;refine(fR n 3 C l).mono ?_;rintro e E ⟨rfl,c⟩;replace C:=C.aw c;replace b:=b.trans (Stp.aT k.gp c);go_wp2_with fail;refine(ir (.nd n 3) (nodeAt k.l n 3) 0 (λr _ j=>ez th k.me a (CPh.stp th a z.got.got.got (.fl n d 3) r) j) C rfl (L.out.trans (fK _ _ _ _ _ _))).mono ?_;rintro e F (⟨x,g,rfl,i⟩|⟨v,rfl,⟨⟨D,t⟩,m,rfl,y,P⟩,f⟩)
 ·exact⟨Z,.inl ⟨x,g,Z,b.trans i⟩⟩
 replace b:=b.trans f;have R:=N (show q=fU th k.me a (.fl n d 4) z.got.got.got.got (log.drop z.got.got.got.got.made)from P);go_wp2_with fail;rw[dB];go_wp2_with fail;refine(fR n 4 y l).mono ?_;rintro e E ⟨rfl,c⟩;replace y:=y.aw c;replace b:=b.trans (Stp.aT k.gp c);go_wp2_with fail;refine(ir (.nd n 4) (nodeAt k.l n 4) 0 (λr _ j=>ez th k.me a (CPh.stp th a z.got.got.got.got (.fl n d 4) r) j) y rfl (R.out.trans (fK _ _ _ _ _ _))).mono ?_;rintro e F (⟨x,g,rfl,i⟩|⟨v,rfl,⟨⟨D,t⟩,m,rfl,s,V⟩,f⟩)
 ·exact⟨Z,.inl ⟨x,g,Z,b.trans i⟩⟩
 replace b:=b.trans f;have S:=N (show q=fU th k.me a (.fl n d 5) z.got.got.got.got.got (log.drop z.got.got.got.got.got.made)from V);go_wp2_with fail;rw[dB];go_wp2_with fail;refine(fR n 5 s l).mono ?_;rintro e E ⟨rfl,c⟩;replace s:=s.aw c;replace b:=b.trans (Stp.aT k.gp c);go_wp2_with fail;refine(ir (.nd n 5) (nodeAt k.l n 5) 0 (λr _ j=>ez th k.me a (CPh.stp th a z.got.got.got.got.got (.fl n d 5) r) j) s rfl (S.out.trans (fK _ _ _ _ _ _))).mono ?_;rintro e F (⟨x,g,rfl,i⟩|⟨v,rfl,⟨⟨D,t⟩,m,rfl,J,U⟩,f⟩)
 ·exact⟨Z,.inl ⟨x,g,Z,b.trans i⟩⟩
 replace b:=b.trans f;have T:=N (show q=fU th k.me a (.s6 n d) z.got.got.got.got.got.got (log.drop z.got.got.got.got.got.got.made)from U);go_wp2_with fail;rw[dB];go_wp2_with fail;exact aS (v:=.tuple #[]) (gT Z _ _ _) Z (.inr ⟨_,Z,⟨_,Z,J,by show z.made<=z.made+1+1+1+1+1+1;omega,T.out⟩,b⟩)
end
def SL(k:Pk)(a:Int)(c f e h:Nat)(bq:Int)(gb g:Nat)(i:Int)(b:Bool)(d:Int):List (Nat × bM × Array I):=
 [(c,158,#[ptr k.gp]),(f,3,#[V H (eN k.l 0)]),(e,3,#[V H a]),(h,3,#[V H bq]),(gb,70,aW),(g,81,#[V H i,.bool b,V H d])]
theorem SL.set{w:W}{k:Pk}{a:Int}{d f e b:Nat}{bq:Int}{gb j:Nat}{o:Int}{l:Bool}{m:Int}(h:Bks w k.gp (SL k a d f e b bq gb j o l m))(c:d≠b/\f≠b/\e≠b/\gb≠b/\j≠b)(n:Int):
  Bks (w.setCell ⟨b,0,Y⟩ (V H n)) k.gp (SL k a d f e b n gb j o l m):=by
 have g:∀(i:Nat) (x:Nat × bM × Array I),(SL k a d f e b bq gb j o l m)[i]? =J x->Bk w x.1 x.2.1 x.2.2/\x.1≠k.gp:=λi x s=>h x (aU s);have t:Bk (w.setCell ⟨b,0,Y⟩ (V H n)) b 3 #[V H n]:=Bk.stored (g 3 _ Z).1 0 (V H n);exact .cons (Bk.other (p:=⟨b,0,Y⟩) (g 0 _ Z).1 c.1 _) (g 0 _ Z).2 (.cons (Bk.other (p:=⟨b,0,Y⟩) (g 1 _ Z).1 c.2.1 _) (g 1 _ Z).2 (.cons (Bk.other (p:=⟨b,0,Y⟩) (g 2 _ Z).1 c.2.2.1 _) (g 2 _ Z).2 (.cons t (g 3 _ Z).2
  (.cons (Bk.other (p:=⟨b,0,Y⟩) (g 4 _ Z).1 c.2.2.2.1 _) (g 4 _ Z).2 (.cons (Bk.other (p:=⟨b,0,Y⟩) (g 5 _ Z).1 c.2.2.2.2 _) (g 5 _ Z).2 .nil)))))
def SnPost(k:Pk)(th a:Int)(log:Log)(q:An Out)(g:Nat)(m0:Nat)(u:I)(c:W):Prop:=
 (∃f e d b,q= .fin ⟨f,e,d,b.gone⟩/\u= .tuple #[.agg (bh f e 0 d),ah O]/\dz c k b log)\/
 (∃bq b,u= .tuple #[.agg aW,ah X]/\dz c k b log/\Bk c g 3 #[V H bq]/\0<=bq/\bq<65536/\m0<b.made/\q=fU th k.me a (.sub (.g1 0 .tail) (.sg bq)) b (log.drop b.made))
def JR(k:Pk)(th a:Int)(log:Log)(q:An Out)(L:List (Nat × bM × Array I))(d:Nat)(m0:Nat)(bq c:Int)(w:W)(v:I)(wr:W):Prop:=
 ∃(i:Nat) (b:Pz),v=V H (i:Nat)/\i<=5/\dz wr k b log/\cH k.gp d w wr/\Bks wr k.gp L/\m0<b.made/\
  (i<5->q=fU th k.me a (.s2 bq c i) b (log.drop b.made))/\(i=5->q=fU th k.me a (.s4 bq c) b (log.drop b.made))
theorem dp{o:Oper}{a:Act}{x:vn}{w:W}{ty:bM}{g:Nat}{v:I}(ho:o.op= .load ty x)(b:a.eval x=ptr g)(c:(cL ty ⟨g,0,Y⟩).run ao w= .ok v w):(nO a.eval o).run ao w= .ok (.value v) w:=by
 unfold nO;simp only[ho,b,ptr,Instr.loadAt,uS,cD,dF,bC,c]
section
variable {w:W} {k:Pk} {z:Pz} {log:Log} {q:An Out}
theorem zo(th a bq b:Int)(i:Nat)(z':Pz)(hi:i<5)(c:q=ez th k.me a (jN bq b i z') (log.drop z'.made)):
  (i+1<5->q=fU th k.me a (.s2 bq b (i+1)) z' (log.drop z'.made))/\(i+1=5->q=fU th k.me a (.s4 bq b) z' (log.drop z'.made)):=by
 unfold jN at c;constructor
 ·intro h;rw[c,if_pos M];rfl
 intro h;rw[c,if_neg M];rfl
theorem Hv(th a bq:Int)(qc N qb bm:Nat)(h:dz w k z log)(ha:0<=a/\a<4294967296)(hm:0<=bq/\bq<65536)(hn:qc≠bm/\N≠bm/\qb≠bm)(hg:qc≠k.gp/\N≠k.gp/\qb≠k.gp/\bm≠k.gp)(hBm:k.B<=bm)(qf:Bk w qc 158 #[ptr k.gp])(X:Bk w N 3 #[V H (eN k.l 0)])(kv:Bk w qb 3 #[V H a])(qe:Bk w bm 3 #[V H bq])(hq:q=fU th k.me a (.sub (.g1 0 .tail) (.sg bq)) z (log.drop z.made))(mF:q≠ .stuck):
  Calls ao 144 #[ptr qc,ptr N,ptr qb,ptr bm] w (jC k bm q w (SnPost k th a log q bm z.made)):=by
 have HQ:=aj (hq.trans (nm _ _ _ _ _ _ _));have HNS:=aj mF;have kb:=Bk.made w 70 aW;have lpg:=h.lt;have lbm:=qe.lt;have d:=(cH.refl k.gp bm w).alloc (ag aW 70);replace h:=h.aw (aA bS (ag aW 70));replace qf:=qf.alloc (ag aW 70);replace X:=X.alloc (ag aW 70);replace kv:=kv.alloc (ag aW 70);replace qe:=qe.alloc (ag aW 70);clear hq mF;go_enter func144,ntmps144;go_upto_region 1 with fail;generalize w.alloc (ag aW 70)=w1 at *;obtain⟨gb,ya⟩:=nM (w.heap.size);have BI:=aj ya;rw[ya]at kb lpg lbm ⊢;clear ya;have m:=qf.cell 0;have A:=qf.lt;have l:=X.cell 0;have lt0:=X.lt;simp at m l;go_wp2_with fail;have hd:Calls ao 145 #[ptr k.gp,V H 0,V H (eN k.l 0)] w1 _:=wy th 0 .tail (eN k.l 0) _ h M Z HQ.out;(with_reducible refine hd.mono ?_);rintro e w2 (⟨x,D,rfl,qa⟩|⟨v,rfl,⟨o,p,z1,rfl,f,BE,ru,-⟩,hs⟩)
 ·exact⟨Z,.inl ⟨x,D,Z,d.trans qa.two⟩⟩
 replace d:=d.trans hs.two;replace qf:=hs.aw qf hg.1;replace X:=hs.aw X hg.2.1;replace kv:=hs.aw kv hg.2.2.1;replace qe:=hs.aw qe hg.2.2.2;replace kb:=hs.aw kb M;have rG:=aj (show q=fU th k.me a (.s2 bq o 0) z1 (log.drop z1.made)from BE);have HM1:=aj ru;clear h hd hs BE ru HQ m A l lt0;go_wp2_with fail;refine(gL o _).mono ?_;rintro e w3 ⟨rfl,g⟩;replace f:=f.aw g;replace d:=d.trans (cH.aT _ _ g);replace qf:=qf.aw g;replace X:=X.aw g;replace kv:=kv.aw g;replace qe:=qe.aw g;replace kb:=kb.aw g;clear g;obtain⟨j,qD⟩:=nM (o%65536);obtain⟨u,uC⟩:=nM ((o / 65536%2==1));obtain⟨l,KY⟩:=nM (o / 131072%268435456);have LM:0<=j/\j<65536:=M;rw[qD,uC,KY];have xU:=aj (al qD KY);clear qD uC KY;go_upto_region 3 with fail;have kr:=Bk.made w3 81 #[V H j,.bool u,V H l];have zg3:=f.lt;have zb3:=kb.lt;have zm3:=qe.lt;replace f:=f.aw (aA bS (ag #[V H j,.bool u,V H l] 81));replace d:=d.alloc (ag #[V H j,.bool u,V H l] 81);replace qf:=qf.alloc (ag #[V H j,.bool u,V H l] 81);replace X:=X.alloc (ag #[V H j,.bool u,V H l] 81);replace kv:=kv.alloc (ag #[V H j,.bool u,V H l] 81);replace qe:=qe.alloc (ag #[V H j,.bool u,V H l] 81);replace kb:=kb.alloc (ag #[V H j,.bool u,V H l] 81);generalize w3.alloc (ag #[V H j,.bool u,V H l] 81)=w4 at *;obtain⟨F,NY⟩:=nM (w3.heap.size);rw[NY]at kr zg3 zb3 zm3 ⊢;clear NY;have c:Bks w4 k.gp (SL k a qc N qb bm bq gb F j u l):=.cons qf hg.1 (.cons X hg.2.1 (.cons kv hg.2.2.1 (.cons qe hg.2.2.2 (.cons kb M (.cons kr M .nil)))));have LI:qc≠bm/\N≠bm/\qb≠bm/\gb≠bm/\F≠bm:=⟨hn.1,hn.2.1,hn.2.2,M,M⟩;clear qf X kv qe kb kr;have HR:=aj (show JR k th a log q (SL k a qc N qb bm bq gb F j u l) bm z.made bq o w (V H 0) w4 from⟨0,z1,rfl,M,f,d,c,HM1.out,λ_=>rG.out,λe=>by cases e⟩);clear f d c rG;have I1:=aj (al LI (al hBm (al hg.2.2.2 hm)));have xn:k.gp<=gb:=M;have mD:0<=a/\a<4294967296:=ha;have Jx:0<=bq/\bq<65536:=hm;clear LI hn hg hBm lpg lbm zg3 zb3 zm3 ha hm;go_wp2_with fail;go_loopw [25] (λv25 wr=>JR k th a log q (SL k a qc N qb bm bq gb F j u l) bm z.made bq o w v25 wr) (λv25 _=>5-(intOf v25).toNat)
 case atStart=>exact HR.out
 case round=>
 clear HR;obtain⟨i,B,rfl,hi,f,d,c,hm2,hqa,hqb⟩:=hrel;have JY:=aj hm2;clear hm2;by_cases fH:i<5
 ·have Bu:=aj (hqa fH);have hib5:decide ((i:Int)<5)=O:=zP;clear hqa hqb;have m:=(c.at_ 0 Z).cell 0;have A:=(c.at_ 0 Z).lt;simp at m A;have cr:=(c.at_ 5 Z).cell 0;have lr0:=(c.at_ 5 Z).lt;simp at cr lr0;go_wp2_with fail;refine(fR j (1+i) f M).mono ?_;rintro e w5 ⟨rfl,g⟩;replace f:=f.aw g;replace c:=c.aw g;replace d:=d.trans (cH.aT _ _ g);clear g;clear m A cr lr0;have m:=(c.at_ 0 rfl).cell 0;have A:=(c.at_ 0 rfl).lt;simp at m A;go_wp2_with fail;refine(iL (.nd (idxOf o) (1+i)) (nodeAt k.l j (1+i)) (λr _ R=>ez th k.me a (CPh.stp th a B (.s2 bq o i) r) R) f (by rw[<- xU.out.1];simp only[adr,idxOf]) (Bu.out.trans (fK _ _ _ _ _ _))).mono ?_;rintro e w6 (⟨x,D,rfl,qa⟩|⟨v,rfl,⟨⟨y1,y2⟩,P,rfl,I,zI⟩,C⟩)
  ·exact⟨Z,.inl ⟨x,D,Z,d.trans qa.two⟩⟩
  replace d:=d.trans C.two;replace c:=c.stp C;have sT:=aj zI;clear m A;clear f C P zI Bu;have f:=I;clear I;by_cases U:y1=0;rotate_left
  ·have oV:=zo th a bq o i B.got fH (show q=ez th k.me a (jN bq o i B.got) (log.drop B.got.made)by
    rw[sT.out];simp only[CPh.stp];rw[if_neg (by simpa using U)];rfl)
   have HR:=aj (show JR k th a log q (SL k a qc N qb bm bq gb F j u l) bm z.made bq o w (V H ((i+1:Nat):Int)) w6 from⟨i+1,_,Z,M,f,d,c,by have:=JY.out;show z.made<B.made+1;omega,oV.1,oV.2⟩);have xZ:(y1==0)=false:=by simp[U]
   clear f d c oV sT U;go_wp2_with fail;go_roundw
   case rel=>exact HR.out
   case measure=>simp[intOf];omega
  subst U;have mB:=aj (show q=fU th k.me a (.s3 bq o i) B.got (log.drop B.got.made)from sT.out);clear sT;have hw:IntKind.i64.wrap (a+2)=a+2:=dh _ M;have m:=(c.at_ 0 Z).cell 0;have A:=(c.at_ 0 Z).lt;simp at m A;have cv:=(c.at_ 2 Z).cell 0;have lv0:=(c.at_ 2 Z).lt;simp at cv lv0;go_wp2_with fail;refine(nY (.nd (idxOf o) (1+i)) (nodeAt k.l j (1+i)) 0 (a+2) (λr _ R=>ez th k.me a (CPh.stp th a B.got (.s3 bq o i) r) R) f (by rw[<- xU.out.1];simp only[adr,idxOf]) (mB.out.trans (fK _ _ _ _ _ _))).mono ?_;rintro e w7 (⟨x,D,rfl,qa⟩|⟨v,rfl,⟨⟨t1,t2⟩,P,rfl,hp3,Ju⟩,sj⟩)
  ·exact⟨Z,.inl ⟨x,D,Z,d.trans qa.two⟩⟩
  replace d:=d.trans sj.two;replace c:=c.stp sj;have iB:=aj Ju;clear m A cv lv0;clear f sj P Ju mB hw;have f:=hp3;clear hp3;cases t2 with
  | false=>
   have oV:=zo th a bq o i B.got.got fH iB.out;have HR:=aj (show JR k th a log q (SL k a qc N qb bm bq gb F j u l) bm z.made bq o w (V H ((i+1:Nat):Int)) w7 from⟨i+1,_,Z,M,f,d,c,by have:=JY.out;show z.made<B.made+1+1;omega,oV.1,oV.2⟩);clear f d c oV iB;go_wp2_with fail;go_roundw
   case rel=>exact HR.out
   case measure=>simp[intOf];omega
  | true=>
   obtain⟨y,zJ⟩:=nM (B.got.made);have HPM:=aj zJ;have ru:((B.got.got.made-1:Nat):Int)=(y:Nat):=by rw[<- zJ];show ((B.got.made+1-1:Nat):Int)=_;rw[jJ]
   clear zJ;have m:=(c.at_ 0 Z).cell 0;have A:=(c.at_ 0 Z).lt;simp at m A;go_upto_region 8 with fail;go_wp2_with fail;refine(jv f (eK _ _)).mono ?_;rintro e w8 ⟨rfl,rfl⟩;rw[ru];clear ru;clear m A;by_cases LJ:bq=0
   ·have rK:=aj ((show q=ez th k.me a (iY 0 O (y:Nat) B.got.got) (log.drop B.got.got.made)by
     rw[iB.out,<- HPM.out];simp only[CPh.stp];rw[if_pos trivial,if_neg (by simpa using LJ)];rfl).trans (iV th k.me a (.oc ⟨0,O,(y:Nat),[]⟩) (df B.got.got 0) _ _ (λ_ _=>Z)))
    have hmb:(bq != 0)=false:=by simp[LJ]
    clear iB;have J:=(c.at_ 3 Z).cell 0;have T:=(c.at_ 3 Z).lt;simp at J T;go_upto_region 11 with fail;clear hmb;clear J T;have m:=(c.at_ 0 Z).cell 0;have A:=(c.at_ 0 Z).lt;simp at m A;go_wp2_with fail;refine(gK th _ f rK.out).mono ?_;rintro e wc (⟨x,D,rfl,qa⟩|⟨v,rfl,⟨zc,rfl,hp',AX⟩,Q⟩)
    ·exact⟨Z,.inl ⟨x,D,Z,d.trans qa.two⟩⟩
    replace d:=d.trans Q.two;replace c:=c.stp Q;have DB:=aj (show q= .fin ⟨0,O,(y:Nat),zc.gone⟩from AX);clear m A;clear f Q AX
    rename dz wc k zc log=>f
    go_wp2_with (refine aI Z 70 (.tmp 4) (.tmp 55) Z Z gb (bh 0 O 0 (y:Nat)) Z Z 70 aW (c.at_ 4 Z) zK Z (by simp[aB]) ?_);have W:=f.dK (c.at_ 4 Z) xn (bh 0 O 0 (y:Nat));have qd:=Bk.bG (c.at_ 4 Z) (bh 0 O 0 (y:Nat));replace d:=d.row (b:=gb) (.inl (by rw[BI.out];omega)) (bh 0 O 0 (y:Nat));exact aS (v:=.tuple #[.agg (bh 0 O 0 (y:Nat)),ah O]) (fO (p:=4) (t:=5) (t1:=70) Z _ _ gb _ (0,0) _ _ Z Z qd aJ Z zK) Z (.inr ⟨_,Z,.inl ⟨_,_,_,_,DB.out,Z,W⟩,d⟩)
   have rK:=aj ((show q=fU th k.me a (.sub (.v1 bq) (.sv y)) B.got.got (log.drop B.got.got.made)by
    rw[iB.out,<- HPM.out];simp only[CPh.stp];rw[if_pos trivial,if_pos (by simpa using LJ)];rfl).trans (nm _ _ _ _ _ _ _))
   have hmb:(bq != 0)=O:=by simp[LJ]
   clear iB;have J:=(c.at_ 3 Z).cell 0;have T:=(c.at_ 3 Z).lt;simp at J T;have m:=(c.at_ 0 Z).cell 0;have A:=(c.at_ 0 Z).lt;simp at m A;go_upto_region 10 with fail;clear hmb;go_wp2_with fail;refine(MM th bq _ f M rK.out).mono ?_;rintro e wg (⟨x,D,rfl,qa⟩|⟨v,rfl,⟨zg,rfl,hp',hqg,-⟩,hsg⟩)
   ·exact⟨Z,.inl ⟨x,D,Z,d.trans qa.two⟩⟩
   replace d:=d.trans hsg.two;replace c:=c.stp hsg;have vm:=aj ((show q=ez th k.me a (iY 0 O (y:Nat) zg) (log.drop zg.made)from hqg).trans (iV th k.me a (.oc ⟨0,O,(y:Nat),[]⟩) (df zg 0) _ _ (λ_ _=>Z)));clear J T m A;clear f hsg hqg rK
   rename dz wg k zg log=>f
   have m:=(c.at_ 0 Z).cell 0;have A:=(c.at_ 0 Z).lt;simp at m A;go_wp2_with fail;refine(gK th _ f vm.out).mono ?_;rintro e wc (⟨x,D,rfl,qa⟩|⟨v,rfl,⟨zc,rfl,hp',AX⟩,Q⟩)
   ·exact⟨Z,.inl ⟨x,D,Z,d.trans qa.two⟩⟩
   replace d:=d.trans Q.two;replace c:=c.stp Q;have DB:=aj (show q= .fin ⟨0,O,(y:Nat),zc.gone⟩from AX);clear m A;clear f Q AX
   rename dz wc k zc log=>f
   go_wp2_with (refine aI Z 70 (.tmp 4) (.tmp 55) Z Z gb (bh 0 O 0 (y:Nat)) Z Z 70 aW (c.at_ 4 Z) zK Z (by simp[aB]) ?_);have W:=f.dK (c.at_ 4 Z) xn (bh 0 O 0 (y:Nat));have qd:=Bk.bG (c.at_ 4 Z) (bh 0 O 0 (y:Nat));replace d:=d.row (b:=gb) (.inl (by rw[BI.out];omega)) (bh 0 O 0 (y:Nat));exact aS (v:=.tuple #[.agg (bh 0 O 0 (y:Nat)),ah O]) (fO (p:=4) (t:=5) (t1:=70) Z _ _ gb _ (0,0) _ _ Z Z qd aJ Z zK) Z (.inr ⟨_,Z,.inl ⟨_,_,_,_,DB.out,Z,W⟩,d⟩)
 have hi5:i=5:=M;subst hi5;have Bu:=aj (hqb Z);clear hqa hqb fH hi;go_upto_region 14 with fail;refine aH (S:=λw'=>Bks w' k.gp (SL k a qc N qb bm bq gb F j u l)) (E:=λ_=>false) zK ?_;replace f:dz wr.drew k _ log:=f.aw (bD wr);replace d:=d.drew;replace c:=c.drew;generalize wr.drew=wrd at *;refine wTq 4 [(0,57,ptr k.gp),(1,58,ptr k.gp),(2,59,ae (some ⟨F,0,Y⟩)),(3,60,V H j)] ?_ c ?_
 ·intro w' G;have m:=(G.at_ 0 Z).cell 0;simp at m;have cr:=(G.at_ 5 Z).cell 0;simp at cr;have L:(cL 81 ⟨F,0,Y⟩).run ao w'= .ok (mW j u l) w':=a7 w' F 81 81 #[V H j,.bool u,V H l] (0,0) _ (G.at_ 5 Z) underlying81 Z zK
  (repeat' (first|exact bd|refine al ⟨_,Z,.inl ⟨Z,?_⟩⟩ ?_))
  all_goals first|exact dp Z Z L|((try simp only[au,ar,an,Act.put,ak,ay,az]);go_simp;done)
 refine wOq 4 (λK s=>?_);go_simp;refine(fR j 0 f M).mono ?_;rintro e w5 ⟨rfl,g⟩;replace f:=f.aw g;replace c:=c.aw g;replace d:=d.trans (cH.aT _ _ g);clear g;refine sO s (λ_=>c) ?_;clear s K;refine wOq 5 (λK s=>?_);go_simp;refine(iL (.nd (idxOf o) 0) (nodeAt k.l j 0) (λr _ R=>ez th k.me a (CPh.stp th a B (.s4 bq o) r) R) f (by rw[<- xU.out.1];simp only[adr,idxOf]) (Bu.out.trans (fK _ _ _ _ _ _))).mono ?_;rintro e w6 (⟨x,D,rfl,qa⟩|⟨v,rfl,⟨⟨nx,nx2⟩,P,rfl,I,zI⟩,C⟩)
 ·exact⟨Z,.inl ⟨x,D,Z,d.trans qa.two⟩⟩
 replace d:=d.trans C.two;replace c:=c.stp C;have sT:=aj zI;clear f C P zI Bu;have f:=I;clear I;refine sO s (λ_=>c) ?_;clear s K;refine wTq 1 [(6,12,V H nx)] ?_ c ?_
 ·intro w' G;have L:(cL 81 ⟨F,0,Y⟩).run ao w'= .ok (mW j u l) w':=a7 w' F 81 81 #[V H j,.bool u,V H l] (0,0) _ (G.at_ 5 Z) underlying81 Z zK
  (repeat' (first|exact bd|refine al ⟨_,Z,.inl ⟨Z,?_⟩⟩ ?_))
  all_goals first|exact dp Z Z L|((try simp only[au,ar,an,Act.put,ak,ay,az]);go_simp;done)
 refine aG zK ?_ _;by_cases U:nx=0;rotate_left
 ·have xZ:(nx != 0)=O:=by simp[U]
  have mB:=aj (show q=fU th k.me a (.s5 bq o nx) B.got (log.drop B.got.made)by
   rw[sT.out];simp only[CPh.stp];rw[if_pos (by simpa using U)];rfl)
  clear sT U;go_upto_region 16 with fail;clear xZ;refine aH (S:=λw'=>Bks w' k.gp (SL k a qc N qb bm bq gb F j u l)) (E:=λ_=>false) zK ?_;replace f:dz w6.drew k _ log:=f.aw (bD w6);replace d:=d.drew;replace c:=c.drew;generalize w6.drew=w6d at *;refine wTq 5 [(0,65,ptr k.gp),(1,66,V H (eN k.l 0)),(2,67,V H o),(3,68,mW j u l),(4,69,V H nx)] ?_ c ?_
  ·intro w' G;have m:=(G.at_ 0 Z).cell 0;simp at m;have qS:=(G.at_ 1 Z).cell 0;simp at qS;have L:(cL 81 ⟨F,0,Y⟩).run ao w'= .ok (mW j u l) w':=a7 w' F 81 81 #[V H j,.bool u,V H l] (0,0) _ (G.at_ 5 Z) underlying81 Z zK
   (repeat' (first|exact bd|refine al ⟨_,Z,.inl ⟨Z,?_⟩⟩ ?_))
   all_goals first|exact dp Z Z L|((try simp only[au,ar,an,Act.put,ak,ay,az]);go_simp;done)
  refine wOq 5 (λK s=>?_);go_simp;refine(jQ j u l nx _).mono ?_;rintro e wf ⟨rfl,g⟩;replace f:=f.aw g;replace c:=c.aw g;replace d:=d.trans (cH.aT _ _ g);clear g;refine sO s (λ_=>c) ?_;clear s K;refine wOq 6 (λK s=>?_);go_simp;refine(gk (nx%65536) false ((l+1)%268435456) _).mono ?_;rintro e wg ⟨rfl,g⟩;replace f:=f.aw g;replace c:=c.aw g;replace d:=d.trans (cH.aT _ _ g);clear g;have BC:dL (nx%65536) false ((l+1)%268435456)=dC o nx:=by unfold dC kH;rw[xU.out.2]
  rw[BC];clear BC;refine sO s (λ_=>c) ?_;clear s K;refine wOq 7 (λK s=>?_);go_simp;refine(nY .tail (eN k.l 0) o (dC o nx) (λr _ R=>ez th k.me a (CPh.stp th a B.got (.s5 bq o nx) r) R) f Z (mB.out.trans (fK _ _ _ _ _ _))).mono ?_;rintro e wh (⟨x,D,rfl,qa⟩|⟨v,rfl,⟨⟨s3,s4⟩,P,rfl,I,hq9⟩,C⟩)
  ·exact⟨Z,.inl ⟨x,D,Z,d.trans qa.two⟩⟩
  replace d:=d.trans C.two;replace c:=c.stp C;have iB:=aj hq9;clear f C P hq9;have f:=I;clear I;refine sO s (λ_=>c) ?_;clear s K;refine aG zK ?_ _;go_wp2_with (refine aI Z 70 (.tmp 4) (.tmp 73) Z Z gb aW Z Z 70 aW (c.at_ 4 Z) zK Z (by simp[aB]) ?_);have W:=f.dK (c.at_ 4 Z) xn aW;have qd:=Bk.bG (c.at_ 4 Z) aW;have hgm:bm≠gb:=λe=>I1.out.1.2.2.2.1 e.symm;have km9:=Bk.a6 (c.at_ 3 Z) hgm aW;replace d:=d.row (b:=gb) (.inl (by rw[BI.out];omega)) aW;exact aS (v:=.tuple #[.agg aW,ah false]) (fO (p:=4) (t:=5) (t1:=70) Z _ _ gb _ (0,0) _ _ Z Z qd aJ Z zK) Z (.inr ⟨_,Z,.inr ⟨bq,_,Z,W,km9,Jx.1,Jx.2,by have D:=JY.out;show z.made<B.made+1+1;omega,iB.out⟩,d⟩)
 have xZ:(nx != 0)=false:=by simp[U]
 by_cases LJ:bq=0;rotate_left
 ·have vm:=aj (show q=fU th k.me a (.s6 bq o) B.got (log.drop B.got.made)by
   rw[sT.out];simp only[CPh.stp];rw[if_neg (by simpa using U),if_neg LJ];rfl)
  have hmb:(bq==0)=false:=by simp[LJ]
  clear sT U LJ;have J:=(c.at_ 3 Z).cell 0;have T:=(c.at_ 3 Z).lt;simp at J T;go_upto_region 18 with fail;go_upto_region 25 with fail;clear hmb xZ;clear J T;go_upto_region 25 with fail;refine aH (S:=λw'=>Bks w' k.gp (SL k a qc N qb bm bq gb F j u l)) (E:=λ_=>false) zK ?_;replace f:dz w6.drew k _ log:=f.aw (bD w6);replace d:=d.drew;replace c:=c.drew;generalize w6.drew=w6d at *;refine wTq 5 [(0,93,ptr k.gp),(1,94,ptr k.gp),(2,95,ae (some ⟨F,0,Y⟩)),(3,96,V H j),(5,98,V H bq)] ?_ c ?_
  ·intro w' G;have m:=(G.at_ 0 Z).cell 0;simp at m;have cr:=(G.at_ 5 Z).cell 0;simp at cr;have J:=(G.at_ 3 Z).cell 0;simp at J;have L:(cL 81 ⟨F,0,Y⟩).run ao w'= .ok (mW j u l) w':=a7 w' F 81 81 #[V H j,.bool u,V H l] (0,0) _ (G.at_ 5 Z) underlying81 Z zK
   (repeat' (first|exact bd|refine al ⟨_,Z,.inl ⟨Z,?_⟩⟩ ?_))
   all_goals first|exact dp Z Z L|((try simp only[au,ar,an,Act.put,ak,ay,az]);go_simp;done)
  refine wOq 4 (λK s=>?_);go_simp;refine(fR j 0 f M).mono ?_;rintro e wa ⟨rfl,g⟩;replace f:=f.aw g;replace c:=c.aw g;replace d:=d.trans (cH.aT _ _ g);clear g;refine sO s (λ_=>c) ?_;clear s K;refine wOq 6 (λK s=>?_);go_simp;refine(nY (.nd (idxOf o) 0) (nodeAt k.l j 0) 0 bq (λr _ R=>ez th k.me a (CPh.stp th a (B.got) (.s6 bq o) r) R) f (by rw[<- xU.out.1];simp only[adr,idxOf]) (vm.out.trans (fK _ _ _ _ _ _))).mono ?_;rintro e wb (⟨x,D,rfl,qa⟩|⟨v,rfl,⟨⟨s1,s2⟩,P,rfl,I,hq7⟩,C⟩)
  ·exact⟨Z,.inl ⟨x,D,Z,d.trans qa.two⟩⟩
  replace d:=d.trans C.two;replace c:=c.stp C;have uj:=aj hq7;clear f C P hq7;have f:=I;clear I;refine sO s (λ_=>c) ?_;clear s K;refine wTq 1 [(7,100,ah (!s2))] ?_ c ?_
  ·intro w' G;have L:(cL 81 ⟨F,0,Y⟩).run ao w'= .ok (mW j u l) w':=a7 w' F 81 81 #[V H j,.bool u,V H l] (0,0) _ (G.at_ 5 Z) underlying81 Z zK
   (repeat' (first|exact bd|refine al ⟨_,Z,.inl ⟨Z,?_⟩⟩ ?_))
   all_goals first|exact dp Z Z L|((try simp only[au,ar,an,Act.put,ak,ay,az]);go_simp;done)
  refine aG zK ?_ _;cases s2 with
  | false=>
   go_wp2_with (refine aI Z 70 (.tmp 4) (.tmp 101) Z Z gb aW Z Z 70 aW (c.at_ 4 Z) zK Z (by simp[aB]) ?_);have W:=f.dK (c.at_ 4 Z) xn aW;have qd:=Bk.bG (c.at_ 4 Z) aW;have hgm:bm≠gb:=λe=>I1.out.1.2.2.2.1 e.symm;have km9:=Bk.a6 (c.at_ 3 Z) hgm aW;replace d:=d.row (b:=gb) (.inl (by rw[BI.out];omega)) aW;exact aS (v:=.tuple #[.agg aW,ah false]) (fO (p:=4) (t:=5) (t1:=70) Z _ _ gb _ (0,0) _ _ Z Z qd aJ Z zK) Z (.inr ⟨_,Z,.inr ⟨bq,_,Z,W,km9,Jx.1,Jx.2,by have D:=JY.out;show z.made<B.made+1+1;omega,uj.out⟩,d⟩)
  | true=>
   obtain⟨y,zJ⟩:=nM ((B.got).made);have ru:(((B.got).got.made-1:Nat):Int)=(y:Nat):=by rw[<- zJ];show (((B.got).made+1-1:Nat):Int)=_;rw[jJ]
   have DC:=aj (show q=fU th k.me a (.s7 bq o y) (B.got).got (log.drop (B.got).got.made)by rw[<- zJ];exact uj.out);clear zJ uj;have m:=(c.at_ 0 Z).cell 0;have A:=(c.at_ 0 Z).lt;simp at m A;go_upto_region 27 with fail;go_wp2_with fail;refine(jv f (eK _ _)).mono ?_;rintro e we ⟨rfl,rfl⟩;rw[ru];clear ru;clear m A;go_upto_region 28 with fail;refine aH (S:=λw'=>Bks w' k.gp (SL k a qc N qb bm bq gb F j u l)) (E:=λ_=>false) zK ?_;replace f:dz we.drew k _ log:=f.aw (bD we);replace d:=d.drew;replace c:=c.drew;generalize we.drew=wed at *;refine wTq 5 [(0,104,ptr k.gp),(1,105,V H (eN k.l 0)),(2,106,V H o),(3,107,mW j u l),(4,108,V H bq)] ?_ c ?_
   ·intro w' G;have m:=(G.at_ 0 Z).cell 0;simp at m;have qS:=(G.at_ 1 Z).cell 0;simp at qS;have J:=(G.at_ 3 Z).cell 0;simp at J;have L:(cL 81 ⟨F,0,Y⟩).run ao w'= .ok (mW j u l) w':=a7 w' F 81 81 #[V H j,.bool u,V H l] (0,0) _ (G.at_ 5 Z) underlying81 Z zK
    (repeat' (first|exact bd|refine al ⟨_,Z,.inl ⟨Z,?_⟩⟩ ?_))
    all_goals first|exact dp Z Z L|((try simp only[au,ar,an,Act.put,ak,ay,az]);go_simp;done)
   refine wOq 5 (λK s=>?_);go_simp;refine(jQ j u l bq _).mono ?_;rintro e wf ⟨rfl,g⟩;replace f:=f.aw g;replace c:=c.aw g;replace d:=d.trans (cH.aT _ _ g);clear g;refine sO s (λ_=>c) ?_;clear s K;refine wOq 6 (λK s=>?_);go_simp;refine(gk (bq%65536) false ((l+1)%268435456) _).mono ?_;rintro e wg ⟨rfl,g⟩;replace f:=f.aw g;replace c:=c.aw g;replace d:=d.trans (cH.aT _ _ g);clear g;have BC:dL (bq%65536) false ((l+1)%268435456)=dC o bq:=by unfold dC kH;rw[xU.out.2]
   rw[BC];clear BC;refine sO s (λ_=>c) ?_;clear s K;refine wOq 7 (λK s=>?_);go_simp;refine(nY .tail (eN k.l 0) o (dC o bq) (λr _ R=>ez th k.me a (CPh.stp th a (B.got).got (.s7 bq o y) r) R) f Z (DC.out.trans (fK _ _ _ _ _ _))).mono ?_;rintro e wh (⟨x,D,rfl,qa⟩|⟨v,rfl,⟨⟨s3,s4⟩,P,rfl,I,hq9⟩,C⟩)
   ·exact⟨Z,.inl ⟨x,D,Z,d.trans qa.two⟩⟩
   replace d:=d.trans C.two;replace c:=c.stp C;have HQ9:=aj ((show q=ez th k.me a (iY 0 O (y:Nat) (B.got).got.got) (log.drop (B.got).got.got.made)from hq9).trans (iV th k.me a (.oc ⟨0,O,(y:Nat),[]⟩) (df (B.got).got.got 0) _ _ (λ_ _=>Z)));clear f C P hq9;have f:=I;clear I;refine sO s (λ_=>c) ?_;clear s K;refine aG zK ?_ _;go_upto_region 29 with fail;have m:=(c.at_ 0 Z).cell 0;have A:=(c.at_ 0 Z).lt;simp at m A;go_wp2_with fail;refine(gK th _ f HQ9.out).mono ?_;rintro e wc (⟨x,D,rfl,qa⟩|⟨v,rfl,⟨zc,rfl,hp',AX⟩,Q⟩)
   ·exact⟨Z,.inl ⟨x,D,Z,d.trans qa.two⟩⟩
   replace d:=d.trans Q.two;replace c:=c.stp Q;have DB:=aj (show q= .fin ⟨0,O,(y:Nat),zc.gone⟩from AX);clear m A;clear f Q AX
   rename dz wc k zc log=>f
   go_wp2_with (refine aI Z 70 (.tmp 4) (.tmp 115) Z Z gb (bh 0 O 0 (y:Nat)) Z Z 70 aW (c.at_ 4 Z) zK Z (by simp[aB]) ?_);have W:=f.dK (c.at_ 4 Z) xn (bh 0 O 0 (y:Nat));have qd:=Bk.bG (c.at_ 4 Z) (bh 0 O 0 (y:Nat));replace d:=d.row (b:=gb) (.inl (by rw[BI.out];omega)) (bh 0 O 0 (y:Nat));exact aS (v:=.tuple #[.agg (bh 0 O 0 (y:Nat)),ah O]) (fO (p:=4) (t:=5) (t1:=70) Z _ _ gb _ (0,0) _ _ Z Z qd aJ Z zK) Z (.inr ⟨_,Z,.inl ⟨_,_,_,_,DB.out,Z,W⟩,d⟩)
 subst LJ;have mB:=aj ((show q=fU th k.me a (.sub .t1 (.st o)) B.got (log.drop B.got.made)by
  rw[sT.out];simp only[CPh.stp];rw[if_neg (by simpa using U),if_pos trivial];rfl).trans (nm _ _ _ _ _ _ _))
 clear sT U;have J:=(c.at_ 3 Z).cell 0;have T:=(c.at_ 3 Z).lt;simp at J T;have m:=(c.at_ 0 Z).cell 0;have A:=(c.at_ 0 Z).lt;simp at m A;go_upto_region 19 with fail;go_wp2_with fail;refine(MK th _ f mB.out).mono ?_;rintro e w7 (⟨x,D,rfl,qa⟩|⟨v,rfl,⟨n,p2,ok,z3,rfl,I,Ju,Iy,Ix,hm3⟩,C⟩)
 ·exact⟨Z,.inl ⟨x,D,Z,d.trans qa.two⟩⟩
 replace d:=d.trans C.two;replace c:=c.stp C;have iB:=aj Ju;have HM3:=aj (show B.made+1<=z3.made from hm3);clear J T m A;clear f C Ju mB hm3 xZ;have f:=I;clear I;cases ok with
 | false=>exact absurd iB.out HNS.out
 | true=>
 have rK:=aj (show q=fU th k.me a (.fl n o 0) z3 (log.drop z3.made)from iB.out);clear iB;go_upto_region 23 with fail;have J:=(c.at_ 3 Z).cell 0;have fm:=(c.at_ 3 Z).free 0;have lm:=(c.at_ 3 Z).lt;simp at J lm;go_upto_region 24 with fail;clear J fm lm;replace f:=f.pz (show Bk w7 bm 3 #[V H 0]from c.at_ 3 Z) I1.out.2.1 zD 0 (V H n);have hB2:=SL.set c I1.out.1 n;replace d:=d.cell (p:=⟨bm,0,Y⟩) (.inr (.inr Z)) (V H n);clear c;have c:=hB2;clear hB2;generalize w7.setCell ⟨bm,0,Y⟩ (V H n)=w8 at *;have m:=(c.at_ 0 Z).cell 0;have A:=(c.at_ 0 Z).lt;simp at m A;have J:=(c.at_ 3 Z).cell 0;have T:=(c.at_ 3 Z).lt;simp at J T;have cv:=(c.at_ 2 Z).cell 0;have lv0:=(c.at_ 2 Z).lt;simp at cv lv0;go_wp2_with fail;refine(Oh th a n o f M mD rK.out).mono ?_;rintro e w9 (⟨x,D,rfl,qa⟩|⟨v,rfl,⟨z4,rfl,I,hm4,hq4⟩,C⟩)
 ·exact⟨Z,.inl ⟨x,D,Z,d.trans qa.two⟩⟩
 replace d:=d.trans C.two;replace c:=c.stp C;have vm:=aj hq4;have HM4:=aj hm4;clear m A J T cv lv0;clear f C hq4 rK hm4;have f:=I;clear I;go_upto_region 25 with fail;refine aH (S:=λw'=>Bks w' k.gp (SL k a qc N qb bm n gb F j u l)) (E:=λ_=>false) zK ?_;replace f:dz w9.drew k _ log:=f.aw (bD w9);replace d:=d.drew;replace c:=c.drew;generalize w9.drew=w9d at *;refine wTq 5 [(0,93,ptr k.gp),(1,94,ptr k.gp),(2,95,ae (some ⟨F,0,Y⟩)),(3,96,V H j),(5,98,V H n)] ?_ c ?_
 ·intro w' G;have m:=(G.at_ 0 Z).cell 0;simp at m;have cr:=(G.at_ 5 Z).cell 0;simp at cr;have J:=(G.at_ 3 Z).cell 0;simp at J;have L:(cL 81 ⟨F,0,Y⟩).run ao w'= .ok (mW j u l) w':=a7 w' F 81 81 #[V H j,.bool u,V H l] (0,0) _ (G.at_ 5 Z) underlying81 Z zK
  (repeat' (first|exact bd|refine al ⟨_,Z,.inl ⟨Z,?_⟩⟩ ?_))
  all_goals first|exact dp Z Z L|((try simp only[au,ar,an,Act.put,ak,ay,az]);go_simp;done)
 refine wOq 4 (λK s=>?_);go_simp;refine(fR j 0 f M).mono ?_;rintro e wa ⟨rfl,g⟩;replace f:=f.aw g;replace c:=c.aw g;replace d:=d.trans (cH.aT _ _ g);clear g;refine sO s (λ_=>c) ?_;clear s K;refine wOq 6 (λK s=>?_);go_simp;refine(nY (.nd (idxOf o) 0) (nodeAt k.l j 0) 0 n (λr _ R=>ez th k.me a (CPh.stp th a (z4) (.s6 n o) r) R) f (by rw[<- xU.out.1];simp only[adr,idxOf]) (vm.out.trans (fK _ _ _ _ _ _))).mono ?_;rintro e wb (⟨x,D,rfl,qa⟩|⟨v,rfl,⟨⟨s1,s2⟩,P,rfl,I,hq7⟩,C⟩)
 ·exact⟨Z,.inl ⟨x,D,Z,d.trans qa.two⟩⟩
 replace d:=d.trans C.two;replace c:=c.stp C;have uj:=aj hq7;clear f C P hq7;have f:=I;clear I;refine sO s (λ_=>c) ?_;clear s K;refine wTq 1 [(7,100,ah (!s2))] ?_ c ?_
 ·intro w' G;have L:(cL 81 ⟨F,0,Y⟩).run ao w'= .ok (mW j u l) w':=a7 w' F 81 81 #[V H j,.bool u,V H l] (0,0) _ (G.at_ 5 Z) underlying81 Z zK
  (repeat' (first|exact bd|refine al ⟨_,Z,.inl ⟨Z,?_⟩⟩ ?_))
  all_goals first|exact dp Z Z L|((try simp only[au,ar,an,Act.put,ak,ay,az]);go_simp;done)
 refine aG zK ?_ _;cases s2 with
 | false=>
  go_wp2_with (refine aI Z 70 (.tmp 4) (.tmp 101) Z Z gb aW Z Z 70 aW (c.at_ 4 Z) zK Z (by simp[aB]) ?_);have W:=f.dK (c.at_ 4 Z) xn aW;have qd:=Bk.bG (c.at_ 4 Z) aW;have hgm:bm≠gb:=λe=>I1.out.1.2.2.2.1 e.symm;have km9:=Bk.a6 (c.at_ 3 Z) hgm aW;replace d:=d.row (b:=gb) (.inl (by rw[BI.out];omega)) aW;exact aS (v:=.tuple #[.agg aW,ah false]) (fO (p:=4) (t:=5) (t1:=70) Z _ _ gb _ (0,0) _ _ Z Z qd aJ Z zK) Z (.inr ⟨_,Z,.inr ⟨n,_,Z,W,km9,Iy,Ix,by have D:=JY.out;have h2:=HM3.out;have qa:=HM4.out;show z.made<z4.made+1;omega,uj.out⟩,d⟩)
 | true=>
  obtain⟨y,zJ⟩:=nM ((z4).made);have ru:(((z4).got.made-1:Nat):Int)=(y:Nat):=by rw[<- zJ];show (((z4).made+1-1:Nat):Int)=_;rw[jJ]
  have DC:=aj (show q=fU th k.me a (.s7 n o y) (z4).got (log.drop (z4).got.made)by rw[<- zJ];exact uj.out);clear zJ uj;have m:=(c.at_ 0 Z).cell 0;have A:=(c.at_ 0 Z).lt;simp at m A;go_upto_region 27 with fail;go_wp2_with fail;refine(jv f (eK _ _)).mono ?_;rintro e we ⟨rfl,rfl⟩;rw[ru];clear ru;clear m A;go_upto_region 28 with fail;refine aH (S:=λw'=>Bks w' k.gp (SL k a qc N qb bm n gb F j u l)) (E:=λ_=>false) zK ?_;replace f:dz we.drew k _ log:=f.aw (bD we);replace d:=d.drew;replace c:=c.drew;generalize we.drew=wed at *;refine wTq 5 [(0,104,ptr k.gp),(1,105,V H (eN k.l 0)),(2,106,V H o),(3,107,mW j u l),(4,108,V H n)] ?_ c ?_
  ·intro w' G;have m:=(G.at_ 0 Z).cell 0;simp at m;have qS:=(G.at_ 1 Z).cell 0;simp at qS;have J:=(G.at_ 3 Z).cell 0;simp at J;have L:(cL 81 ⟨F,0,Y⟩).run ao w'= .ok (mW j u l) w':=a7 w' F 81 81 #[V H j,.bool u,V H l] (0,0) _ (G.at_ 5 Z) underlying81 Z zK
   (repeat' (first|exact bd|refine al ⟨_,Z,.inl ⟨Z,?_⟩⟩ ?_))
   all_goals first|exact dp Z Z L|((try simp only[au,ar,an,Act.put,ak,ay,az]);go_simp;done)
  refine wOq 5 (λK s=>?_);go_simp;refine(jQ j u l n _).mono ?_;rintro e wf ⟨rfl,g⟩;replace f:=f.aw g;replace c:=c.aw g;replace d:=d.trans (cH.aT _ _ g);clear g;refine sO s (λ_=>c) ?_;clear s K;refine wOq 6 (λK s=>?_);go_simp;refine(gk (n%65536) false ((l+1)%268435456) _).mono ?_;rintro e wg ⟨rfl,g⟩;replace f:=f.aw g;replace c:=c.aw g;replace d:=d.trans (cH.aT _ _ g);clear g;have BC:dL (n%65536) false ((l+1)%268435456)=dC o n:=by unfold dC kH;rw[xU.out.2]
  rw[BC];clear BC;refine sO s (λ_=>c) ?_;clear s K;refine wOq 7 (λK s=>?_);go_simp;refine(nY .tail (eN k.l 0) o (dC o n) (λr _ R=>ez th k.me a (CPh.stp th a (z4).got (.s7 n o y) r) R) f Z (DC.out.trans (fK _ _ _ _ _ _))).mono ?_;rintro e wh (⟨x,D,rfl,qa⟩|⟨v,rfl,⟨⟨s3,s4⟩,P,rfl,I,hq9⟩,C⟩)
  ·exact⟨Z,.inl ⟨x,D,Z,d.trans qa.two⟩⟩
  replace d:=d.trans C.two;replace c:=c.stp C;have HQ9:=aj ((show q=ez th k.me a (iY 0 O (y:Nat) (z4).got.got) (log.drop (z4).got.got.made)from hq9).trans (iV th k.me a (.oc ⟨0,O,(y:Nat),[]⟩) (df (z4).got.got 0) _ _ (λ_ _=>Z)));clear f C P hq9;have f:=I;clear I;refine sO s (λ_=>c) ?_;clear s K;refine aG zK ?_ _;go_upto_region 29 with fail;have m:=(c.at_ 0 Z).cell 0;have A:=(c.at_ 0 Z).lt;simp at m A;go_wp2_with fail;refine(gK th _ f HQ9.out).mono ?_;rintro e wc (⟨x,D,rfl,qa⟩|⟨v,rfl,⟨zc,rfl,hp',AX⟩,Q⟩)
  ·exact⟨Z,.inl ⟨x,D,Z,d.trans qa.two⟩⟩
  replace d:=d.trans Q.two;replace c:=c.stp Q;have DB:=aj (show q= .fin ⟨0,O,(y:Nat),zc.gone⟩from AX);clear m A;clear f Q AX
  rename dz wc k zc log=>f
  go_wp2_with (refine aI Z 70 (.tmp 4) (.tmp 115) Z Z gb (bh 0 O 0 (y:Nat)) Z Z 70 aW (c.at_ 4 Z) zK Z (by simp[aB]) ?_);have W:=f.dK (c.at_ 4 Z) xn (bh 0 O 0 (y:Nat));have qd:=Bk.bG (c.at_ 4 Z) (bh 0 O 0 (y:Nat));replace d:=d.row (b:=gb) (.inl (by rw[BI.out];omega)) (bh 0 O 0 (y:Nat));exact aS (v:=.tuple #[.agg (bh 0 O 0 (y:Nat)),ah O]) (fO (p:=4) (t:=5) (t1:=70) Z _ _ gb _ (0,0) _ _ Z Z qd aJ Z zK) Z (.inr ⟨_,Z,.inl ⟨_,_,_,_,DB.out,Z,W⟩,d⟩)
end
def RL(k:Pk)(b d e gb f:Nat)(g:Int)(a:Bool)(c:Int):List (Nat × bM × Array I):=
 [(b,158,#[ptr k.gp]),(d,3,#[V H (et k.l 0)]),(e,3,#[V H (eN k.l 0)]),(gb,70,aW),(f,81,#[V H g,.bool a,V H c])]
def RcPost(k:Pk)(log:Log)(q:An Out)(u:I)(e:W):Prop:=
 ∃c b a d,q= .fin ⟨c,b,a,d.gone⟩/\u= .tuple #[.agg (bh c b 0 a),ah O]/\dz e k d log
def JU(k:Pk)(th a:Int)(log:Log)(q:An Out)(L:List (Nat × bM × Array I))(c:Int)(w:W)(v:I)(wr:W):Prop:=
 ∃(i:Nat) (b:Pz),v=V H (i:Nat)/\i<=5/\dz wr k b log/\Stp k.gp w wr/\Bks wr k.gp L/\
  (i<5->q=fU th k.me a (.r2 c i) b (log.drop b.made))/\(i=5->q=fU th k.me a (.r4 c) b (log.drop b.made))
section
variable {w:W} {k:Pk} {z:Pz} {log:Log} {q:An Out}
theorem zu(th a b:Int)(i:Nat)(z':Pz)(hi:i<5)(c:q=ez th k.me a (jO b i z') (log.drop z'.made)):
  (i+1<5->q=fU th k.me a (.r2 b (i+1)) z' (log.drop z'.made))/\(i+1=5->q=fU th k.me a (.r4 b) z' (log.drop z'.made)):=by
 unfold jO at c;constructor
 ·intro h;rw[c,if_pos M];rfl
 intro h;rw[c,if_neg M];rfl
theorem yl(th a:Int)(qc L M:Nat)(h:dz w k z log)(uD:∀x∈log,-4611686018427387904<=x.1/\x.1<=4611686018427387904)(qe:qc≠k.gp/\L≠k.gp/\M≠k.gp)(F:Bk w qc 158 #[ptr k.gp])(D:Bk w L 3 #[V H (et k.l 0)])(I:Bk w M 3 #[V H (eN k.l 0)])(hq:q=fU th k.me a (.sub (.g1 0 .head) .rg) z (log.drop z.made))(mF:q≠ .stuck):
  Calls ao 155 #[ptr qc,ptr L,ptr M] w (lq k q w (RcPost k log q)):=by
 have HQ:=N (hq.trans (nm _ _ _ _ _ _ _));have HNS:=N mF;have HLO:=N uD;have J:=Bk.made w 70 aW;have lpg:=h.lt;have d:=(Stp.refl k.gp w).alloc (ag aW 70);replace h:=h.aw (aA bS (ag aW 70));replace F:=F.alloc (ag aW 70);replace D:=D.alloc (ag aW 70);replace I:=I.alloc (ag aW 70);clear hq mF uD;go_enter func155,ntmps155;go_upto_region 1 with fail;generalize w.alloc (ag aW 70)=w1 at *;obtain⟨gb,ya⟩:=nM (w.heap.size);have BI:=N ya;rw[ya]at J lpg ⊢;clear ya;have g:=F.cell 0;have j:=F.lt;have ch:=D.cell 0;have lh0:=D.lt;simp at g ch;go_wp2_with fail;have hd:Calls ao 145 #[ptr k.gp,V H 0,V H (et k.l 0)] w1 _:=wy th 0 .head (et k.l 0) _ h zO Z HQ.out;(with_reducible refine hd.mono ?_);rintro e w2 (⟨x,A,rfl,C⟩|⟨v,rfl,⟨o,p,z1,rfl,f,BE,-,-⟩,hs⟩)
 ·exact⟨Z,.inl ⟨x,A,Z,d.trans C⟩⟩
 replace d:=d.trans hs;replace F:=hs.aw F qe.1;replace D:=hs.aw D qe.2.1;replace I:=hs.aw I qe.2.2;replace J:=hs.aw J zO;have rG:=N (show q=fU th k.me a (.r2 o 0) z1 (log.drop z1.made)from BE);clear h hd hs BE HQ g j ch lh0;go_wp2_with fail;refine(gL o _).mono ?_;rintro e w3 ⟨rfl,u⟩;replace f:=f.aw u;replace d:=d.trans (Stp.aT _ u);replace F:=F.aw u;replace D:=D.aw u;replace I:=I.aw u;replace J:=J.aw u;clear u;obtain⟨m,qD⟩:=nM (o%65536);obtain⟨B,uC⟩:=nM ((o / 65536%2==1));obtain⟨y,KY⟩:=nM (o / 131072%268435456);have LM:0<=m/\m<65536:=zO;rw[qD,uC,KY];have xU:=N (al qD KY);clear qD uC KY;go_upto_region 3 with fail;have kr:=Bk.made w3 81 #[V H m,.bool B,V H y];have zg3:=f.lt;have zb3:=J.lt;replace f:=f.aw (aA bS (ag #[V H m,.bool B,V H y] 81));replace d:=d.alloc (ag #[V H m,.bool B,V H y] 81);replace F:=F.alloc (ag #[V H m,.bool B,V H y] 81);replace D:=D.alloc (ag #[V H m,.bool B,V H y] 81);replace I:=I.alloc (ag #[V H m,.bool B,V H y] 81);replace J:=J.alloc (ag #[V H m,.bool B,V H y] 81);generalize w3.alloc (ag #[V H m,.bool B,V H y] 81)=w4 at *;obtain⟨qd,NY⟩:=nM (w3.heap.size);rw[NY]at kr zg3 zb3 ⊢;clear NY;have c:Bks w4 k.gp (RL k qc L M gb qd m B y):=.cons F qe.1 (.cons D qe.2.1 (.cons I qe.2.2 (.cons J zO (.cons kr zO .nil))));clear F D I J kr;have HR:=N (show JU k th a log q (RL k qc L M gb qd m B y) o w (V H 0) w4 from⟨0,z1,rfl,zO,f,d,c,λ_=>rG.out,λe=>by cases e⟩);clear f d c rG;have xn:k.gp<=gb:=zO;clear qe lpg zg3 zb3;go_wp2_with fail;go_loopw [24] (λv24 wr=>JU k th a log q (RL k qc L M gb qd m B y) o w v24 wr) (λv24 _=>5-(intOf v24).toNat)
 case atStart=>exact HR.out
 case round=>
 clear HR;obtain⟨i,l,rfl,hi,f,d,c,hqa,hqb⟩:=hrel;by_cases fH:i<5
 ·have Bu:=N (hqa fH);have hib5:decide ((i:Int)<5)=O:=zP;clear hqa hqb;have g:=(c.at_ 0 Z).cell 0;have j:=(c.at_ 0 Z).lt;simp at g j;have cr:=(c.at_ 4 Z).cell 0;have lr0:=(c.at_ 4 Z).lt;simp at cr lr0;go_wp2_with fail;refine(fR m (1+i) f zO).mono ?_;rintro e w5 ⟨rfl,u⟩;replace f:=f.aw u;replace c:=c.aw u;replace d:=d.trans (Stp.aT _ u);clear u;clear g j cr lr0;have g:=(c.at_ 0 rfl).cell 0;have j:=(c.at_ 0 rfl).lt;simp at g j;go_wp2_with fail;refine(iL (.nd (idxOf o) (1+i)) (nodeAt k.l m (1+i)) (λr _ l'=>ez th k.me a (CPh.stp th a l (.r2 o i) r) l') f (by rw[<- xU.out.1];simp only[adr,idxOf]) (Bu.out.trans (fK _ _ _ _ _ _))).mono ?_;rintro e w6 (⟨x,A,rfl,C⟩|⟨v,rfl,⟨⟨s,y2⟩,qg,rfl,hp2,zI⟩,U⟩)
  ·exact⟨Z,.inl ⟨x,A,Z,d.trans C⟩⟩
  replace d:=d.trans U;replace c:=c.stp U;have qa:=N zI;have HYB:=N (HLO.out _ (aU qg));clear g j;clear f U qg zI Bu;have f:=hp2;clear hp2;obtain⟨n,qf⟩:=nM (l.made);have HPM:=N qf;have T:((l.got.made-1:Nat):Int)=(n:Nat):=by rw[<- qf];show ((l.made+1-1:Nat):Int)=_;rw[jJ]
  clear qf;have g:=(c.at_ 0 Z).cell 0;have j:=(c.at_ 0 Z).lt;simp at g j;go_wp2_with fail;refine(jv f (eK _ _)).mono ?_;rintro e we ⟨rfl,rfl⟩;rw[T];clear T;clear g j;by_cases P:s=0
  ·subst P;have mB:=N ((show q=ez th k.me a (iY 0 X (n:Nat) l.got) (log.drop l.got.made)by
    rw[qa.out,<- HPM.out];simp only[CPh.stp];rfl).trans (iV th k.me a (.oc ⟨0,X,(n:Nat),[]⟩) (df l.got 0) _ _ (λ_ _=>Z)))
   clear qa;go_upto_region 10 with fail;have g:=(c.at_ 0 Z).cell 0;have j:=(c.at_ 0 Z).lt;simp at g j;go_wp2_with fail;refine(gK th _ f mB.out).mono ?_;rintro e wc (⟨x,A,rfl,C⟩|⟨v,rfl,⟨R,rfl,hp',Q⟩,G⟩)
   ·exact⟨Z,.inl ⟨x,A,Z,d.trans C⟩⟩
   replace d:=d.trans G;replace c:=c.stp G;have DB:=N (show q= .fin ⟨0,X,(n:Nat),R.gone⟩from Q);clear g j;clear f G Q
   rename dz wc k R log=>f
   go_wp2_with (refine aI Z 70 (.tmp 3) (.tmp 43) Z Z gb (bh 0 X 0 (n:Nat)) Z Z 70 aW (c.at_ 3 Z) zK Z (by simp[aB]) ?_);have AY:=f.dK (c.at_ 3 Z) xn (bh 0 X 0 (n:Nat));have kb9:=Bk.bG (c.at_ 3 Z) (bh 0 X 0 (n:Nat));replace d:=d.row (b:=gb) (.inl (by rw[BI.out];omega)) (bh 0 X 0 (n:Nat));exact aS (v:=.tuple #[.agg (bh 0 X 0 (n:Nat)),ah O]) (fO (p:=3) (t:=4) (t1:=70) Z _ _ gb _ (0,0) _ _ Z Z kb9 aJ Z zK) Z (.inr ⟨_,Z,⟨_,_,_,_,DB.out,Z,AY⟩,d⟩)
  by_cases ho:s=1
  ·subst ho;have Y:=zu th a o i l.got fH (show q=ez th k.me a (jO o i l.got) (log.drop l.got.made)by
    rw[qa.out];simp only[CPh.stp];rfl)
   have HR:=N (show JU k th a log q (RL k qc L M gb qd m B y) o w (V H ((i+1:Nat):Int)) we from⟨i+1,_,Z,zO,f,d,c,Y.1,Y.2⟩);clear f d c Y qa P;go_wp2_with fail;go_roundw
   case rel=>exact HR.out
   case measure=>simp[intOf];omega
  have mB:=N (show q=fU th k.me a (.r3 o i s) l.got (log.drop l.got.made)by
   rw[qa.out];simp only[CPh.stp];rw[if_neg (by simpa using P),if_neg (by simpa using ho)];rfl)
  have xZ:(s==0)=X:=by simp[P]
  have Jw:(s != 1)=O:=by simp[ho]
  have hw:IntKind.i64.wrap (s-2)=s-2:=dh _ (by obtain⟨A,h2⟩:=HYB.out;omega);clear qa P ho;have g:=(c.at_ 0 Z).cell 0;have j:=(c.at_ 0 Z).lt;simp at g j;go_wp2_with fail;refine(nY (.nd (idxOf o) (1+i)) (nodeAt k.l m (1+i)) s 1 (λr _ l'=>ez th k.me a (CPh.stp th a l.got (.r3 o i s) r) l') f (by rw[<- xU.out.1];simp only[adr,idxOf]) (mB.out.trans (fK _ _ _ _ _ _))).mono ?_;rintro e w7 (⟨x,A,rfl,C⟩|⟨v,rfl,⟨⟨t1,t2⟩,qg,rfl,hp3,Ju⟩,sj⟩)
  ·exact⟨Z,.inl ⟨x,A,Z,d.trans C⟩⟩
  replace d:=d.trans sj;replace c:=c.stp sj;have iB:=N Ju;clear g j;clear f sj qg Ju mB;have f:=hp3;clear hp3;cases t2 with
  | false=>
   have Y:=zu th a o i l.got.got fH iB.out;have HR:=N (show JU k th a log q (RL k qc L M gb qd m B y) o w (V H ((i+1:Nat):Int)) w7 from⟨i+1,_,Z,zO,f,d,c,Y.1,Y.2⟩);clear f d c Y iB;go_wp2_with fail;go_roundw
   case rel=>exact HR.out
   case measure=>simp[intOf];omega
  | true=>
   obtain⟨qb,hpn⟩:=nM (l.got.made);have T:((l.got.got.made-1:Nat):Int)=(qb:Nat):=by rw[<- hpn];show ((l.got.made+1-1:Nat):Int)=_;rw[jJ]
   have rK:=N ((show q=ez th k.me a (iY (s-2) O (qb:Nat) l.got.got) (log.drop l.got.got.made)by rw[<- hpn];exact iB.out).trans (iV th k.me a (.oc ⟨s-2,O,(qb:Nat),[]⟩) (df l.got.got 0) _ _ (λ_ _=>Z)));clear hpn iB;have g:=(c.at_ 0 Z).cell 0;have j:=(c.at_ 0 Z).lt;simp at g j;go_upto_region 13 with fail;go_wp2_with fail;refine(jv f (eK _ _)).mono ?_;rintro e we ⟨rfl,rfl⟩;rw[T];clear g j;clear T;go_upto_region 14 with fail;have g:=(c.at_ 0 rfl).cell 0;have j:=(c.at_ 0 rfl).lt;simp at g j;go_wp2_with fail;refine(gK th _ f rK.out).mono ?_;rintro e wc (⟨x,A,rfl,C⟩|⟨v,rfl,⟨R,rfl,hp',Q⟩,G⟩)
   ·exact⟨Z,.inl ⟨x,A,Z,d.trans C⟩⟩
   replace d:=d.trans G;replace c:=c.stp G;have DB:=N (show q= .fin ⟨s-2,O,(qb:Nat),R.gone⟩from Q);clear g j;clear f G Q
   rename dz wc k R log=>f
   go_wp2_with (refine aI Z 70 (.tmp 3) (.tmp 59) Z Z gb (bh (s-2) O 0 (qb:Nat)) Z Z 70 aW (c.at_ 3 Z) zK Z (by simp[aB]) ?_);have AY:=f.dK (c.at_ 3 Z) xn (bh (s-2) O 0 (qb:Nat));have kb9:=Bk.bG (c.at_ 3 Z) (bh (s-2) O 0 (qb:Nat));replace d:=d.row (b:=gb) (.inl (by rw[BI.out];omega)) (bh (s-2) O 0 (qb:Nat));exact aS (v:=.tuple #[.agg (bh (s-2) O 0 (qb:Nat)),ah O]) (fO (p:=3) (t:=4) (t1:=70) Z _ _ gb _ (0,0) _ _ Z Z kb9 aJ Z zK) Z (.inr ⟨_,Z,⟨_,_,_,_,DB.out,Z,AY⟩,d⟩)
 have hi5:i=5:=zO;subst hi5;have Bu:=N (hqb Z);clear hqa hqb fH hi;go_upto_region 17 with fail;refine aH (S:=λw'=>Bks w' k.gp (RL k qc L M gb qd m B y)) (E:=λ_=>X) zK ?_;replace f:dz wr.drew k _ log:=f.aw (bD wr);replace d:=d.drew;replace c:=c.drew;generalize wr.drew=wrd at *;refine wTq 4 [(0,61,ptr k.gp),(1,62,ptr k.gp),(2,63,ae (some ⟨qd,0,none⟩)),(3,64,V H m)] ?_ c ?_
 ·intro w' hS;have g:=(hS.at_ 0 Z).cell 0;have cr:=(hS.at_ 4 Z).cell 0;simp at g cr;exact zT
 refine wOq 4 (λK hK=>?_);go_simp;refine(fR m 0 f zO).mono ?_;rintro e w5 ⟨rfl,u⟩;replace f:=f.aw u;replace c:=c.aw u;replace d:=d.trans (Stp.aT _ u);clear u;refine sO hK (λ_=>c) ?_;clear hK K;refine wOq 5 (λK hK=>?_);go_simp;refine(iL (.nd (idxOf o) 0) (nodeAt k.l m 0) (λr _ l'=>ez th k.me a (CPh.stp th a l (.r4 o) r) l') f (by rw[<- xU.out.1];simp only[adr,idxOf]) (Bu.out.trans (fK _ _ _ _ _ _))).mono ?_;rintro e w6 (⟨x,A,rfl,C⟩|⟨v,rfl,⟨⟨nx,nx2⟩,qg,rfl,hp2,zI⟩,U⟩)
 ·exact⟨Z,.inl ⟨x,A,Z,d.trans C⟩⟩
 replace d:=d.trans U;replace c:=c.stp U;have qa:=N zI;clear f U qg zI Bu;have f:=hp2;clear hp2;refine sO hK (λ_=>c) ?_;clear hK K;refine wTq 1 [(6,12,V H nx)] ?_ c ?_
 ·intro w' hS;exact zT
 refine aG zK ?_ _;by_cases P:nx=0
 ·subst P;obtain⟨n,qf⟩:=nM (l.made);have T:((l.got.made-1:Nat):Int)=(n:Nat):=by rw[<- qf];show ((l.made+1-1:Nat):Int)=_;rw[jJ]
  have mB:=N ((show q=ez th k.me a (iY 0 X (n:Nat) l.got) (log.drop l.got.made)by
   rw[qa.out,<- qf];simp only[CPh.stp];rfl).trans (iV th k.me a (.oc ⟨0,X,(n:Nat),[]⟩) (df l.got 0) _ _ (λ_ _=>Z)))
  clear qf qa;have g:=(c.at_ 0 Z).cell 0;have j:=(c.at_ 0 Z).lt;simp at g j;go_upto_region 19 with fail;go_wp2_with fail;refine(jv f (eK _ _)).mono ?_;rintro e we ⟨rfl,rfl⟩;rw[T];clear g j;clear T;go_upto_region 20 with fail;have g:=(c.at_ 0 rfl).cell 0;have j:=(c.at_ 0 rfl).lt;simp at g j;go_wp2_with fail;refine(gK th _ f mB.out).mono ?_;rintro e wc (⟨x,A,rfl,C⟩|⟨v,rfl,⟨R,rfl,hp',Q⟩,G⟩)
  ·exact⟨Z,.inl ⟨x,A,Z,d.trans C⟩⟩
  replace d:=d.trans G;replace c:=c.stp G;have DB:=N (show q= .fin ⟨0,X,(n:Nat),R.gone⟩from Q);clear g j;clear f G Q
  rename dz wc k R log=>f
  go_wp2_with (refine aI Z 70 (.tmp 3) (.tmp 74) Z Z gb (bh 0 X 0 (n:Nat)) Z Z 70 aW (c.at_ 3 Z) zK Z (by simp[aB]) ?_);have AY:=f.dK (c.at_ 3 Z) xn (bh 0 X 0 (n:Nat));have kb9:=Bk.bG (c.at_ 3 Z) (bh 0 X 0 (n:Nat));replace d:=d.row (b:=gb) (.inl (by rw[BI.out];omega)) (bh 0 X 0 (n:Nat));exact aS (v:=.tuple #[.agg (bh 0 X 0 (n:Nat)),ah O]) (fO (p:=3) (t:=4) (t1:=70) Z _ _ gb _ (0,0) _ _ Z Z kb9 aJ Z zK) Z (.inr ⟨_,Z,⟨_,_,_,_,DB.out,Z,AY⟩,d⟩)
 exact absurd (by
  rw[qa.out];simp only[CPh.stp];rw[if_neg (by simpa using P)];rfl) HNS.out
end
abbrev OT(w:W)(k:Pk)(a bq:Int)(c b d e:Nat):Prop:=
 Bk w c 158 #[ptr k.gp]/\Bk w b 3 #[V H (eN k.l 0)]/\Bk w d 3 #[V H a]/\Bk w e 3 #[V H bq]
abbrev RcBk(w:W)(k:Pk)(b c a:Nat):Prop:=Bk w b 158 #[ptr k.gp]/\Bk w c 3 #[V H (et k.l 0)]/\Bk w a 3 #[V H (eN k.l 0)]
section
variable {w:W} {k:Pk} {z:Pz} {log:Log} {q:An Out}
theorem Kf(gp:Nat)(t a:Int)(w:W):U ao 102 #[ptr gp,V H t,V H a] w λe b=>∃c f d h,e=ai (.func (.func 144) #[] #[ptr c,ptr f,ptr d,ptr h])/\D w.heap.size w b/\
  w.heap.size<=c/\c<f/\f<d/\d<h/\Bk b c 158 #[ptr gp]/\Bk b f 3 #[V H t]/\Bk b d 3 #[V H a]/\Bk b h 3 #[V H 0]:=by
 have s:∀(fn:Fn) (first i:Array I) (w:W),(uT fn first i).run ao w= .ok (.func fn first i) w:=λ_ _ _ _=>Z;have m:=(((Bk.made w 158 #[ptr gp]).alloc (ag #[V H t] 3)).alloc (ag #[V H a] 3)).alloc (ag #[V H 0] 3);have n:=((Bk.new (w.alloc (ag #[ptr gp] 158)) (g:=w.heap.size+1) zS 3 #[V H t]).alloc (ag #[V H a] 3)).alloc (ag #[V H 0] 3);have o:=(Bk.new ((w.alloc (ag #[ptr gp] 158)).alloc (ag #[V H t] 3)) (g:=w.heap.size+1+1) zS 3 #[V H a]).alloc (ag #[V H 0] 3);have j:=Bk.new (((w.alloc (ag #[ptr gp] 158)).alloc (ag #[V H t] 3)).alloc (ag #[V H a] 3)) (g:=w.heap.size+1+1+1) zS 3 #[V H 0];have l:=aA (aA (aA (bA w (ag #[ptr gp] 158)) (ag #[V H t] 3)) (ag #[V H a] 3)) (ag #[V H 0] 3);go_enter func102,ntmps102;go_wp2_with fail;go_ret;exact⟨_,_,_,_,Z,l,aq _,M,M,M,m,n,o,j⟩
theorem Az(gp:Nat)(h t:Int)(w:W):U ao 103 #[ptr gp,V H h,V H t] w λe b=>∃a c d,e=ai (.func (.func 155) #[] #[ptr a,ptr c,ptr d])/\D w.heap.size w b/\
  w.heap.size<=a/\a<c/\c<d/\Bk b a 158 #[ptr gp]/\Bk b c 3 #[V H h]/\Bk b d 3 #[V H t]:=by
 have n:∀(fn:Fn) (first f:Array I) (w:W),(uT fn first f).run ao w= .ok (.func fn first f) w:=λ_ _ _ _=>Z;have j:=((Bk.made w 158 #[ptr gp]).alloc (ag #[V H h] 3)).alloc (ag #[V H t] 3);have l:=(Bk.new (w.alloc (ag #[ptr gp] 158)) (g:=w.heap.size+1) zS 3 #[V H h]).alloc (ag #[V H t] 3);have m:=Bk.new ((w.alloc (ag #[ptr gp] 158)).alloc (ag #[V H h] 3)) (g:=w.heap.size+1+1) zS 3 #[V H t];have i:=aA (aA (bA w (ag #[ptr gp] 158)) (ag #[V H h] 3)) (ag #[V H t] 3);go_enter func103,ntmps103;go_wp2_with fail;go_ret;exact⟨_,_,_,Z,i,aq _,M,M,j,l,m⟩
def IW(k:Pk)(th a:Int)(log:Log)(q:An Out)(e g f c d gb:Nat)(h:I)(w wr:W):Prop:=
 ∃bq b,dz wr k b log/\cH k.gp c w wr/\OT wr k a bq e g f c/\Bk wr d 160 #[h]/\Bk wr gb 70 aW/\0<=bq/\bq<65536/\q=fU th k.me a (.sub (.g1 0 .tail) (.sg bq)) b (log.drop b.made)
theorem Ig(th a:Int)(o l n bm E:Nat)(h:dz w k z log)(R:0<=a/\a<4294967296)(y:o≠bm/\l≠bm/\n≠bm/\E≠bm)(s:o≠k.gp/\l≠k.gp/\n≠k.gp/\bm≠k.gp/\E≠k.gp)(qc:k.B<=bm)(c:OT w k a 0 o l n bm)(i:Bk w E 160 #[.func (.func 144) #[] #[ptr o,ptr l,ptr n,ptr bm]])(G:q=fU th k.me a (.sub (.g1 0 .tail) (.sg 0)) z (log.drop z.made))(qe:q≠ .stuck):
  Calls ao 105 #[ptr E] w (jC k bm q w λu w'=>∃j g f Y,q= .fin ⟨j,g,f,Y.gone⟩/\u= .agg (bh j g 0 f)/\dz w' k Y log):=by
 have m:=Bk.made w 70 aW;have lpg:=h.lt;have lbm:=c.2.2.2.lt;have d:=(cH.refl k.gp bm w).alloc (ag aW 70);replace h:=h.aw (aA bS (ag aW 70));replace c:OT (w.alloc (ag aW 70)) k a 0 o l n bm:=⟨c.1.alloc _,c.2.1.alloc _,c.2.2.1.alloc _,c.2.2.2.alloc _⟩;replace i:=i.alloc (ag aW 70);have HNS:=N (al qe (al R (al y (al s qc))));obtain⟨F,qd⟩:=nM (w.heap.size);have BI:=N qd;rw[qd]at m lpg lbm;obtain⟨O,K⟩:=nM (I.func (.func 144) #[] #[ptr o,ptr l,ptr n,ptr bm]);have HFV:=N K;rw[K]at i;have qa:=N (show IW k th a log q o l n bm E F O w (w.alloc (ag aW 70))from⟨0,z,h,d,c,i,m,zO,zO,G⟩);clear h d c i m G qe R y s qc K;go_enter func105,ntmps105;go_upto_region 1 with fail;generalize w.alloc (ag aW 70)=w1 at *;go_wp2_with fail;go_loopw [9] (λ_ wr=>IW k th a log q o l n bm E F O w wr) (λ_ wr=>log.length+1-madeOf k.gp wr)
 case atStart=>exact qa.out
 case round=>
 clear qa;obtain⟨bq,z1,H,d,c,i,m,BF,ru,G⟩:=hrel;have HM:=N (al (cU H) H.mle);have qb:=N G;have J:=i.cell 0;have l0:=i.lt;simp at J;rw[<- HFV.out]at J;clear G;go_wp2_with fail;have y:=HNS.out.2.2.1;have s:=HNS.out.2.2.2.1;refine(Hv th a bq o l n bm H HNS.out.2.1 ⟨BF,ru⟩ ⟨y.1,y.2.1,y.2.2.1⟩ ⟨s.1,s.2.1,s.2.2.1,s.2.2.2.1⟩ HNS.out.2.2.2.2 c.1 c.2.1 c.2.2.1 c.2.2.2 qb.out HNS.out.1).mono ?_;rintro e C (⟨x,S,rfl,h3⟩|⟨v,rfl,(⟨j,g,f,Q,hf,rfl,A⟩|⟨P,Q,rfl,A,T,hm20,hm21,fH,X⟩),t⟩)
 ·exact⟨Z,.inl ⟨x,S,Z,d.trans h3⟩⟩
 ·have HF:=N hf;have B:=t.aw m zO zO;replace d:=d.trans t;clear H c i m J l0 t hf qb;go_upto_region 2 with (refine eg Z 70 (.tmp 2) (.tmp 7) Z Z C.heap.size _ _ (bh j g 0 f) Z Z Z Z zK Z (by simp[aB]) ?_);have ko:=Bk.made C 70 (bh j g 0 f);have lgb:=B.lt;replace B:=B.alloc (ag (bh j g 0 f) 70);replace A:=A.aw (aA bS (ag (bh j g 0 f) 70));replace d:=d.alloc (ag (bh j g 0 f) 70);generalize C.alloc (ag (bh j g 0 f) 70)=M at *;go_wp2_with (first
   | (refine aM Z 70 (.tmp 2) Z C.heap.size Z 70 (bh j g 0 f) (0,0) _ ko aJ Z zK ?_)
   | (refine aI Z 70 (.tmp 1) (.tmp 10) Z Z F (bh j g 0 f) Z Z 70 aW B zK Z (by simp[aB]) ?_))
  have AY:=A.dK B zO (bh j g 0 f);replace B:=B.bG (bh j g 0 f);replace d:=d.row (b:=F) (.inl (by rw[BI.out];omega)) (bh j g 0 f);exact aS (v:=.agg (bh j g 0 f)) (bQ (p:=1) (ty:=70) Z _ _ F 70 _ (0,0) _ Z B aJ Z zK) Z (.inr ⟨_,Z,⟨_,_,_,_,HF.out,Z,AY⟩,d⟩)
 have L:=N (al X fH);replace m:=t.aw m zO zO;replace i:=t.aw i s.2.2.2.2 y.2.2.2;have D:OT C k a P o l n bm:=⟨t.aw c.1 s.1 y.1,t.aw c.2.1 s.2.1 y.2.1,t.aw c.2.2.1 s.2.2.1 y.2.2.1,T⟩;replace d:=d.trans t;clear H c J l0 t qb X fH T;go_upto_region 2 with (refine eg Z 70 (.tmp 2) (.tmp 7) Z Z C.heap.size _ _ aW Z Z Z Z zK Z (by simp[aB]) ?_);replace m:=m.alloc (ag aW 70);replace i:=i.alloc (ag aW 70);replace D:OT (C.alloc (ag aW 70)) k a P o l n bm:=⟨D.1.alloc _,D.2.1.alloc _,D.2.2.1.alloc _,D.2.2.2.alloc _⟩;replace A:=A.aw (aA bS (ag aW 70));replace d:=d.alloc (ag aW 70);generalize C.alloc (ag aW 70)=M at *;have qa:=N (show IW k th a log q o l n bm E F O w M from⟨P,Q,A,d,D,i,m,hm20,hm21,L.out.1⟩);have U:=cU A;have DI:=N (show log.length+1-madeOf k.gp M<log.length+1-madeOf k.gp wr by
  rw[U,HM.out.1];have S:=HM.out.2;have h2:=L.out.2;omega)
 clear A d D i m U L;go_wp2_with fail;go_roundw
 case rel=>exact qa.out
 case measure=>exact DI.out
theorem Ih(th a:Int)(m l bt B:Nat)(h:dz w k z log)(P:∀x∈log,-4611686018427387904<=x.1/\x.1<=4611686018427387904)(t:m≠k.gp/\l≠k.gp/\bt≠k.gp/\B≠k.gp)(j:RcBk w k m l bt)(n:Bk w B 160 #[.func (.func 155) #[] #[ptr m,ptr l,ptr bt]])(G:q=fU th k.me a (.sub (.g1 0 .head) .rg) z (log.drop z.made))(L:q≠ .stuck):
  Calls ao 105 #[ptr B] w (lq k q w λu H=>∃f d c D,q= .fin ⟨f,d,c,D.gone⟩/\u= .agg (bh f d 0 c)/\dz H k D log):=by
 have E:=Bk.made w 70 aW;have K:=h.lt;have g:=(Stp.refl k.gp w).alloc (ag aW 70);replace h:=h.aw (aA bS (ag aW 70));replace j:RcBk (w.alloc (ag aW 70)) k m l bt:=⟨j.1.alloc _,j.2.1.alloc _,j.2.2.alloc _⟩;replace n:=n.alloc (ag aW 70);have A:=aj (al G (al L P));go_enter func105,ntmps105;go_upto_region 1 with fail;generalize w.alloc (ag aW 70)=qb at *;obtain⟨y,F⟩:=nM (w.heap.size);have R:=aj F;rw[F]at E K ⊢;have J:=n.cell 0;have V:=n.lt;simp at J;go_wp2_with fail;refine wp_loop_rounds 1 ?_;rw[dB];go_wp2_with fail;refine(yl th a m l bt h A.out.2.2 ⟨t.1,t.2.1,t.2.2.1⟩ j.1 j.2.1 j.2.2 A.out.1 A.out.2.1).mono ?_;rintro e o (⟨x,qa,rfl,M⟩|⟨v,rfl,⟨f,d,c,T,Q,rfl,s⟩,C⟩)
 ·exact⟨Z,.inl ⟨x,qa,Z,g.trans M⟩⟩
 have S:=aj Q;have i:=C.aw E zO;replace g:=g.trans C;go_upto_region 2 with (refine eg Z 70 (.tmp 2) (.tmp 7) Z Z o.heap.size _ _ (bh f d 0 c) Z Z Z Z zK Z (by simp[aB]) ?_);have O:=Bk.made o 70 (bh f d 0 c);have X:=i.lt;replace i:=i.alloc (ag (bh f d 0 c) 70);replace s:=s.aw (aA bS (ag (bh f d 0 c) 70));replace g:=g.alloc (ag (bh f d 0 c) 70);generalize o.alloc (ag (bh f d 0 c) 70)=U at *;go_wp2_with (first
  | (refine aM Z 70 (.tmp 2) Z o.heap.size Z 70 (bh f d 0 c) (0,0) _ O aJ Z zK ?_)
  | (refine aI Z 70 (.tmp 1) (.tmp 10) Z Z y (bh f d 0 c) Z Z 70 aW i zK Z (by simp[aB]) ?_))
 have N:=s.dK i zO (bh f d 0 c);replace i:=i.bG (bh f d 0 c);replace g:=g.row (b:=y) (.inl (by rw[R.out];omega)) (bh f d 0 c);exact aS (v:=.agg (bh f d 0 c)) (bQ (p:=1) (ty:=70) Z _ _ y 70 _ (0,0) _ Z i aJ Z zK) Z (.inr ⟨_,Z,⟨_,_,_,_,S.out,Z,N⟩,g⟩)
end
theorem cnext(l:Ly)(me:Nat)(op:Opr)(g:cq)(gv:I)(A:Option Addr)(cap:Nat)(log:Log)(w:W)(f:eu l)(xm:0<=et l 0)(ho:op.obj=0)(hk:(op.kind=6/\0<=op.a/\op.a<4294967296)\/op.kind=7)(hg:bI w gv g)(hs:gH w w.heap.size A log)(hl:log.length<=100000)(uD:∀x∈log,-4611686018427387904<=x.1/\x.1<=4611686018427387904)(th:Int)(q:An Out)(hq:q=ez th me op.a (tf op.kind g) log)(mF:q≠ .stuck)(uM:∀o,q= .fin o->o.gone.length<=1000):
  Calls ao 73 #[lyV l,aa ab me,gv,.agg (di op),.slice A log.length cap] w (hJ l q w):=by
 obtain⟨G,gc,rfl,hN,yc⟩:=hg;have HG:=N (show bI w (.slice G g.length gc) g from⟨G,gc,Z,hN,yc⟩);have HA:=N (al f (al hs hl));have HQ:=N (al hq (al mF (al uM uD)));have HK:=N (al hk xm);have qb:=(((Bk.made w 34 (lyC l)).alloc (ag (di op) 54)).alloc (ag cG 67)).alloc (ag aW 70);have n:=((Bk.new (w.alloc (ag (lyC l) 34)) (g:=w.heap.size+1) zS 54 (di op)).alloc (ag cG 67)).alloc (ag aW 70);have d:=(Bk.new ((w.alloc (ag (lyC l) 34)).alloc (ag (di op) 54)) (g:=w.heap.size+1+1) zS 67 cG).alloc (ag aW 70);have i:=Bk.new (((w.alloc (ag (lyC l) 34)).alloc (ag (di op) 54)).alloc (ag cG 67)) (g:=w.heap.size+1+1+1) zS 70 aW;have B:=aA (aA (aA (bA w (ag (lyC l) 34)) (ag (di op) 54)) (ag cG 67)) (ag aW 70);go_enter func73,ntmps73;go_upto_region 1 with fail;generalize (((w.alloc (ag (lyC l) 34)).alloc (ag (di op) 54)).alloc (ag cG 67)).alloc (ag aW 70)=w4 at *;obtain⟨b0,h0⟩:=nM (w.heap.size);have HW:=N h0;rw[h0]at qb n d i ⊢;obtain⟨b1,h1⟩:=nM (b0+1);obtain⟨b2,O⟩:=nM (b1+1);obtain⟨b3,h3⟩:=nM (b2+1);rw[h1]at n;rw[h1,O]at d;rw[h1,O,h3]at i ⊢;have z1:b0<b1:=zO;have z2:b1<b2:=zO;have z3:b2<b3:=zO;refine aH (S:=λw'=>Bk w' b0 34 (lyC l)/\Bk w' b1 54 (di op)) (E:=λ_=>false) zK ?_;replace qb:=qb.drew;replace n:=n.drew;replace d:=d.drew;replace i:=i.drew;replace B:=B.drew;generalize w4.drew=w5 at *;refine wTq 6 [(0,17,lyV l),(1,18,ae (some ⟨b1,1,Y⟩)),(2,19,aa ab 0),(4,21,lyV l),(5,22,ae (some ⟨b1,1,Y⟩)),(6,23,aa ab 0)] ?_ ⟨qb,n⟩ ?_
 ·intro w' hS;have kE:(cL 34 ⟨b0,0,Y⟩).run ao w'= .ok (lyV l) w':=a7 w' b0 34 34 (lyC l) (0,0) _ hS.1 aK Z zK;have c1:=hS.2.cell 1;simp at c1;rw[ho]at c1;exact zL
 refine wOq 3 (λK hK=>?_);go_simp;refine(sx l 0 w5 HA.out.1).mono ?_;rintro e w6 ⟨rfl,a⟩;replace qb:=qb.aw a;replace n:=n.aw a;replace d:=d.aw a;replace i:=i.aw a;replace B:=aE B a;refine sO hK (λ_=>⟨qb,n⟩) ?_;refine wOq 7 (λK hK=>?_);go_simp;refine(BZ l 0 w6 HA.out.1).mono ?_;rintro e qf ⟨rfl,a⟩;replace qb:=qb.aw a;replace n:=n.aw a;replace d:=d.aw a;replace i:=i.aw a;replace B:=aE B a;refine sO hK (λ_=>⟨qb,n⟩) ?_;refine wTq 2 [(8,13,aa ab (et l 0)),(9,14,aa ab (eN l 0))] ?_ ⟨qb,n⟩ ?_
 ·intro w' hS;exact zT
 refine aG zK ?_ _;obtain⟨hd,zR⟩:=nM (et l 0);obtain⟨tl,htl⟩:=nM (eN l 0);have HHT:=N (al zR htl);have htz:decide (hd<0)=false:=by have:=HK.out.2;rw[zR]at this;simp;omega
 rw[zR,htl];go_upto_region 4 with fail;go_wp2_with (refine aM Z 34 (.tmp 5) Z b0 Z 34 (lyC l) (0,0) _ qb aK Z zK ?_);have rI:w.heap.size<=qf.heap.size:=B.size;have hG6:bI qf (.slice G g.length gc) g:=HG.out.aw B;have hS6:gH qf qf.heap.size A log:=(HA.out.2.1.below B).more rI;refine(H9 (tp:=186) (tv:=158) (fd:=143) l me _ g A cap log qf HA.out.1 hG6 hS6 HA.out.2.2).mono ?_;rintro e w8 ⟨rfl,qc,a⟩;have A4:=i.lt;replace qb:=qb.aw a;replace n:=n.aw a;replace d:=d.aw a;replace i:=i.aw a;replace B:=aE B a;obtain⟨k,oP⟩:=nM (r9 qf l me A cap);have qe:=N (show k.l=l/\k.me=me/\k.gp=qf.heap.size+1+1/\k.B=qf.heap.size from oP ▸ ⟨rfl,rfl,rfl,rfl⟩);have hgp:qf.heap.size+1+1=k.gp:=qe.out.2.2.1.symm;rw[oP]at qc;rw[hgp];have hw6:qf.heap.size<=k.gp:=zO;have qa:=N (al hw6 (al rI (show b3<k.gp by omega)));go_upto_region 6 with fail;have H:=Bk.made w8 160 #[.nilFunc];have lp:=qc.lt;replace qc:=qc.aw (aA bS (ag #[.nilFunc] 160));replace qb:=qb.alloc (ag #[.nilFunc] 160);replace n:=n.alloc (ag #[.nilFunc] 160);replace d:=d.alloc (ag #[.nilFunc] 160);replace i:=i.alloc (ag #[.nilFunc] 160);replace B:=aA B (ag #[.nilFunc] 160);generalize w8.alloc (ag #[.nilFunc] 160)=w9 at *;obtain⟨s,h16⟩:=nM (w8.heap.size);rw[h16]at H lp ⊢;have hmf:∀(fn:Fn) (first cap:Array I) (w:W),(uT fn first cap).run ao w= .ok (.func fn first cap) w:=λ_ _ _ _=>rfl;have c0:=n.cell 0;have c2:=n.cell 2;simp at c0 c2;have l1:=n.lt;have hgt:w.heap.size<=k.gp:=aF qa.out.2.1 qa.out.1;have c:=N (al hgt lp);rcases HK.out.1 with⟨hk4,ha0,yC⟩|CP
 ·have sf:(op.kind==6)=true:=by simp[hk4]
  have iB:=N (show q=fU th k.me op.a (.sub (.g1 0 .tail) (.sg 0)) ⟨[0,0,0],g,0⟩ (log.drop 0)by
   rw[HQ.out.1,hk4,qe.out.2.1];rfl)
  have HAB:=N (al ha0 yC);go_upto_region 9 with fail;go_wp2_with fail;refine(Kf k.gp tl op.a w9).mono ?_;rintro e wa ⟨m,j,Q,M,rfl,a,y1,y2,y3,y4,kp,kt,kv,km⟩;have y0:s<w9.heap.size:=H.lt;replace n:=n.aw a;replace d:=d.aw a;replace i:=i.aw a;replace H:=H.aw a;replace qc:=qc.aw a;replace B:=aE B a;have c16:=H.cell 0;have f16:=H.free 0;have l16:=H.lt;simp at c16;go_upto_region 12 with fail;replace qc:=qc.pz H (by have:=qe.out.2.2.2;have:=qa.out.1;have:=c.out.2;omega) zD 0 (.func (.func 144) #[] #[ptr m,ptr j,ptr Q,ptr M]);replace n:=n.other (p:=⟨s,0,Y⟩) (by have:=qa.out.2.2;have:=c.out.2;dsimp only;omega) (.func (.func 144) #[] #[ptr m,ptr j,ptr Q,ptr M]);replace d:=d.other (p:=⟨s,0,Y⟩) (by have:=qa.out.2.2;have:=c.out.2;dsimp only;omega) (.func (.func 144) #[] #[ptr m,ptr j,ptr Q,ptr M]);replace i:=i.other (p:=⟨s,0,Y⟩) (by have:=qa.out.2.2;have:=c.out.2;dsimp only;omega) (.func (.func 144) #[] #[ptr m,ptr j,ptr Q,ptr M]);replace kp:=kp.other (p:=⟨s,0,Y⟩) (by dsimp only;omega) (.func (.func 144) #[] #[ptr m,ptr j,ptr Q,ptr M]);replace kt:=kt.other (p:=⟨s,0,Y⟩) (by dsimp only;omega) (.func (.func 144) #[] #[ptr m,ptr j,ptr Q,ptr M]);replace kv:=kv.other (p:=⟨s,0,Y⟩) (by dsimp only;omega) (.func (.func 144) #[] #[ptr m,ptr j,ptr Q,ptr M]);replace km:=km.other (p:=⟨s,0,Y⟩) (by dsimp only;omega) (.func (.func 144) #[] #[ptr m,ptr j,ptr Q,ptr M]);replace B:=bu B (p:=⟨s,0,Y⟩) (by have:=c.out.1;have:=c.out.2;dsimp only;omega) (.func (.func 144) #[] #[ptr m,ptr j,ptr Q,ptr M]);replace H:Bk (wa.setCell ⟨s,0,Y⟩ (.func (.func 144) #[] #[ptr m,ptr j,ptr Q,ptr M])) s 160 #[(.func (.func 144) #[] #[ptr m,ptr j,ptr Q,ptr M])]:=H.stored 0 (.func (.func 144) #[] #[ptr m,ptr j,ptr Q,ptr M]);generalize wa.setCell ⟨s,0,Y⟩ (.func (.func 144) #[] #[ptr m,ptr j,ptr Q,ptr M])=uq at *;have HB:=N (al B (al d i));have uQ:=N (cH.aT k.gp M B);have htl:tl=eN k.l 0:=by rw[qe.out.1];exact HHT.out.2.symm
  rw[htl]at kt;have P:=N (al qc (al H (al kp (al kt (al kv km)))));have lbm:=km.lt;go_wp2_with fail;have qB:=rW (fn:=104) (k:=k) (z:=⟨[0,0,0],g,0⟩) (log:=log) q (λD u bc z'=>q= .fin ⟨D,u,bc,z'.gone⟩) 105 #[ptr s] M uq lbm P.out.1 (by intro w;simp[go_sem]) (λD u bc z' hT=>HQ.out.2.2.1 _ hT)
   (λw2 O=>Ig th op.a m j Q M s (P.out.1.aw O) HAB.out ⟨zO,zO,zO,zO⟩ ⟨by have:=c.out.2;omega,by have:=c.out.2;omega,by have:=c.out.2;omega,by have:=c.out.2;omega,by have:=c.out.2;omega⟩ (by have:=qe.out.2.2.2;have:=qa.out.1;have:=c.out.2;omega)
    ⟨P.out.2.2.1.aw O,P.out.2.2.2.1.aw O,P.out.2.2.2.2.1.aw O,P.out.2.2.2.2.2.aw O⟩ (P.out.2.1.aw O) iB.out HQ.out.2.1)
  (with_reducible refine qB.mono ?_);rintro e qJ ⟨ib,lh⟩;obtain⟨X,qd,U,V,D,u,J,L,y,F,C,dn,rfl,ie⟩:∃c0 c1 c2 c3 D u J L y F C dn,e=ai (.tuple #[.agg (bj c0 c1 c2 c3),.agg (bg D u J L (.slice y F C)),.bool dn])/\∀w':W,(∀gg,bI qJ (.slice y F C) gg->bI w' (.slice y F C) gg)->Below w.heap.size w w'->hJ l q w (ai (.tuple #[.agg (bj c0 c1 c2 c3),.agg (bg D u J L (.slice y F C)),.bool dn])) w':=by
   rcases ib with⟨x,hx,rfl⟩|⟨D,u,bc,z',gv,hT,rfl,mD⟩
   ·exact⟨_,_,_,_,_,_,_,_,_,_,_,_,Z,λw' _ a=>⟨.inl ⟨x,hx,by rw[qe.out.1]⟩,a⟩⟩
   obtain⟨y,C,rfl,r1,r2⟩:=mD;exact⟨_,_,_,_,_,_,_,_,_,_,_,_,Z,λw' hk a=>⟨.inr ⟨_,_,hT,Z,hk _ ⟨y,C,Z,r1,r2⟩⟩,a⟩⟩
  have HF:=N ie;have d:=lh.aw HB.out.2.1 (by have:=qa.out.2.2;omega) (by have:=qa.out.2.2;have:=c.out.2;omega);have i:=lh.aw HB.out.2.2 (by have:=qa.out.2.2;omega) (by have:=qa.out.2.2;have:=c.out.2;omega);have nC:=uQ.out.trans lh;go_wp2_with (first
   | (refine aI Z 67 (.tmp 10) (.tmp 60) Z Z b2 (bj X qd U V) Z Z 67 cG d zK Z (by simp[aB]) ?_)
   | (refine aI Z 70 (.tmp 11) (.tmp 61) Z Z b3 (bg D u J L (.slice y F C)) Z Z 70 aW (i.a6 (b:=b2) zO (bj X qd U V)) zK Z (by simp[aB]) ?_))
  have xc:=i.a6 (b:=b2) zO (bj X qd U V);have ys:=(d.bG (bj X qd U V)).a6 (b:=b3) zO (bg D u J L (.slice y F C));have yr:=xc.bG (bg D u J L (.slice y F C));have lG:=(nC.row (b:=b2) (.inl (by rw[HW.out];omega)) (bj X qd U V)).row (b:=b3) (.inl (by rw[HW.out];omega)) (bg D u J L (.slice y F C));exact aS (v:=.tuple #[.agg (bj X qd U V),.agg (bg D u J L (.slice y F C)),.bool dn]) (eo (p:=10) (q:=11) (t:=12) (t1:=67) (t2:=70) Z _ _ b2 b3 _ _ (0,0) (0,0) _ _ _ Z Z Z ys yr cF Z zK aJ Z zK) Z
   (HF.out _ (λgg hg=>(hg.row d zD _).row xc zD _) (lG.part c.out.1 (by have:=c.out.1;have:=c.out.2;omega) (aq _)))
 have sf:(op.kind==6)=false:=by simp[CP]
 have tP:(op.kind==7)=true:=by simp[CP]
 have iB:=N (show q=fU th k.me op.a (.sub (.g1 0 .head) .rg) ⟨[0,0,0],g,0⟩ (log.drop 0)by
  rw[HQ.out.1,CP,qe.out.2.1];rfl)
 go_upto_region 11 with fail;go_wp2_with fail;refine(Az k.gp hd tl w9).mono ?_;rintro e wa ⟨m,T,j,rfl,a,y1,y2,y3,kp,kh,kt⟩;have y0:s<w9.heap.size:=H.lt;replace n:=n.aw a;replace d:=d.aw a;replace i:=i.aw a;replace H:=H.aw a;replace qc:=qc.aw a;replace B:=aE B a;have c16:=H.cell 0;have f16:=H.free 0;have l16:=H.lt;simp at c16;go_upto_region 12 with fail;replace qc:=qc.pz H (by have:=qe.out.2.2.2;have:=qa.out.1;have:=c.out.2;omega) zD 0 (.func (.func 155) #[] #[ptr m,ptr T,ptr j]);replace n:=n.other (p:=⟨s,0,Y⟩) (by have:=qa.out.2.2;have:=c.out.2;dsimp only;omega) (.func (.func 155) #[] #[ptr m,ptr T,ptr j]);replace d:=d.other (p:=⟨s,0,Y⟩) (by have:=qa.out.2.2;have:=c.out.2;dsimp only;omega) (.func (.func 155) #[] #[ptr m,ptr T,ptr j]);replace i:=i.other (p:=⟨s,0,Y⟩) (by have:=qa.out.2.2;have:=c.out.2;dsimp only;omega) (.func (.func 155) #[] #[ptr m,ptr T,ptr j]);replace kp:=kp.other (p:=⟨s,0,Y⟩) (by dsimp only;omega) (.func (.func 155) #[] #[ptr m,ptr T,ptr j]);replace kh:=kh.other (p:=⟨s,0,Y⟩) (by dsimp only;omega) (.func (.func 155) #[] #[ptr m,ptr T,ptr j]);replace kt:=kt.other (p:=⟨s,0,Y⟩) (by dsimp only;omega) (.func (.func 155) #[] #[ptr m,ptr T,ptr j]);replace B:=bu B (p:=⟨s,0,Y⟩) (by have:=c.out.1;have:=c.out.2;dsimp only;omega) (.func (.func 155) #[] #[ptr m,ptr T,ptr j]);replace H:Bk (wa.setCell ⟨s,0,Y⟩ (.func (.func 155) #[] #[ptr m,ptr T,ptr j])) s 160 #[(.func (.func 155) #[] #[ptr m,ptr T,ptr j])]:=H.stored 0 (.func (.func 155) #[] #[ptr m,ptr T,ptr j]);generalize wa.setCell ⟨s,0,Y⟩ (.func (.func 155) #[] #[ptr m,ptr T,ptr j])=uq at *;have HB:=N (al B (al d i));have uQ:=N (cH.aT k.gp k.gp B);have htl:tl=eN k.l 0:=by rw[qe.out.1];exact HHT.out.2.symm
 have zR:hd=et k.l 0:=by rw[qe.out.1];exact HHT.out.1.symm
 rw[htl]at kt;rw[zR]at kh;have P:=N (al qc (al H (al kp (al kh kt))));go_wp2_with fail;have qB:=rW (fn:=104) (k:=k) (z:=⟨[0,0,0],g,0⟩) (log:=log) q (λD u bc z'=>q= .fin ⟨D,u,bc,z'.gone⟩) 105 #[ptr s] k.gp uq P.out.1.lt P.out.1 (by intro w;simp[go_sem]) (λD u bc z' hT=>HQ.out.2.2.1 _ hT)
  (λw2 O=>(Ih th op.a m T j s (P.out.1.aw O) HQ.out.2.2.2 ⟨by have:=c.out.2;omega,by have:=c.out.2;omega,by have:=c.out.2;omega,by have:=c.out.2;omega⟩
   ⟨P.out.2.2.1.aw O,P.out.2.2.2.1.aw O,P.out.2.2.2.2.aw O⟩ (P.out.2.1.aw O) iB.out HQ.out.2.1).mono λ_ _ h=>h.two)
 (with_reducible refine qB.mono ?_);rintro e qJ ⟨ib,lh⟩;obtain⟨X,qd,U,V,D,u,J,L,y,F,C,dn,rfl,ie⟩:∃c0 c1 c2 c3 D u J L y F C dn,e=ai (.tuple #[.agg (bj c0 c1 c2 c3),.agg (bg D u J L (.slice y F C)),.bool dn])/\∀w':W,(∀gg,bI qJ (.slice y F C) gg->bI w' (.slice y F C) gg)->Below w.heap.size w w'->hJ l q w (ai (.tuple #[.agg (bj c0 c1 c2 c3),.agg (bg D u J L (.slice y F C)),.bool dn])) w':=by
  rcases ib with⟨x,hx,rfl⟩|⟨D,u,bc,z',gv,hT,rfl,mD⟩
  ·exact⟨_,_,_,_,_,_,_,_,_,_,_,_,Z,λw' _ a=>⟨.inl ⟨x,hx,by rw[qe.out.1]⟩,a⟩⟩
  obtain⟨y,C,rfl,r1,r2⟩:=mD;exact⟨_,_,_,_,_,_,_,_,_,_,_,_,Z,λw' hk a=>⟨.inr ⟨_,_,hT,Z,hk _ ⟨y,C,Z,r1,r2⟩⟩,a⟩⟩
 have HF:=N ie;have d:=lh.aw HB.out.2.1 (by have:=qa.out.2.2;omega) (by have:=qa.out.2.2;have:=c.out.2;omega);have i:=lh.aw HB.out.2.2 (by have:=qa.out.2.2;omega) (by have:=qa.out.2.2;have:=c.out.2;omega);have nC:=uQ.out.trans lh;go_wp2_with (first
  | (refine aI Z 67 (.tmp 10) (.tmp 60) Z Z b2 (bj X qd U V) Z Z 67 cG d zK Z (by simp[aB]) ?_)
  | (refine aI Z 70 (.tmp 11) (.tmp 61) Z Z b3 (bg D u J L (.slice y F C)) Z Z 70 aW (i.a6 (b:=b2) zO (bj X qd U V)) zK Z (by simp[aB]) ?_))
 have xc:=i.a6 (b:=b2) zO (bj X qd U V);have ys:=(d.bG (bj X qd U V)).a6 (b:=b3) zO (bg D u J L (.slice y F C));have yr:=xc.bG (bg D u J L (.slice y F C));have lG:=(nC.row (b:=b2) (.inl (by rw[HW.out];omega)) (bj X qd U V)).row (b:=b3) (.inl (by rw[HW.out];omega)) (bg D u J L (.slice y F C));exact aS (v:=.tuple #[.agg (bj X qd U V),.agg (bg D u J L (.slice y F C)),.bool dn]) (eo (p:=10) (q:=11) (t:=12) (t1:=67) (t2:=70) Z _ _ b2 b3 _ _ (0,0) (0,0) _ _ _ Z Z Z ys yr cF Z zK aJ Z zK) Z
  (HF.out _ (λgg hg=>(hg.row d zD _).row xc zD _) (lG.part c.out.1 (by have:=c.out.1;have:=c.out.2;omega) (aq _)))
end segment
end Go.Proofs.YtikdaeddbkopeaaGreatR
