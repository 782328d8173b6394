/- A part of the proof. -/
import Derived.WalkKit
import Derived.Deep.QuietTactic
import Derived.Deep.DrawnRows
import Derived.BigQuiet
import Derived.Outline
import Derived.Test.YtikdaeddbkopeaaGreatRV15
import Derived.Test.YtikdaeddbkopeaaGreatRV14
import Derived.Test.YtikdaeddbkopeaaGreatRV13
import Derived.Test.YtikdaeddbkopeaaGreatRV12
set_option linter.unusedVariables false
set_option linter.unusedSimpArgs false
set_option maxRecDepth 100000
set_option maxHeartbeats 16000000
open And renaming intro → au
open Bool renaming and_eq_true → dq
open Go renaming wpList_load_row → aL, wp_at_zero → aV, wp_at_succ → aW, bodyPost_ret → aX, run_loadVar_row → be, wpList_append_own_at → cM, results_cell_row → cb, results_none → dY, loadVar → dr, Ending → lb, maxLen → nu, info_parts → xE
open Go.Ending renaming returned → ai
open Go.Instr renaming field → uP
open Go.IntKind renaming i64 → ab
open Go.Lib renaming hid → ar
open Go.Obj renaming cells → ag
open Go.Proofs.Tryz renaming underlying34 → aJ, prog → aw, underlying26 → fA, underlying35 → su
open Go.Value renaming oneCell' → aD, int → sj, bool → ah, int → aa, pointer → ae, slice → af
open Go.World renaming ownsRow_nil → cZ
open Go.World.ownsRow renaming cellAt → jj
open List renaming getElem?_eq_some_iff → a8, getElem?_eq_getElem → aO, setIfInBounds_toArray → aj, set_cons_zero → ak, set_cons_succ → al, getElem_cons_zero → an, getElem_cons_succ → ao, getElem_toArray → aq, mem_cons → bD, mem_of_getElem? → bX, not_mem_nil → cB, length_append → cJ, all_eq_true → dM, set_nil → iL, take_add_one → j7, length_take → jM, take_length → pL
open Nat renaming le_trans → aQ, zero_le → aY, le_refl → az, lt_of_lt_of_le → bg
open Option renaming isSome_some → gQ
open True renaming intro → aC
namespace Go.Proofs.YtikdaeddbkopeaaGreatR.list
open Go.RowKit
attribute [local go_sem ↓] aV aW
def rowP (l:Ly) (zs:List Int) (a:Int):Option (Int × Int):=if fG (zs.getD (nodeAt l a 0).toNat 0)=true then none else some (zs.getD (nodeAt l a 1).toNat 0,zs.getD (nodeAt l a 2).toNat 0)
def mo (l:Ly) (zs L:List Int):cG:=L.filterMap (rowP l zs)
theorem ML (l:Ly) (zs L:List Int):(mo l zs L).length<=L.length:=List.length_filterMap_le _ _
def rlT:Nat->Nat | 4=>31 | 5=>32 | 9=>36 | 10=>37 | 11=>38 | 12=>39 | _=>43
def rlP:Nat->List Nat | 5=>[4] | 10=>[9] | 11=>[5,10] | 12=>[11] | _=>[]
def rlR (n1 n2 v1 v2:Int) (i:Nat) (val:Nat->Option Value) (v:Value) (w:World):Prop:=match i with
 | 4=>v=aa ab n1
 | 5=>v=aa ab v1
 | 9=>v=aa ab n2
 | 10=>v=aa ab v2
 | 11=>v= .agg #[aa ab v1,aa ab v2]
 | 12=>∃ g,v=af (some ⟨g,0,none⟩) 1 1/\Bk w g 52 #[aa ab v1,aa ab v2]
 | _=>True
theorem MM {n1 n2 v1 v2:Int}:∀ (i:Nat) (val dV:Nat->Option Value) (v:Value) (w1 w2:World),(∀ (j:Nat) (u:Value),val j=some u->dV j=some u)->Below w1.heap.size w1 w2->rlR n1 n2 v1 v2 i val v w1->rlR n1 n2 v1 v2 i dV v w2:=by
 intro i val dV v w1 w2 _ hb h;unfold rlR at h ⊢;split at h <;> first | exact h | (obtain ⟨g,h1,h2⟩:=h;exact ⟨g,h1,h2.ay hb⟩) | trivial
theorem rR (l:Ly) (s:Int) (A:Option Addr) (c n:Nat) (zs L:List Int) (w:World) (f:dU l) (h:gJ w w.heap.size A zs) (hn:zs.length=n) (hN:l.c.nodes<=1000)
  (qG:0<=s/\s < n) (gu:∀ a i,1<=a/\a<=l.c.nodes->0<=i/\i < 8->0<=nodeAt l a i/\nodeAt l a i < n) (ot:idxOf (zs.getD s.toNat 0)=L.headD 0) (mK:lY (fun a=>idxOf (zs.getD (nodeAt l a 0).toNat 0)) L) (nZ:∀ a∈L,1<=a/\a<=l.c.nodes) (jT:L.Nodup) (Md:L.length<=1000):
  Calls aw 59 #[lyV l,.agg #[.slice A n c],aa ab s] w fun e w'=>∃ B d,e=ai (.slice B (mo l zs L).length d)/\iq w' w.heap.size (.slice B (mo l zs L).length d) (mo l zs L)/\Below w.heap.size w w':=by
 have k0:=(Bk.made w 34 (lyC l)).alloc (ag #[.slice A n c] 37);have kM:=Bk.new (w.alloc (ag (lyC l) 34)) (g:=w.heap.size+1) zS 37 #[.slice A n c];have bz:=aB (aB (Below.refl w.heap.size w) (ag (lyC l) 34)) (ag #[.slice A n c] 37);have F:=ar f;have HS:=ar (au h hn);have HP:=ar (au gu (au nZ hN));obtain ⟨ri,AY⟩:=AK;have kG:=fun w2 (hb:Below w.heap.size w w2)=>ks l s A c n zs L w2 f (by have:=h.below hb;exact this.more hb.size) hn hN qG (fun a ha=>gu a 0 ha zD) ot mK nZ jT Md
 have q0:((w.alloc (ag (lyC l) 34)).alloc (ag #[.slice A n c] 37)).cell? ⟨w.heap.size+1,0,none⟩=some (.slice A n c):=by rw [kM.cell];rfl
 clear h hn gu ot mK nZ jT f qG hN;go_enter Tryz.func59,Tryz.ntmps59
 go_wp2_with (refine aL rfl 34 (.tmp 3) rfl w.heap.size rfl 34 (lyC l) (0,0) _ k0 aJ rfl zK ?_)
 generalize (w.alloc (ag (lyC l) 34)).alloc (ag #[.slice A n c] 37)=w1 at *
 (with_reducible refine (kG _ bz).mono ?_)
 rintro e w2 ⟨NB,nd,rfl,mT,hb⟩;clear kG q0;replace k0:=k0.ay hb;replace kM:=kM.ay hb;replace bz:=aF bz hb;clear hb
 go_wp2_with fail
 go_loopw [7,15] (fun v7 v15 wr=>∃ k:Nat,k<=L.length/\v15=aa ab (k:Nat)/\Below w2.heap.size w2 wr/\iq wr w2.heap.size v7 (mo l zs (L.take k))) (fun v7 v15 _=>L.length - (intOf v15).toNat)
 case atStart=>exact ⟨0,aY _,rfl,Below.refl _ _,cZ _ _ _ _⟩
 case round=>
  obtain ⟨k,hk,rfl,fK,bn⟩:=hrel;have hb:=bz.trans (fK.mono bz.size);have k1:=k0.below fK k0.lt;have pN:=kM.below fK kM.lt
  by_cases dN:k < L.length
  ·obtain ⟨a,ha⟩:∃ a,L[k]? =some a:=⟨_,aO dN⟩;obtain ⟨nb,ndc,tL,-,BO⟩:=World.ownsRow.form mT zO;injection tL with tL e1 e2
   clear e1 e2;have qn:wr.cell? ⟨nb,k,none⟩=some (aa ab a):=by
    rw [fK.cell (p:=⟨nb,k,none⟩) BO];subst tL;rw [jj mT k zO];simp [ints,ha]
   have g1:decide ((k:Int) < L.length)=true:=by simp;omega
   have j1:(k:Int) < L.length:=zO;have ham:=bX ha;have Ke:1<=a/\a<=1000:=by have:=HP.out.2.1 a ham;have:=HP.out.2.2;omega
   have vt:=HP.out.1 a 0 (HP.out.2.1 a ham) zD;have A3:=HP.out.1 a 1 (HP.out.2.1 a ham) zD;have uL:=HP.out.1 a 2 (HP.out.2.1 a ham) zD;have oO:L.take (k+1)=L.take k++[a]:=by rw [j7,ha];rfl
   obtain ⟨R,hR⟩:∃ z,mo l zs (L.take k)=z:=⟨_,rfl⟩;have hR2:mo l zs (L.take (k+1))=R++(rowP l zs a).toList:=by
    rw [oO,<- hR];unfold mo;rw [List.filterMap_append];congr 1
   have hlen:R.length<=1000:=by have:=ML l zs (L.take k);rw [hR,jM] at this;omega
   rw [hR] at bn;obtain ⟨x0,hx0⟩:∃ z,nodeAt l a 0=z:=⟨_,rfl⟩;obtain ⟨x1,hx1⟩:∃ z,nodeAt l a 1=z:=⟨_,rfl⟩;obtain ⟨x2,Dm⟩:∃ z,nodeAt l a 2=z:=⟨_,rfl⟩;obtain ⟨v0,hv0⟩:∃ z,zs.getD x0.toNat 0=z:=⟨_,rfl⟩;obtain ⟨v1,hv1⟩:∃ z,zs.getD x1.toNat 0=z:=⟨_,rfl⟩;obtain ⟨v2,hv2⟩:∃ z,zs.getD x2.toNat 0=z:=⟨_,rfl⟩;have hrp:rowP l zs a=if (v0 / 65536 % 2==1)=true then none else some (v1,v2):=by unfold rowP;rw [hx0,hx1,Dm,hv0,hv1,hv2,fG]
   rw [hx0] at vt;rw [hx1] at A3;rw [Dm] at uL;have HX:=ar (au hx0 (au hx1 (au Dm (au hv0 (au hv1 (au hv2 (au hrp hR2)))))));have HN:=ar (au vt (au A3 uL));have HNO:=ar mT;have HNB:=ar tL;rw [tL];obtain ⟨G,cg,rfl⟩:=cj bn;clear ha ham oO tL hR hR2 hx0 hx1 Dm hv0 hv1 hv2 hrp vt A3 uL mT
   go_upto_region 5 with fail
   clear qn g1;refine aP (S:=fun w'=>Below wr.drew.heap.size wr.drew w') (E:=fun _=>false) zK ?_
   have dD:=aU (Below.refl wr.heap.size wr);replace k1:=k1.ay dD;replace pN:=pN.ay dD;replace bn:=bc bn dD;replace hb:=aF hb dD;replace fK:=fK.trans (dD.mono fK.size);clear dD;generalize wr.drew=w3 at *;refine wTk 2 [(0,19,.agg #[.slice A n c]),(2,21,aa ab a)] ?_ (Below.refl _ _) ?_
   ·intro w' hS;have c0:=(pN.ay hS).cell 0;simp at c0
    (repeat' (first | exact aC | refine au ⟨_,rfl,.inl ⟨rfl,?_⟩⟩ ?_))
    all_goals exact zG
   simp only [aR,Act.put,aj,ak,al];refine wTk 1 [(1,20,lyV l)] ?_ (Below.refl _ _) ?_
   ·intro w' hS;have fg:(dr 34 ⟨w.heap.size,0,none⟩).run aw w'= .ok (lyV l) w':=be w' w.heap.size 34 34 (lyC l) (0,0) _ (k1.ay hS) aJ rfl zK
    (repeat' (first | exact aC | refine au ⟨_,rfl,.inl ⟨rfl,?_⟩⟩ ?_))
    all_goals exact bI rfl rfl fg
   simp only [aR,Act.put,aj,ak,al];refine aE (i:=3) (o:=_) zK rfl (fun K hK=>?_)
   (try simp only [aq,ao,an])
   go_simp
   (with_reducible refine (dt l a 0 _ F.out zO).mono ?_)
   rintro e w4 ⟨rfl,jR⟩;rw [HX.out.1];refine hK.out _ _ (fun _=>jR) ?_
   clear hK K
   (try simp only [Act.put,aj,ak,al])
   refine aE (i:=4) (o:=_) zK rfl (fun K hK=>?_)
   (try simp only [aq,ao,an])
   go_simp
   (with_reducible refine (jF A c zs n x0 _ HS.out.2 (by have:=HS.out.1.below (aF hb jR);exact this.more (aF hb jR).size) HN.out.1.1 HN.out.1.2).mono ?_)
   rintro e w5 ⟨rfl,gS⟩;rw [HX.out.2.2.2.1];have vz:=aF jR gS;refine hK.out _ _ (fun _=>vz) ?_
   clear hK K
   (try simp only [Act.put,aj,ak,al])
   refine aE (i:=5) (o:=_) zK rfl (fun K hK=>?_)
   (try simp only [aq,ao,an])
   go_simp
   (with_reducible refine (gV v0 _).mono ?_)
   rintro e w6 ⟨rfl,fz⟩;have xd:=aF vz fz;refine hK.out _ _ (fun _=>xd) ?_
   clear hK K
   (try simp only [Act.put,aj,ak,al])
   obtain ⟨mk,mU⟩:∃ b,(v0 / 65536 % 2==1)=b:=⟨_,rfl⟩;have HMK:=ar mU;rw [mU];clear mU;generalize v0 % 65536=z1;generalize v0 / 131072 % 268435456=z2;have hf1:∀ w:World,(uP 81 (.agg #[aa ab z1,.bool mk,aa ab z2]) 1).run aw w= .ok (.bool mk) w:=fun w=>by kernel_rfl
   refine wTk 2 [(6,25,.bool mk),(7,26,ah (!mk))] ?_ xd ?_
   ·intro w' hS
    (repeat' (first | exact aC | refine au ⟨_,rfl,.inl ⟨rfl,?_⟩⟩ ?_))
    all_goals exact zG
   simp only [aR,Act.put,aj,ak,al];refine aN zK ?_ _;replace bn:=bc bn xd;replace fK:=fK.trans (xd.mono fK.size);replace hb:=aF hb xd;replace k1:=k1.ay xd;replace pN:=pN.ay xd;clear xd vz jR gS fz hf1
   cases mk with
   | true=>
    go_wp2_with fail
    refine ⟨⟨k+1,dN,by go_num,fK,?_⟩,by simp [intOf];omega⟩
    rw [HX.out.2.2.2.2.2.2.2,HX.out.2.2.2.2.2.2.1,HMK.out,if_pos rfl,show (none:Option (Int × Int)).toList=[] from rfl,List.append_nil]
    exact bn
   | false=>
    go_upto_region 6 with fail
    refine aP (S:=fun w'=>Bk w' w.heap.size 34 (lyC l)/\Bk w' (w.heap.size+1) 37 #[.slice A n c]) (E:=fun _=>false) zK ?_
    have dD:=aU (Below.refl w6.heap.size w6);replace k1:=k1.ay dD;replace pN:=pN.ay dD;replace bn:=bc bn dD;replace hb:=aF hb dD;replace fK:=fK.trans (dD.mono fK.size);clear dD;generalize w6.drew=w7 at *;refine wTk 5 [(0,27,.slice G R.length cg),(1,28,.agg #[.slice A n c]),(3,30,aa ab a),(6,33,.agg #[.slice A n c]),(8,35,aa ab a)] ?_ ⟨k1,pN⟩ ?_
    ·intro w' hS;have c0:=hS.2.cell 0;simp at c0
     (repeat' (first | exact aC | refine au ⟨_,rfl,.inl ⟨rfl,?_⟩⟩ ?_))
     all_goals exact zG
    simp only [aR,Act.put,aj,ak,al];refine wTk 2 [(2,29,lyV l),(7,34,lyV l)] ?_ ⟨k1,pN⟩ ?_
    ·intro w' hS;have fg:(dr 34 ⟨w.heap.size,0,none⟩).run aw w'= .ok (lyV l) w':=be w' w.heap.size 34 34 (lyC l) (0,0) _ hS.1 aJ rfl zK
     (repeat' (first | exact aC | refine au ⟨_,rfl,.inl ⟨rfl,?_⟩⟩ ?_))
     all_goals exact bI rfl rfl fg
    simp only [aR,Act.put,aj,ak,al];refine gF (U:=[4,5,9,10,11,12]) (tmp:=rlT) (pre:=rlP) (R:=rlR x1 x2 v1 v2) zK (fun _ _=>rfl) (fun w2 h=>⟨k1.ay h,pN.ay h⟩) MM (fun i hi=>?_) 2 (fun val w8 bS pQ=>?_)
    ·simp only [bD,cB,or_false] at hi;rcases hi with rfl | rfl | rfl | rfl | rfl | rfl
     ·refine ⟨_,rfl,fun val w2 K cY cd hK=>?_⟩
      simp only [rlP,bq] at hK ⊢;go_simp
      (with_reducible refine (dt l a 1 w2 F.out zO).mono ?_)
      rintro e w8 ⟨rfl,pQ⟩;exact hK _ _ (congrArg (sj .i64) HX.out.2.1) pQ
     ·refine ⟨_,rfl,fun val w2 K cY cd hK=>?_⟩
      obtain ⟨v,e,rfl⟩:=cd 4 (by simp [rlP])
      simp only [rlP,bq,e,rlT] at hK ⊢;go_simp
      (with_reducible refine (jF A c zs n x1 _ HS.out.2 (by have:=HS.out.1.below (aF hb cY);exact this.more (aF hb cY).size) HN.out.2.1.1 HN.out.2.1.2).mono ?_)
      rintro e w8 ⟨rfl,pQ⟩;exact hK _ _ (congrArg (sj .i64) HX.out.2.2.2.2.1) pQ
     ·refine ⟨_,rfl,fun val w2 K cY cd hK=>?_⟩
      simp only [rlP,bq] at hK ⊢;go_simp
      (with_reducible refine (dt l a 2 w2 F.out zO).mono ?_)
      rintro e w8 ⟨rfl,pQ⟩;exact hK _ _ (congrArg (sj .i64) HX.out.2.2.1) pQ
     ·refine ⟨_,rfl,fun val w2 K cY cd hK=>?_⟩
      obtain ⟨v,e,rfl⟩:=cd 9 (by simp [rlP])
      simp only [rlP,bq,e,rlT] at hK ⊢;go_simp
      (with_reducible refine (jF A c zs n x2 _ HS.out.2 (by have:=HS.out.1.below (aF hb cY);exact this.more (aF hb cY).size) HN.out.2.2.1 HN.out.2.2.2).mono ?_)
      rintro e w8 ⟨rfl,pQ⟩;exact hK _ _ (congrArg (sj .i64) HX.out.2.2.2.2.2.1) pQ
     ·refine ⟨_,rfl,fun val w2 K cY cd hK=>?_⟩
      obtain ⟨v,e,rfl⟩:=cd 5 (by simp [rlP])
      obtain ⟨v,e',rfl⟩:=cd 10 (by simp [rlP])
      simp only [rlP,bq,e,e',rlT] at hK ⊢;go_simp;exact hK _ _ rfl (Below.refl _ _)
     ·refine ⟨_,rfl,fun val w2 K cY cd hK=>?_⟩
      obtain ⟨v,e,rfl⟩:=cd 11 (by simp [rlP])
      simp only [rlP,bq,e,rlT] at hK ⊢;go_simp;exact hK _ _ ⟨_,rfl,Bk.made _ _ _⟩ (aB (Below.refl _ _) _)
    obtain ⟨u4,e4,rfl⟩:=bS 4 zS;obtain ⟨u5,e5,rfl⟩:=bS 5 zS;obtain ⟨u9,e9,rfl⟩:=bS 9 zS;obtain ⟨u10,xh,rfl⟩:=bS 10 zS;obtain ⟨u11,Jn,rfl⟩:=bS 11 zS;obtain ⟨u12,e12,ga,rfl,jQ⟩:=bS 12 zS;replace k1:=k1.ay pQ;replace pN:=pN.ay pQ;have NX:=bc bn pQ;have hbw8:=fK.trans (pQ.mono fK.size);simp only [rlT,bq,dC,e4,e5,e9,xh,Jn,e12,gQ,if_true];clear bS e4 e5 e9 xh Jn e12 bn;refine aE (i:=13) (o:=_) zK rfl (fun K hK=>?_)
    rw [if_pos (by rfl)]
    refine eY AY (.tmp 27) (.tmp 39) rfl w2.heap.size (.slice G R.length cg) R.length (cN R) rfl NX (some ⟨ga,0,none⟩) 1 1 _ rfl (pV jQ rfl jQ.lt) (by simp [aD]) zO zO hbw8.size (fun v9 w9 gy de=>?_)
    have hbw9:=bY hbw8 NX de hbw8.size (az _);have wZ:=cI NX de;refine hK.out _ _ (fun _=>⟨k1.dh wZ zD,pN.dh wZ zD⟩) ?_
    clear hK K
    (try simp only [Act.put,aj,ak,al])
    refine wTk 1 [(14,7,v9)] ?_ ⟨k1.dh wZ zD,pN.dh wZ zD⟩ ?_
    ·intro w' hS
     (repeat' (first | exact aC | refine au ⟨_,rfl,.inl ⟨rfl,?_⟩⟩ ?_))
     all_goals exact zG
    simp only [aR,Act.put,aj,ak,al];refine aN zK ?_ _
    go_wp2_with fail
    refine ⟨⟨k+1,dN,by go_num,hbw9,?_⟩,by simp [intOf];omega⟩
    rw [HX.out.2.2.2.2.2.2.2,HX.out.2.2.2.2.2.2.1,HMK.out,if_neg zD];unfold iq;show w9.ownsRow _ _ _ _ (R++[(v1,v2)]).length (cN (R++[(v1,v2)]));rw [ju,cJ];exact gy
  ·obtain rfl:k=L.length:=zO;have g1:decide ((L.length:Int) < L.length)=false:=zS;rw [pL] at bn;obtain ⟨G,cg,rfl⟩:=cj bn
   go_wp2_with fail
   go_ret
   exact ⟨G,cg,rfl,eI bn bz.size,hb⟩
end Go.Proofs.YtikdaeddbkopeaaGreatR.list
namespace Go.Proofs.YtikdaeddbkopeaaGreatR
open Go.RowKit
attribute [local go_sem ↓] aV aW
def JG (w:World) (e:lb) (w':World):Prop:=e=ai (.tuple #[])/\w'=w
theorem ins_any (v f:Value) (n:Nat) (w:World) (hn:n<=1):Calls aw 113 #[v,aa ab 0,aa ab n,f] w (JG w):=by
 have g:decide ((1:Int) < n)=false:=by simp;omega
 have g2:¬ 1 < n:=zO;go_enter Tryz.func113,Tryz.ntmps113
 go_wp2_with fail
 go_loopw [8] (fun v8 wr=>v8=aa ab 1/\wr=w) (fun _ _=>0)
 case atStart=>exact ⟨rfl,rfl⟩
 case round=>
  obtain ⟨rfl,rfl⟩:=hrel
  go_wp2_with fail
  exact bodyPost_end (dY rfl _ _ _) rfl ⟨rfl,rfl⟩
theorem Iy (v f:Value) (n:Nat) (w:World) (hn:n<=1):Calls aw 78 #[v,aa ab n,f] w (JG w):=by
 have g:decide ((20:Int)<=n)=false:=by simp;omega
 have g2:¬ 20<=n:=zO;have g3:decide ((20:Int) < n)=false:=by simp;omega
 have g4:¬ 20 < n:=zO;go_enter Tryz.func78,Tryz.ntmps78
 go_wp2_with fail
 go_loopw [7,8] (fun v7 v8 wr=>v7=aa ab 0/\v8=aa ab 20/\wr=w) (fun _ _ _=>0)
 case atStart=>exact ⟨rfl,rfl,rfl⟩
 case round=>
  obtain ⟨rfl,rfl,rfl⟩:=hrel
  go_wp2_with fail
  (with_reducible refine (ins_any v f n _ hn).mono ?_)
  rintro e w2 ⟨rfl,rfl⟩
  go_wp2_with fail
  go_loopw [6] (fun v6 wr2=>v6=aa ab 20/\wr2=w2) (fun _ _=>0)
  case atStart=>exact ⟨rfl,rfl⟩
  case round=>
   obtain ⟨rfl,rfl⟩:=hrel
   go_wp2_with fail
   exact bodyPost_end (dY rfl _ _ _) rfl ⟨rfl,rfl⟩
theorem Mz (G:Option Addr) (n c:Nat) (f:Value) (w:World) (hn:n<=1):Calls aw 61 #[.slice G n c,f] w (JG w):=by
 go_enter Tryz.func61,Tryz.ntmps61
 go_wp2_with fail
 (with_reducible refine (Iy _ f n _ hn).mono ?_)
 rintro e w2 ⟨rfl,rfl⟩
 go_wp2_with fail
 exact bodyPost_end (dY rfl _ _ _) rfl ⟨rfl,rfl⟩
end Go.Proofs.YtikdaeddbkopeaaGreatR
namespace Go.Proofs.YtikdaeddbkopeaaGreatR.split
open Go.RowKit
attribute [local go_sem ↓] aV aW
def keyed (R:cG):cG:=(R.filter fun r=>r.1 % 2==1).map fun r=>(qY (r.1 % 131072 / 2),r.2)
theorem IY (R:cG) (r:Int × Int):keyed (R++[r])=keyed R++(if r.1 % 2=1 then [(qY (r.1 % 131072 / 2),r.2)] else []):=by
 unfold keyed;rw [List.filter_append,List.map_append]
 by_cases h:r.1 % 2=1 <;> simp [h]
def OZ (R:cG) (w:World) (e:lb) (w':World):Prop:=∃ B d,e=ai (.slice B R.length d)/\iq w' w.heap.size (.slice B R.length d) R/\Below w.heap.size w w'
def xU (K:cG) (w:World) (e:lb) (w':World):Prop:=∃ B d B2 d2,e=ai (.agg #[aa ab 1,.slice B K.length d,.slice B2 K.length d2])/\bd w' w.heap.size (.slice B K.length d) (K.map (·.1))/\bd w' w.heap.size (.slice B2 K.length d2) (K.map (·.2))/\Below w.heap.size w w'
theorem zi (l:Ly) (A:Option Addr) (c n:Nat) (zs:List Int) (R:cG) (fb fw hc:Int) (w:World) (f:dU l) (h:gJ w w.heap.size A zs) (hn:zs.length=n) (hfb:dE l 0 0=fb) (rp:0<=fb/\fb < n) (Cr:zs.getD fb.toNat 0=fw) (hhc:nodeAt l (fw % 65536) 0=hc)
  (kG:∀ w2,Below w.heap.size w w2->Calls aw 59 #[lyV l,.agg #[.slice A n c],aa ab hc] w2 (OZ R w2)) {ka vb:Int} (hK1:keyed R=[(ka,vb)]) (hRl:R.length<=1000):
  Calls aw 38 #[lyV l,.agg #[.slice A n c],aa ab 0] w (xU [(ka,vb)] w):=by
 have k0:=((Bk.made w 34 (lyC l)).alloc (ag #[.slice A n c] 37)).alloc (ag #[aa ab 0,af none 0 0,af none 0 0] 61);have kM:=(Bk.new (w.alloc (ag (lyC l) 34)) (g:=w.heap.size+1) zS 37 #[.slice A n c]).alloc (ag #[aa ab 0,af none 0 0,af none 0 0] 61);have kC:=Bk.new ((w.alloc (ag (lyC l) 34)).alloc (ag #[.slice A n c] 37)) (g:=w.heap.size+1+1) zS 61 #[aa ab 0,af none 0 0,af none 0 0];have bz:=aB (aB (aB (Below.refl w.heap.size w) (ag (lyC l) 34)) (ag #[.slice A n c] 37)) (ag #[aa ab 0,af none 0 0,af none 0 0] 61);have F:=ar f;have HS:=ar (au h hn);have HB:=ar (au hfb (au rp (au Cr hhc)));have HC:=ar kG;have HK:=ar hK1;clear f h hn hfb Cr hhc kG hK1;have HSZ:Hid ((((w.alloc (ag (lyC l) 34)).alloc (ag #[.slice A n c] 37)).alloc (ag #[aa ab 0,af none 0 0,af none 0 0] 61)).heap.size=w.heap.size+1+1+1):=ar zS;go_enter Tryz.func38,Tryz.ntmps38
 go_upto_region 2 with fail
 generalize ((w.alloc (ag (lyC l) 34)).alloc (ag #[.slice A n c] 37)).alloc (ag #[aa ab 0,af none 0 0,af none 0 0] 61)=w1 at *;have nX:w1.heap.size=w.heap.size+1+1+1:=HSZ.out;have kD:=Bk.new w1 nX 61 #[aa ab 1,af none 0 0,af none 0 0];replace k0:=k0.alloc (ag #[aa ab 1,af none 0 0,af none 0 0] 61);replace kM:=kM.alloc (ag #[aa ab 1,af none 0 0,af none 0 0] 61);replace kC:=kC.alloc (ag #[aa ab 1,af none 0 0,af none 0 0] 61);replace bz:=aB bz (ag #[aa ab 1,af none 0 0,af none 0 0] 61);clear nX;generalize w1.alloc (ag #[aa ab 1,af none 0 0,af none 0 0] 61)=w2 at *;obtain ⟨gR,hgR⟩:∃ z,w.heap.size+1+1=z:=⟨_,rfl⟩;have HGR:Hid (w.heap.size+1+1=gR):=ar hgR;rw [hgR] at kC kD ⊢;clear hgR;obtain ⟨gD,hgD⟩:∃ z,gR+1=z:=⟨_,rfl⟩;have HGD:Hid (gR+1=gD):=ar hgD;rw [hgD] at kD ⊢;clear hgD
 go_wp2_with (refine aL rfl 34 (.tmp 3) rfl w.heap.size rfl 34 (lyC l) (0,0) _ k0 aJ rfl zK ?_)
 (with_reducible refine (nP l 0 0 _ F.out).mono ?_)
 rintro e w3 ⟨rfl,hb⟩;rw [HB.out.1];replace k0:=k0.ay hb;replace kM:=kM.ay hb;replace kC:=kC.ay hb;replace kD:=kD.ay hb;replace bz:=aF bz hb;clear hb;have q0:=kM.cell 0;simp at q0;have g1:decide (fb < 0)=false:=by have:=HB.out.2.1;simp;omega
 have g1n:¬ fb < 0:=by have:=HB.out.2.1;omega
 have g2:decide ((n:Int)<=fb)=false:=by have:=HB.out.2.1;simp;omega
 have g2n:¬ (n:Int)<=fb:=by have:=HB.out.2.1;omega
 go_upto_region 6 with fail
 clear q0 g1 g1n g2 g2n;refine aP (S:=fun w'=>Below w3.drew.heap.size w3.drew w') (E:=fun _=>false) zK ?_
 have dD:=aU (Below.refl w3.heap.size w3);replace k0:=k0.ay dD;replace kM:=kM.ay dD;replace kC:=kC.ay dD;replace kD:=kD.ay dD;replace bz:=aF bz dD;clear dD;generalize w3.drew=w4 at *;have hsi:=HS.out.1.below bz;obtain ⟨fbn,hfbn⟩:∃ z:Nat,fb=z:=⟨fb.toNat,by have:=HB.out.2.1;omega⟩
 have hfn:fbn < zs.length:=by have:=HB.out.2.1;have:=HS.out.2;omega
 obtain ⟨bA,oA,hA,hbA,hcA⟩:=hsi zO;have hcf:=hcA fbn fw (by have:=HB.out.2.2.1;rw [hfbn] at this;rw [List.getD_eq_getElem?_getD,Int.toNat_natCast,aO hfn] at this;rw [aO hfn];simpa using this)
 have hbA4:bA < w4.heap.size:=bg hbA bz.size;have HFB:=ar hfbn;have jn:(fbn:Int) < n:=by have:=HS.out.2;omega
 rw [hfbn];have HAA:=ar hA;rw [hA];rw [hA] at kM;clear hsi hcA hfbn;refine wTk 2 [(0,28,lyV l),(2,30,lyV l)] ?_ (Below.refl _ _) ?_
 ·intro w' hS;have fg:(dr 34 ⟨w.heap.size,0,none⟩).run aw w'= .ok (lyV l) w':=be w' w.heap.size 34 34 (lyC l) (0,0) _ (k0.ay hS) aJ rfl zK
  (repeat' (first | exact aC | refine au ⟨_,rfl,.inl ⟨rfl,?_⟩⟩ ?_))
  all_goals exact list.bI rfl rfl fg
 simp only [aR,Act.put,aj,ak,al];refine wTk 7 [(1,29,.agg #[af (some ⟨bA,oA,none⟩) n c]),(3,31,ae (some ⟨w.heap.size+1,0,none⟩)),(4,32,af (some ⟨bA,oA,none⟩) n c),(5,33,aa ab (fbn:Nat)),(6,34,ae (some ⟨bA,oA+fbn,none⟩)),(7,35,aa ab fw),(13,41,aa ab 0)] ?_ (Below.refl _ _) ?_
 ·intro w' hS;have c0:=(kM.ay hS).cell 0;have c1:=(cO hS hbA4).trans hcf;simp at c0
  (repeat' (first | exact aC | refine au ⟨_,rfl,.inl ⟨rfl,?_⟩⟩ ?_))
  all_goals exact zG
 simp only [aR,Act.put,aj,ak,al];refine aE (i:=8) (o:=_) zK rfl (fun K hK=>?_)
 (try simp only [aq,ao,an])
 go_simp
 (with_reducible refine (gV fw _).mono ?_)
 rintro e w5 ⟨rfl,gS⟩;refine hK.out _ _ (fun _=>gS) ?_
 clear hK K
 (try simp only [Act.put,aj,ak,al])
 have hhc:=HB.out.2.2.2;obtain ⟨i1,vu⟩:∃ z,fw % 65536=z:=⟨_,rfl⟩;rw [vu] at hhc ⊢;have hi1b:i1<=65536:=zO;generalize (fw / 65536 % 2==1)=z1;generalize fw / 131072 % 268435456=z2;have A6:∀ w:World,(uP 81 (.agg #[aa ab i1,.bool z1,aa ab z2]) 0).run aw w= .ok (aa ab i1) w:=fun w=>by kernel_rfl
 refine wTk 1 [(9,37,aa ab i1)] ?_ gS ?_
 ·intro w' hS
  (repeat' (first | exact aC | refine au ⟨_,rfl,.inl ⟨rfl,?_⟩⟩ ?_))
  all_goals exact zG
 simp only [aR,Act.put,aj,ak,al];refine aE (i:=10) (o:=_) zK rfl (fun K hK=>?_)
 (try simp only [aq,ao,an])
 go_simp
 (with_reducible refine (dt l i1 0 _ F.out zO).mono ?_)
 rintro e w6 ⟨rfl,fz⟩;rw [hhc];have hb56:=aF gS fz;refine hK.out _ _ (fun _=>hb56) ?_
 clear hK K
 (try simp only [Act.put,aj,ak,al])
 refine aE (i:=11) (o:=_) zK rfl (fun K hK=>?_)
 (try simp only [aq,ao,an])
 go_simp;have jm:=HC.out w6 (aF bz hb56);rw [HAA.out] at jm
 (with_reducible refine jm.mono ?_)
 rintro e w7 ⟨NB,nd,rfl,mT,jc⟩;have yS:=aF hb56 jc;refine hK.out _ _ (fun _=>yS) ?_
 clear hK K jm
 (try simp only [Act.put,aj,ak,al])
 refine wTk 1 [(12,40,aa ab (R.length:Nat))] ?_ yS ?_
 ·intro w' hS
  (repeat' (first | exact aC | refine au ⟨_,rfl,.inl ⟨rfl,?_⟩⟩ ?_))
  all_goals exact zG
 simp only [aR,Act.put,aj,ak,al];refine aN zK ?_ _;replace k0:=k0.ay yS;replace kC:=kC.ay yS;replace kD:=kD.ay yS;replace bz:=aF bz yS;clear gS fz hb56 yS jc kM hcf hhc A6 hi1b jn
 go_wp2_with fail
 go_loopw [9,41] (fun v9 v41 wr=>∃ k:Nat,k<=R.length/\v41=aa ab (k:Nat)/\Below w7.heap.size w7 wr/\iq wr w7.heap.size v9 (keyed (R.take k))) (fun _ v41 _=>R.length - (intOf v41).toNat)
 case atStart=>exact ⟨0,aY _,rfl,Below.refl _ _,cZ _ _ _ _⟩
 case round=>
  obtain ⟨k,hk,rfl,fK,bn⟩:=hrel
  by_cases dN:k < R.length
  ·obtain ⟨r,hr⟩:∃ r,R[k]? =some r:=⟨_,aO dN⟩;obtain ⟨nb,ndc,tL,-,BO⟩:=World.ownsRow.form mT zO;injection tL with tL e1 e2
   clear e1 e2;obtain ⟨p1,p2⟩:=sT R k r hr;have qc:∀ j v,j < 2->(cN R)[k * 2+j]? =some v->wr.cell? ⟨nb,k * 2+j,none⟩=some v:=fun j v hj hv=>by
    rw [fK.cell (p:=⟨nb,k * 2+j,none⟩) BO];subst tL;rw [jj mT (k * 2+j) zO];exact hv
   have c0:=qc 0 _ zO p1;have c1:=qc 1 _ zO p2;rw [Nat.add_zero] at c0;have g1:decide ((k:Int) < R.length)=true:=by simp;omega
   have j1:(k:Int) < R.length:=zO;have oO:R.take (k+1)=R.take k++[r]:=by rw [j7,hr];rfl
   have hkd:=IY (R.take k) r;rw [<- oO] at hkd;obtain ⟨Q,hQ⟩:∃ z,keyed (R.take k)=z:=⟨_,rfl⟩;rw [hQ] at bn hkd;have hQl:Q.length<=1000:=by rw [<- hQ];unfold keyed;rw [List.length_map];exact aQ (List.length_filter_le _ _) (by rw [jM];omega)
   obtain ⟨a,b⟩:=r;have hand:bits .and .i64 a 1=a % 2:=D4 a 1 zO;have HNO:=ar (au mT hkd);have HNB:=ar tL;rw [tL];clear qc p1 p2 mT tL hr oO hkd hQ;dsimp only at c0 c1;obtain ⟨G,cg,rfl⟩:=cj bn
   by_cases ho:a % 2=1
   ·have ho2:(a % 2==1)=true:=by simp;exact ho
    have ho3:decide (a % 2=1)=true:=by simp;exact ho
    go_upto_region 10 with fail
    have kP:=Bk.made wr 52 #[aa ab a,aa ab b];have fq:=aB (Below.refl wr.heap.size wr) (ag #[aa ab a,aa ab b] 52);have dF:∀ z,(Value.slice G Q.length cg).ownBlock=some z->z < wr.heap.size:=fun z hz=>(World.ownsRow.lt bn z hz).2
    replace bn:=bc bn fq;replace fK:=fK.trans (fq.mono fK.size);clear c0 c1 g1 fq;generalize wr.alloc (ag #[aa ab a,aa ab b] 52)=ws at *;obtain ⟨gp,hgp⟩:∃ z,wr.heap.size=z:=⟨_,rfl⟩;rw [hgp] at kP dF ⊢;clear hgp;refine aP (S:=fun w'=>Bk w' gp 52 #[aa ab a,aa ab b]) (E:=fun _=>false) zK ?_
    have dD:=aU (Below.refl ws.heap.size ws);replace kP:=kP.ay dD;replace bn:=bc bn dD;replace fK:=fK.trans (dD.mono fK.size);clear dD;generalize ws.drew=wt at *;refine wTk 5 [(0,49,.slice G Q.length cg),(1,50,ae (some ⟨gp,0,none⟩)),(2,51,aa ab a),(4,53,ae (some ⟨gp,1,none⟩)),(5,54,aa ab b)] ?_ kP ?_
    ·intro w' hS;have c0:=hS.cell 0;have c1:=hS.cell 1;simp at c0 c1
     (repeat' (first | exact aC | refine au ⟨_,rfl,.inl ⟨rfl,?_⟩⟩ ?_))
     all_goals exact zG
    simp only [aR,Act.put,aj,ak,al];refine aE (i:=3) (o:=_) zK rfl (fun K hK=>?_)
    (try simp only [aq,ao,an])
    go_simp
    (with_reducible refine (key_any a _).mono ?_)
    rintro e w8 ⟨rfl,rfl⟩;refine hK.out _ _ (fun _=>kP) ?_
    clear hK K
    (try simp only [Act.put,aj,ak,al])
    obtain ⟨key,hkey⟩:∃ z,qY (a % 131072 / 2)=z:=⟨_,rfl⟩;rw [hkey];have HKEY:=ar hkey;clear hkey;refine wTk 1 [(6,55,.agg #[aa ab key,aa ab b])] ?_ kP ?_
    ·intro w' hS
     (repeat' (first | exact aC | refine au ⟨_,rfl,.inl ⟨rfl,?_⟩⟩ ?_))
     all_goals exact zG
    simp only [aR,Act.put,aj,ak,al];refine aE (i:=7) (o:=_) zK rfl (fun K hK=>?_)
    (try simp only [aq,ao,an])
    go_simp;have kN:=Bk.made wt 52 #[aa ab key,aa ab b];have fq:=aB (Below.refl wt.heap.size wt) (ag #[aa ab key,aa ab b] 52);replace kP:=kP.ay fq;refine hK.out _ _ (fun _=>kP) ?_
    clear hK K;replace bn:=bc bn fq;replace fK:=fK.trans (fq.mono fK.size);clear fq;generalize wt.alloc (ag #[aa ab key,aa ab b] 52)=wu at *;generalize wt.heap.size=gN at *
    (try simp only [Act.put,aj,ak,al])
    obtain ⟨ri,AY⟩:=AK;refine aE (i:=8) (o:=_) zK rfl (fun K hK=>?_)
    (try simp only [aq,ao,an])
    refine eY AY (.tmp 49) (.tmp 56) rfl w7.heap.size (.slice G Q.length cg) Q.length (cN Q) rfl bn (some ⟨gN,0,none⟩) 1 1 _ rfl (pV kN rfl kN.lt) (by simp [aD]) zO zO fK.size (fun v9 wv gy de=>?_)
    have hbw9:=bY fK bn de fK.size (az _);have kP9:Bk wv gp 52 #[aa ab a,aa ab b]:=(de.block gp kP.lt (fun e=>Nat.lt_irrefl _ (dF gp e.symm))).trans kP
    refine hK.out _ _ (fun _=>kP9) ?_
    clear hK K
    (try simp only [Act.put,aj,ak,al])
    refine wTk 1 [(9,9,v9)] ?_ kP9 ?_
    ·intro w' hS
     (repeat' (first | exact aC | refine au ⟨_,rfl,.inl ⟨rfl,?_⟩⟩ ?_))
     all_goals exact zG
    simp only [aR,Act.put,aj,ak,al];refine aN zK ?_ _
    go_wp2_with fail
    refine ⟨⟨k+1,dN,by go_num,hbw9,?_⟩,by simp [intOf];omega⟩
    rw [HNO.out.2,if_pos ho,HKEY.out];unfold iq;show wv.ownsRow _ _ _ _ (Q++[(key,b)]).length (cN (Q++[(key,b)]));rw [ju,cJ];exact gy
   ·have ho2:(a % 2==1)=false:=by simp;exact ho
    have ho3:decide (a % 2=1)=false:=by simp;exact ho
    go_wp2_with fail
    refine ⟨⟨k+1,dN,by go_num,fK.trans ((aB (Below.refl wr.heap.size wr) (ag #[aa ab a,aa ab b] 52)).mono fK.size),?_⟩,by simp [intOf];omega⟩
    rw [HNO.out.2,if_neg ho,List.append_nil];exact World.ownsRow.alloc bn _
  ·obtain rfl:k=R.length:=zO;have g1:decide ((R.length:Int) < R.length)=false:=zS;rw [pL] at bn;obtain ⟨G,cg,rfl⟩:=cj bn;replace kC:=kC.below fK kC.lt;replace kD:=kD.below fK kD.lt;replace bz:=bz.trans (fK.mono bz.size)
   go_wp2_with fail
   rw [HK.out] at bn ⊢;replace bn:wr.ownsRow w7.heap.size 52 2 (.slice G 1 cg) 1 (cN [(ka,vb)]):=bn;rw [show [(ka,vb)].length=1 from rfl]
   (with_reducible refine (Mz G 1 cg _ _ (az 1)).mono ?_)
   rintro e w8 ⟨rfl,rfl⟩;clear mT k0 fK
   go_wp2_with fail
   obtain ⟨nb,ndc,tL,-,BO⟩:=World.ownsRow.form bn (az 1);injection tL with tL e1 e2
   clear e1 e2;subst tL;have p0:w8.cell? ⟨nb,0,none⟩=some (aa ab ka):=jj bn 0 zD;have p1:w8.cell? ⟨nb,1,none⟩=some (aa ab vb):=jj bn 1 zD;clear bn
   go_loopw [63] (fun v63 wq=>(v63=aa ab 0/\wq=w8)\/(v63=aa ab 1/\∃ B d B2 d2,Below w.heap.size w wq/\Bk wq gD 61 #[aa ab 1,.slice B 1 d,.slice B2 1 d2]/\Bk wq gR 61 #[aa ab 0,af none 0 0,af none 0 0]/\bd wq w.heap.size (.slice B 1 d) [ka]/\bd wq w.heap.size (.slice B2 1 d2) [vb])) (fun v63 _=>1 - (intOf v63).toNat)
   case atStart=>exact .inl ⟨rfl,rfl⟩
   case round=>
    rcases hrel with ⟨rfl,rfl⟩ | ⟨rfl,B,d,B2,d2,fK,L1,LZ,ho1,ho2⟩
    ·go_upto_region 16 with fail
     have fq:=aB (Below.refl wr.heap.size wr) (ag #[aa ab ka,aa ab vb] 52);have kP:=Bk.made wr 52 #[aa ab ka,aa ab vb];replace kC:=kC.ay fq;replace kD:=kD.ay fq;replace bz:=aF bz fq;clear fq p0 p1 BO;generalize wr.alloc (ag #[aa ab ka,aa ab vb] 52)=w9 at *;generalize wr.heap.size=gP at *;obtain ⟨i0,pP,jG,mw,mI⟩:=xE jw;have fq:=aB (Below.refl w9.heap.size w9) (ag #[aa ab ka] 3);have c0:=kP.cell 0;have c1:=kP.cell 1;have d1:=kD.cell 1;simp at c0 c1 d1;have lD:=kD.lt;have lP:=kP.lt;have sM:=cZ (w9.alloc (ag #[aa ab ka] 3)) w.heap.size 3 1
     go_upto_region 17 with (at_builtin;go_must (refine cM _ rfl (.tmp 68) (.tmp 71) _ rfl w.heap.size 3 i0 _ 1 8 su pP jG mw mI rfl zO (af none 0 0) 0 [] rfl sM ⟨w9.heap.size,0,none⟩ 1 1 [aa ab ka] rfl rfl (jC _) (by simp [aD]) (by simp only [nu];omega) zO (aF bz fq).size ?_;intro v9 wA gy de _ _;obtain ⟨G1,cc1,rfl⟩:=cj gy;have hkA:=cI sM de;have La:=(kD.ay fq).dh hkA zD;have e1:=La.cell 1;have ef:=La.free 1;have el:=La.lt;simp at e1))
     have hA1:=cy La 1 (.slice G1 (0+1) cc1);have kDB:=La.stored 1 (.slice G1 (0+1) cc1);have kPB:=((kP.ay fq).dh hkA zD).dh hA1 zD;have hneD:gR≠gD:=by have:=HGD.out;omega
     have kRB:=(((kC.ay fq).dh hkA zD).other (p:=⟨gD,1,none⟩) hneD (.slice G1 (0+1) cc1));have hoB:=cz gy hA1 zD;have hgDw:w.heap.size<=gD:=by have:=HGD.out;have:=HGR.out;omega
     have hbB:Below w.heap.size w (wA.setCell ⟨gD,1,none⟩ (.slice G1 (0+1) cc1)):=bK (bY (aF bz fq) sM de (aF bz fq).size (az _)) hgDw _;clear hA1 La gy de sM e1 ef el hkA c0 c1 d1 lD lP kP kC kD fq bz;generalize wA.setCell ⟨gD,1,none⟩ (.slice G1 (0+1) cc1)=wB at *;have kDB':Bk wB gD 61 #[aa ab 1,.slice G1 1 cc1,af none 0 0]:=kDB;have fq:=aB (Below.refl wB.heap.size wB) (ag #[aa ab vb] 3);have c1:=kPB.cell 1;have d2:=kDB'.cell 2;simp at c1 d2;have lD:=kDB'.lt;have lP:=kPB.lt;have sM:=cZ (wB.alloc (ag #[aa ab vb] 3)) w.heap.size 3 1;have HO:=ar hoB
     go_upto_region 18 with (at_builtin;go_must (refine cM _ rfl (.tmp 75) (.tmp 78) _ rfl w.heap.size 3 i0 _ 1 8 su pP jG mw mI rfl zO (af none 0 0) 0 [] rfl sM ⟨wB.heap.size,0,none⟩ 1 1 [aa ab vb] rfl rfl (jC _) (by simp [aD]) (by simp only [nu];omega) zO (aF hbB fq).size ?_;intro v9 wC gy de _ _;obtain ⟨G2,cc2,rfl⟩:=cj gy;have hkA:=cI sM de;have La:=(kDB'.ay fq).dh hkA zD;have e1:=La.cell 2;have ef:=La.free 2;have el:=La.lt;simp at e1))
     have hA1:=cy La 2 (.slice G2 (0+1) cc2);have kDC:=La.stored 2 (.slice G2 (0+1) cc2);have kRC:=(((kRB.ay fq).dh hkA zD).other (p:=⟨gD,2,none⟩) hneD (.slice G2 (0+1) cc2));have hoC:=cz gy hA1 zD;have hoK:=World.ownsRow.kept (bc HO.out fq) de (by cases G1 <;> simp [Value.ownBlock])
     have hoD:=cz hoK hA1 zD;have hbC:Below w.heap.size w (wC.setCell ⟨gD,2,none⟩ (.slice G2 (0+1) cc2)):=bK (bY (aF hbB fq) sM de (aF hbB fq).size (az _)) hgDw _;clear hA1 La gy de sM e1 ef el hkA c1 d2 lD lP;generalize wC.setCell ⟨gD,2,none⟩ (.slice G2 (0+1) cc2)=wE at *
     go_wp2_with fail
     exact ⟨.inr ⟨rfl,G1,cc1,G2,cc2,hbC,kDC,kRC,hoD,hoC⟩,by simp [intOf]⟩
    ·have dd0:=L1.cell 0;have dd1:=L1.cell 1;have dd2:=L1.cell 2;have r0:=LZ.cell 0;have r1:=LZ.cell 1;have r2:=LZ.cell 2;have rf0:=LZ.free 0;have rf1:=LZ.free 1;have rf2:=LZ.free 2;have lR:=LZ.lt;simp at dd0 dd1 dd2 r0 r1 r2;have HE:=ar (au fK (au LZ (au ho1 ho2)));clear fK LZ ho1 ho2
     go_wp2_with fail
     obtain ⟨fK,LZ,ho1,ho2⟩:=HE.out;have t1:=cy LZ 0 (aa ab 1);have NI:=LZ.stored 0 (aa ab 1);have t2:=cy NI 1 (.slice B 1 d);have xv:=NI.stored 1 (.slice B 1 d);have t3:=cy xv 2 (.slice B2 1 d2);have kC3:=xv.stored 2 (.slice B2 1 d2);have hgRw:w.heap.size<=gR:=by have:=HGR.out;omega
     refine aX (v:=.agg #[aa ab 1,.slice B 1 d,.slice B2 1 d2]) (cb rfl _ _ gR 61 #[aa ab 1,.slice B 1 d,.slice B2 1 d2] (0,0) _ rfl kC3 Tryz.underlying61 rfl zK) rfl ⟨B,d,B2,d2,rfl,cz ho1 ((t1.trans t2).trans t3) zD,cz ho2 ((t1.trans t2).trans t3) zD,bK (bK (bK fK hgRw _) hgRw _) hgRw _⟩
end Go.Proofs.YtikdaeddbkopeaaGreatR.split
namespace Go.Proofs.YtikdaeddbkopeaaGreatR
open Go.RowKit
attribute [local go_sem ↓] aV aW
theorem zi (l:Ly) (A:Option Addr) (c n:Nat) (ka vb:Int) (w:World) (kG:∀ w2,Below w.heap.size w w2->Calls aw 38 #[lyV l,.agg #[.slice A n c],aa ab 0] w2 (split.xU [(ka,vb)] w2)):
  Calls aw 17 #[lyV l,.agg #[.slice A n c],aa ab 1,aa ab 0] w (split.xU [(ka,vb)] w):=by
 have k0:=((Bk.made w 34 (lyC l)).alloc (ag #[.slice A n c] 37)).alloc (ag #[aa ab 0,af none 0 0,af none 0 0] 61);have kM:=(Bk.new (w.alloc (ag (lyC l) 34)) (g:=w.heap.size+1) zS 37 #[.slice A n c]).alloc (ag #[aa ab 0,af none 0 0,af none 0 0] 61);have kC:=Bk.new ((w.alloc (ag (lyC l) 34)).alloc (ag #[.slice A n c] 37)) (g:=w.heap.size+1+1) zS 61 #[aa ab 0,af none 0 0,af none 0 0];have bz:=aB (aB (aB (Below.refl w.heap.size w) (ag (lyC l) 34)) (ag #[.slice A n c] 37)) (ag #[aa ab 0,af none 0 0,af none 0 0] 61);go_enter Tryz.func17,Tryz.ntmps17
 go_wp2_with (first | (refine aL rfl 34 (.tmp 4) rfl w.heap.size rfl 34 (lyC l) (0,0) _ k0 aJ rfl zK ?_) | (refine aL rfl 37 (.tmp 5) rfl (w.heap.size+1) rfl 37 #[.slice A n c] (0,0) _ kM Tryz.underlying37 rfl zK ?_))
 generalize ((w.alloc (ag (lyC l) 34)).alloc (ag #[.slice A n c] 37)).alloc (ag #[aa ab 0,af none 0 0,af none 0 0] 61)=w1 at *
 (with_reducible refine (kG _ bz).mono ?_)
 rintro e w2 ⟨B,d,B2,d2,rfl,bn,cP,hb⟩;replace kC:=kC.ay hb;have cY:=aF bz hb;have z1:w.heap.size<=w1.heap.size:=bz.size;have c0:=kC.cell 0;have c1:=kC.cell 1;have c2:=kC.cell 2;have f0:=kC.free 0;have f1:=kC.free 1;have f2:=kC.free 2;have lC:=kC.lt;simp at c0 c1 c2;have HF:=ar (au bn (au cY (au z1 (au kC cP))));clear bn hb bz z1 k0 kM kC kG cY cP
 go_wp2_with fail
 obtain ⟨bn,cY,z1,kC,cP⟩:=HF.out;have t1:=cy kC 0 (aa ab 1);have NI:=kC.stored 0 (aa ab 1);have t2:=cy NI 1 (.slice B 1 d);have xv:=NI.stored 1 (.slice B 1 d);have t3:=cy xv 2 (.slice B2 1 d2);have kC3:=xv.stored 2 (.slice B2 1 d2);refine aX (v:=.agg #[aa ab 1,.slice B 1 d,.slice B2 1 d2]) (cb rfl _ _ (w.heap.size+1+1) 61 #[aa ab 1,.slice B 1 d,.slice B2 1 d2] (0,0) _ rfl kC3 Tryz.underlying61 rfl zK) rfl ⟨B,d,B2,d2,rfl,eI (cz bn ((t1.trans t2).trans t3) zD) z1,eI (cz cP ((t1.trans t2).trans t3) zD) z1,bK (bK (bK cY zP _) zP _) zP _⟩
end Go.Proofs.YtikdaeddbkopeaaGreatR
namespace Go.Proofs.YtikdaeddbkopeaaGreatR
open Go.RowKit
theorem DF:dU (lyW 2):=vo _ (Ox zD zD)
theorem nd2 (m:List Int) (hm:m.length=360):∀ a i,1<=a/\a<=(lyW 2).c.nodes->0<=i/\i < 8->0<=nodeAt (lyW 2) a i/\nodeAt (lyW 2) a i < (360:Nat):=by
 intro a i ha hi;have hb:a<=40:=ha.2;rw [yB zD zD ⟨ha.1,hb⟩ hi];omega
theorem len2:tA2.m.length=360:=by decide+kernel
theorem Db:tA3.m.length=360:=by decide+kernel
theorem al_s2 (A:Option Addr) (c:Nat) (w:World) (h:gJ w w.heap.size A tA2.m):Calls aw 17 #[lyV (lyW 2),.agg #[.slice A 360 c],aa ab 2,aa ab 0] w (rM 2 [3] w):=by
 refine zh (lyW 2) 0 A c 360 [3] w (fun w2 hb=>?_)
 have k:=stack.rR (lyW 2) 0 A c 360 tA2.m [5] w2 DF ((h.below hb).more hb.size) len2 zD (by decide+kernel) (nd2 _ len2) (by decide+kernel) ⟨by decide+kernel,trivial⟩ zD zD zD
 rw [show stack.mo (lyW 2) tA2.m [5]=[3] by decide+kernel] at k
 exact k
theorem al_s3 (A:Option Addr) (c:Nat) (w:World) (h:gJ w w.heap.size A tA3.m):Calls aw 17 #[lyV (lyW 2),.agg #[.slice A 360 c],aa ab 2,aa ab 0] w (rM 2 [8,3] w):=by
 refine zh (lyW 2) 0 A c 360 [8,3] w (fun w2 hb=>?_)
 have k:=stack.rR (lyW 2) 0 A c 360 tA3.m [3,5] w2 DF ((h.below hb).more hb.size) Db zD (by decide+kernel) (nd2 _ Db) (by decide+kernel) ⟨by decide+kernel,by decide+kernel,trivial⟩ zD zD zD
 rw [show stack.mo (lyW 2) tA3.m [3,5]=[8,3] by decide+kernel] at k
 exact k
theorem al_c3 (A:Option Addr) (c:Nat) (w:World) (h:gJ w w.heap.size A tA3.m):Calls aw 17 #[lyV (lyW 2),.agg #[.slice A 360 c],aa ab 3,aa ab 0] w (rM 3 [4] w):=by
 refine Lu (lyW 2) 0 A c 360 [4] w (fun w2 hb=>?_)
 have k:=segment.rR (lyW 2) 0 A c 360 tA3.m [2] w2 DF ((h.below hb).more hb.size) Db zD (by decide+kernel) (nd2 _ Db) (by decide+kernel) ⟨by decide+kernel,trivial⟩ zD zD zD (by
  intro a ha i hi;have:a=2:=by simpa using ha
  subst this;have:i=0\/i=1\/i=2\/i=3\/i=4:=zO;rcases this with rfl | rfl | rfl | rfl | rfl <;> decide+kernel)
 rw [show segment.mo (lyW 2) tA3.m [2]=[4] by decide+kernel] at k
 exact k
theorem al_m3 (A:Option Addr) (c:Nat) (w:World) (h:gJ w w.heap.size A tA3.m):Calls aw 17 #[lyV (lyW 2),.agg #[.slice A 360 c],aa ab 1,aa ab 0] w (split.xU [(5,9)] w):=by
 refine zi (lyW 2) A c 360 5 9 w (fun w2 hb=>?_)
 have h2:=(h.below hb).more hb.size;refine split.zi (lyW 2) A c 360 tA3.m (list.mo (lyW 2) tA3.m [4]) (dE (lyW 2) 0 0) (tA3.m.getD (dE (lyW 2) 0 0).toNat 0) (nodeAt (lyW 2) 1 0) w2 DF h2 Db rfl (by decide+kernel) rfl (by decide+kernel) (fun w3 jg=>?_) (by decide+kernel) (by decide+kernel)
 exact list.rR (lyW 2) (nodeAt (lyW 2) 1 0) A c 360 tA3.m [4] w3 DF ((h2.below jg).more jg.size) Db zD (by decide+kernel) (nd2 _ Db) (by decide+kernel) ⟨by decide+kernel,trivial⟩ zD zD zD
end Go.Proofs.YtikdaeddbkopeaaGreatR
namespace Go.Proofs.YtikdaeddbkopeaaGreatR
open Go.RowKit
attribute [local go_sem ↓] aV aW
def opB (op:Opr):Bool:=decide (1<=op.kind/\op.kind<=7/\op.obj=0/\0<=op.a/\op.a < 65536/\0<=op.b/\op.b < 4294967296)
def KV (ops:List Opr):Bool:=decide (ops.length<=3)&&ops.all opB
def ry (want:List (List Opr)) (m:Nat):Bool:=decide (1<=want.length/\want.length<=3/\m<=200)&&want.all KV
theorem xQ {want:List (List Opr)} {m:Nat} (h:ry want m=true):1<=want.length/\want.length<=3/\m<=200/\∀ ops∈want,ops.length<=3/\∀ op∈ops,zH op:=by
 unfold ry at h;simp only [dq,decide_eq_true_eq,dM] at h;refine ⟨h.1.1,h.1.2.1,h.1.2.2,fun ops ho=>?_⟩
 have h2:=h.2 ops ho;unfold KV at h2;simp only [dq,decide_eq_true_eq,dM] at h2;refine ⟨h2.1,fun op gk=>?_⟩
 have h3:=h2.2 op gk;unfold opB at h3;simp only [decide_eq_true_eq] at h3;exact ⟨⟨h3.1,h3.2.1⟩,h3.2.2.1,⟨h3.2.2.2.1,h3.2.2.2.2.1⟩,⟨h3.2.2.2.2.2.1,h3.2.2.2.2.2.2⟩⟩
theorem qh {α:Type} {f:α->Bool} {l:List α} {k:Nat} {a:α} (h:l[k]? =some a) (hf:f a=false):l.all f=false:=by
 rw [List.all_eq_false];exact ⟨a,bX h,by rw [hf];decide⟩
theorem xi {α:Type} {f:α->Bool} {l:List α} (h:∀ (i:Nat) (a:α),l[i]? =some a->f a=true):l.all f=true:=by
 rw [dM];intro a ha;obtain ⟨i,hi⟩:=List.getElem?_of_mem ha;exact h i a hi
theorem CA (A T:Option Addr) (n cw m d s0 s1 s2:Nat) (want:List (List Opr)) (w:World) (hn:want.length=n) (hW:mB w w.heap.size A want):Calls aw 6 #[.agg (cK A n cw T m d s0 s1 s2)] w (kW (ry want m) w):=by
 have k0:=Bk.made w 26 (cK A n cw T m d s0 s1 s2);have mx:=aB (Below.refl w.heap.size w) (ag (cK A n cw T m d s0 s1 s2) 26);have q0:(w.alloc (ag (cK A n cw T m d s0 s1 s2) 26)).cell? ⟨w.heap.size,0,none⟩=some (.slice A n cw):=by rw [k0.cell];rfl
 have q1:(w.alloc (ag (cK A n cw T m d s0 s1 s2) 26)).cell? ⟨w.heap.size,1,none⟩=some (.slice T m d):=by rw [k0.cell];rfl
 go_enter Tryz.func6,Tryz.ntmps6
 by_cases c1:n < 1
 ·obtain rfl:n=0:=zO
  go_wp2_with fail
  go_ret
  refine ⟨?_,mx⟩;have e:ry want m=false:=by unfold ry;rw [decide_eq_false zO];rfl
  rw [e];rfl
 ·have g1:decide ((n:Int) < 1)=false:=by simp;omega
  have n1:¬ n=0:=zO
  by_cases c2:3 < n
  ·have g2:decide ((3:Int) < n)=true:=by simp;omega
   go_wp2_with fail
   go_ret
   refine ⟨?_,mx⟩;have e:ry want m=false:=by unfold ry;rw [decide_eq_false zO];rfl
   rw [e];rfl
  ·have g2:decide ((3:Int) < n)=false:=by simp;omega
   by_cases c3:200 < m
   ·have g3:decide ((200:Int) < m)=true:=by simp;omega
    go_wp2_with fail
    go_ret
    refine ⟨?_,mx⟩;have e:ry want m=false:=by unfold ry;rw [decide_eq_false zO];rfl
    rw [e];rfl
   ·have g3:decide ((200:Int) < m)=false:=by simp;omega
    obtain ⟨bw,ow,rfl,fK,hwc⟩:=hW zO
    go_wp2_with fail
    clear q0 q1 g1 g2 g3;generalize w.alloc (ag (cK (some ⟨bw,ow,none⟩) n cw T m d s0 s1 s2) 26)=w1 at *
    go_loopw [3] (fun v3 wr=>∃ j:Nat,j<=n/\v3=aa ab (j:Nat)/\Below w1.heap.size w1 wr/\∀ i ops,i < j->want[i]? =some ops->KV ops=true) (fun v3 _=>n - (intOf v3).toNat)
    case atStart=>exact ⟨0,aY _,rfl,Below.refl _ _,fun i ops h=>by omega⟩
    case round=>
     obtain ⟨j,hj,rfl,hb,bS⟩:=hrel;have kP:=k0.ay hb;have q0:=kP.cell 0;simp at q0;have HALL:=ar bS;clear bS
     by_cases dN:j < n
     ·have g1:decide ((j:Int) < n)=true:=by simp;omega
      have j1:(j:Int) < n:=zO;obtain ⟨ops,yN⟩:∃ o,want[j]? =some o:=⟨_,aO zO⟩;obtain ⟨A',c',DK,hso⟩:=hwc j ops yN;have hbwr:bw < w.heap.size:=fK;have cw2:=(cO hb (bg fK mx.size)).trans ((cO mx fK).trans DK)
      by_cases c4:3 < ops.length
      ·have g4:decide ((3:Int) < ops.length)=true:=by simp;omega
       have hf:ry want m=false:=by
        unfold ry;rw [qh yN (by unfold KV;rw [decide_eq_false zO];rfl),Bool.and_false]
       go_wp2_with fail
       go_ret
       refine ⟨?_,aF mx hb⟩;rw [hf];rfl
      ·have g4:decide ((3:Int) < ops.length)=false:=by simp;omega
       go_wp2_with fail
       have HJ:=ar (au yN hso);clear q0 cw2 g4 yN hso;generalize wr=wo at *
       go_loopw [4] (fun v4 wr=>∃ k:Nat,k<=ops.length/\v4=aa ab (k:Nat)/\Below wo.heap.size wo wr/\∀ i op,i < k->ops[i]? =some op->opB op=true) (fun v4 _=>ops.length - (intOf v4).toNat)
       case atStart=>exact ⟨0,aY _,rfl,Below.refl _ _,fun i op h=>by omega⟩
       case round=>
        obtain ⟨k,hk,rfl,cY,hall2⟩:=hrel;have kQ:=kP.ay cY;have q0:=kQ.cell 0;simp at q0;have HALL2:=ar hall2;clear hall2;have Lk:=aF (aF mx hb) cY;have cw2:=(cO Lk fK).trans DK
        by_cases tJ:k < ops.length
        ·have g5:decide ((k:Int) < ops.length)=true:=by simp;omega
         have j2:(k:Int) < ops.length:=zO;obtain ⟨op,gk⟩:∃ o,ops[k]? =some o:=⟨_,aO tJ⟩;obtain ⟨bo,oo,rfl,p9,A0⟩:=HJ.out.2 zO;obtain ⟨d0,d1,d2,d3⟩:=A0 k op gk;replace d0:=(cO Lk p9).trans d0;replace d1:=(cO Lk p9).trans d1;replace d2:=(cO Lk p9).trans d2;replace d3:=(cO Lk p9).trans d3;have fq:=aB Lk (ag #[aa ab op.kind,aa ab op.obj,aa ab op.a,aa ab op.b] 54);have hba2:=aB (Below.refl wr.heap.size wr) (ag #[aa ab op.kind,aa ab op.obj,aa ab op.a,aa ab op.b] 54);have hff:opB op=false->ry want m=false:=fun e=>by
          unfold ry;rw [qh HJ.out.1 (by unfold KV;rw [qh gk e,Bool.and_false]),Bool.and_false]
         have HFF:=ar hff;have HOP:=ar gk;clear hff gk A0
         by_cases p0:op.kind < 1
         ·have e0:decide (op.kind < 1)=true:=by simp;omega
          go_wp2_with fail
          go_ret
          refine ⟨?_,fq⟩;rw [HFF.out (by unfold opB;exact decide_eq_false zO)];rfl
         ·have e0:decide (op.kind < 1)=false:=by simp;omega
          by_cases p1:7 < op.kind
          ·have e1:decide (7 < op.kind)=true:=by simp;omega
           go_wp2_with fail
           go_ret
           refine ⟨?_,fq⟩;rw [HFF.out (by unfold opB;exact decide_eq_false zO)];rfl
          ·have e1:decide (7 < op.kind)=false:=by simp;omega
           by_cases p2:op.obj≠0
           ·have e2:(op.obj==(0:Int))=false:=by simp;omega
            have e2b:decide (op.obj=(0:Int))=false:=by simp;omega
            have e2c:(op.obj != (0:Int))=true:=by simp;omega
            go_wp2_with fail
            go_ret
            refine ⟨?_,fq⟩;rw [HFF.out (by unfold opB;exact decide_eq_false zO)];rfl
           ·have e2:(op.obj==(0:Int))=true:=by simp;omega
            have e2b:decide (op.obj=(0:Int))=true:=by simp;omega
            have e2c:(op.obj != (0:Int))=false:=by simp;omega
            by_cases p3:op.a < 0
            ·have e3:decide (op.a < 0)=true:=by simp;omega
             go_wp2_with fail
             go_ret
             refine ⟨?_,fq⟩;rw [HFF.out (by unfold opB;exact decide_eq_false zO)];rfl
            ·have e3:decide (op.a < 0)=false:=by simp;omega
             by_cases p4:65536<=op.a
             ·have e4:decide (65536<=op.a)=true:=by simp;omega
              go_wp2_with fail
              go_ret
              refine ⟨?_,fq⟩;rw [HFF.out (by unfold opB;exact decide_eq_false zO)];rfl
             ·have e4:decide (65536<=op.a)=false:=by simp;omega
              by_cases p5:op.b < 0
              ·have e5:decide (op.b < 0)=true:=by simp;omega
               go_wp2_with fail
               go_ret
               refine ⟨?_,fq⟩;rw [HFF.out (by unfold opB;exact decide_eq_false zO)];rfl
              ·have e5:decide (op.b < 0)=false:=by simp;omega
               by_cases p6:4294967296<=op.b
               ·have e6:decide (4294967296<=op.b)=true:=by simp;omega
                go_wp2_with fail
                go_ret
                refine ⟨?_,fq⟩;rw [HFF.out (by unfold opB;exact decide_eq_false zO)];rfl
               ·have e6:decide (4294967296<=op.b)=false:=by simp;omega
                go_wp2_with fail
                refine ⟨⟨k+1,zO,by go_num,aF cY hba2,fun i op' hi hio=>?_⟩,by simp [intOf];omega⟩
                by_cases e:i=k
                ·subst e;have:=HOP.out;rw [hio] at this;injection this with this;subst this
                 unfold opB;exact decide_eq_true zO
                ·exact HALL2.out i op' zO hio
        ·have g5:decide ((k:Int) < ops.length)=false:=by simp;omega
         go_wp2_with fail
         refine ⟨⟨j+1,zO,by go_num,aF hb cY,fun i xr hi hio=>?_⟩,by simp [intOf];omega⟩
         by_cases e:i=j
         ·subst e;have:=HJ.out.1;rw [hio] at this;injection this with this;subst this
          unfold KV;rw [decide_eq_true zO,xi (fun i a h=>HALL2.out i a (by have:=(a8.1 h).1;omega) h)];rfl
         ·exact HALL.out i xr zO hio
     ·have g1:decide ((j:Int) < n)=false:=by simp;omega
      have hf:ry want m=true:=by
       unfold ry;rw [decide_eq_true zO,xi (fun i a h=>HALL.out i a (by have:=(a8.1 h).1;omega) h)];rfl
      go_wp2_with fail
      go_ret
      refine ⟨?_,aF mx hb⟩;rw [hf];rfl
def IntsRel (w:World) (xs ys:List Int) (i:Value) (wr:World):Prop:=
 ∃ k:Nat,k<=xs.length/\i=aa ab k/\Below w.heap.size w wr/\xs.take k=ys.take k
theorem NK (A A':Option Addr) (c c':Nat) (xs ys:List Int) (w:World) (h:gJ w w.heap.size A xs) (h':gJ w w.heap.size A' ys) (hm:xs.length<=1000000) (hm':ys.length<=1000000):
  Calls aw 18 #[.slice A xs.length c,.slice A' ys.length c'] w (kW (decide (xs=ys)) w):=by
 by_cases hl:xs.length=ys.length
 ·have hn:((xs.length:Int) != ys.length)=false:=by simp [hl]
  have HL:=ar hl;clear hl;go_enter Tryz.func18,Tryz.ntmps18
  go_wp2
  go_loopw [5] (fun i wr=>IntsRel w xs ys i wr) (fun i _=>xs.length - (intOf i).toNat)
  case atStart=>exact ⟨0,aY _,rfl,Below.refl _ _,zS⟩
  case round=>
   obtain ⟨k,hk,rfl,fK,ht⟩:=hrel
   by_cases dN:k < xs.length
   ·have hlt':k < ys.length:=by rw [<- HL.out];exact dN
    obtain ⟨b,o,hA,bz,hcc⟩:=(h.below fK) zO;obtain ⟨b',o',hA',oQ,hcc'⟩:=(h'.below fK) zO;obtain ⟨x,hx⟩:∃ x,xs[k]? =some x:=⟨_,aO dN⟩;obtain ⟨y,hy⟩:∃ y,ys[k]? =some y:=⟨_,aO hlt'⟩;have g1:=hcc k _ hx;have g3:=hcc' k _ hy;subst hA hA';have i1:(k:Int) < xs.length:=zO;have i2:(k:Int) < ys.length:=zO;have HB:=ar fK;have HT:=ar (au ht (au hx hy));have HS:=ar (au h h');clear fK ht hx hy h h' hcc hcc'
    by_cases hxy:x=y
    ·have hq:(x != y)=false:=by simp [hxy]
     have HQ:=ar hxy;clear hxy
     go_wp2_with fail
     go_quiet (fail)
     go_wp2
     go_roundw
     case rel=>
      obtain ⟨h1,h2,h3⟩:=HT.out;refine ⟨k+1,zO,by go_num,DY (HB.out) _,?_⟩
      rw [j7,j7,h1,h2,h3,HQ.out]
     case measure=>simp [intOf];omega
    ·have hq:(x != y)=true:=by simp [hxy]
     have hf:decide (xs=ys)=false:=by
      obtain ⟨_,h2,h3⟩:=HT.out;simp;rintro rfl;rw [h2] at h3;injection h3 with h3
      exact hxy h3
     have HF:=ar hf;clear hf hxy
     go_wp2_with fail
     go_quiet (fail)
     go_wp2
     go_ret
     rw [HF.out];exact ⟨rfl,DY (HB.out) _⟩
   ·obtain rfl:k=xs.length:=zO;have hf:decide (xs=ys)=true:=by
     have e:=HL.out;rw [pL,e,pL] at ht;simp [ht]
    have HF:=ar hf;have HT:=ar ht;clear hf ht
    go_wp2
    go_ret
    rw [HF.out];exact ⟨rfl,fK⟩
 ·have hn:((xs.length:Int) != ys.length)=true:=by simp;omega
  have hf:decide (xs=ys)=false:=by
   simp;rintro rfl;exact hl rfl
  have HF:=ar hf;clear hf hl;go_enter Tryz.func18,Tryz.ntmps18
  go_wp2
  go_ret
  rw [HF.out];exact ⟨rfl,Below.refl _ _⟩
def Mj:List Nat:=[1,1,1,1,1,1,1,1]
abbrev vX:Array Value:=#[aa ab 2,aa ab 0,aa ab 5,aa ab 9,aa ab 4,aa ab 0,aa ab 3,aa ab 0,aa ab 6,aa ab 0,aa ab 4,aa ab 0]
abbrev vW:Array Value:=#[aa ab 4,aa ab 0,aa ab 8,aa ab 0]
abbrev u8A:Array Value:=#[.int .u8 1,.int .u8 1,.int .u8 1,.int .u8 1,.int .u8 1,.int .u8 1,.int .u8 1,.int .u8 1]
theorem JB {w:World} {g0 g1 g2 g3:Nat} (b0:Bk w g0 54 vX) (b1:Bk w g1 54 vW) (b2:Bk w g2 47 #[af (some ⟨g0,0,none⟩) 3 3,af (some ⟨g1,0,none⟩) 1 1]) (b3:Bk w g3 5 u8A):rJ w w.heap.size sR Mj 2 (some ⟨g2,0,none⟩) (some ⟨g3,0,none⟩) 8 255 6 0:=by
 refine ⟨fun _=>⟨g2,0,rfl,b2.lt,?_⟩,fun _=>⟨g3,0,rfl,b3.lt,?_⟩,rfl,rfl,zD,zD,zD,(xQ (want:=sR) (m:=8) (by decide+kernel)).2.2.2,zD⟩
 ·intro k ops hk;rcases k with _ | _ | k
  ·injection hk with hk
   subst hk;refine ⟨some ⟨g0,0,none⟩,3,by rw [b2.cell];rfl,fun _=>⟨g0,0,rfl,b0.lt,?_⟩⟩
   intro k op hk;rcases k with _ | _ | _ | k <;> first | (injection hk with hk;subst hk;exact ⟨by rw [b0.cell];rfl,by rw [b0.cell];rfl,by rw [b0.cell];rfl,by rw [b0.cell];rfl⟩) | cases hk
  ·injection hk with hk
   subst hk;refine ⟨some ⟨g1,0,none⟩,1,by rw [b2.cell];rfl,fun _=>⟨g1,0,rfl,b1.lt,?_⟩⟩
   intro k op hk;rcases k with _ | k <;> first | (injection hk with hk;subst hk;exact ⟨by rw [b1.cell];rfl,by rw [b1.cell];rfl,by rw [b1.cell];rfl,by rw [b1.cell];rfl⟩) | cases hk
  ·cases hk
 ·intro k t hk;have:k < 8:=(a8.1 hk).1;rcases k with _ | _ | _ | _ | _ | _ | _ | _ | k <;> first | (injection hk with hk;subst hk;exact ⟨by rw [b3.cell];rfl,zD⟩) | omega
theorem wbA1:WB 2 sR 8 tA1:=by
 obtain ⟨a,b,c⟩:=tX (want:=sR) (S:=2) rfl zD zD (xQ (want:=sR) (m:=8) (by decide+kernel)).2.2.2 ye Mj zD
 exact ⟨a,b,c⟩
theorem wbA2:WB 2 sR 18017 tA2:=by
 obtain ⟨a,b,-⟩:=WE.rest (S:=2) (want:=sR) (t:=tA1) (stops:=ye) (all:=false) rfl zD wbA1.we (aQ (Nat.add_le_add_right wbA1.ev 18009) zD);exact ⟨a,aQ b (Nat.add_le_add_right wbA1.ev 18009),by rw [Ay];decide⟩
theorem xT {w:World} {A:Option Addr} {c n g:Nat} {zs:List Int} {cs:Array Value} (hn:zs.length=n) (h:gJ w w.heap.size A zs) (k:Bk w g 3 cs) (hc:cs=(zs.map (sj .i64)).toArray) (hl:zs.length<=1000000:=by decide):Calls aw 18 #[.slice A n c,af (some ⟨g,0,none⟩) n n] w (kW true w):=by
 subst hn;subst hc;have:=NK A (some ⟨g,0,none⟩) c zs.length zs zs w h (.of_bk k) hl hl;rw [decide_eq_true rfl] at this;exact this
def alT (c a:Nat):Nat->Nat | 8=>c | _=>a
def alR (L:List Int) (base:Nat) (i:Nat) (val:Nat->Option Value) (v:Value) (w:World):Prop:=match i with
 | 8=>∃ B d,v= .agg #[aa ab 2,af none 0 0,.slice B L.length d]/\bd w base (.slice B L.length d) L
 | _=>∃ g,v=ae (some ⟨g,0,none⟩)/\base<=g/\Bk w g 61 #[aa ab 0,af none 0 0,af none 0 0]
theorem D5 (L:List Int) (base:Nat) (i:Nat) (val dV:Nat->Option Value) (v:Value) (w1 w2:World) (_:∀ j u,val j=some u->dV j=some u) (hb:Below w1.heap.size w1 w2) (h:alR L base i val v w1):alR L base i dV v w2:=by
 unfold alR at h ⊢;split at h
 ·obtain ⟨B,d,e,ho⟩:=h;exact ⟨B,d,e,bc ho hb⟩
 ·obtain ⟨g,e,hg,k⟩:=h;exact ⟨g,e,hg,k.ay hb⟩
def alU (c a:Nat) (i:Nat):Nat:=a+(i - c)
def alZ (c:Nat) (i:Nat):List Nat:=if i=c+1 then [c] else []
def alQ (c:Nat) (p:Value->World->Prop) (z:Int) (i:Nat) (_:Nat->Option Value) (v:Value) (w:World):Prop:=if i=c then p v w else if i=c+1 then ∃ B d,v= .slice B 1 d/\bd w 0 (.slice B [z].length d) [z] else ∃ g,v=af (some ⟨g,0,none⟩) 1 1/\Bk w g 3 #[aa ab z]
theorem D6 {c:Nat} {p:Value->World->Prop} {z:Int} (hp:∀ v w1 w2,Below w1.heap.size w1 w2->p v w1->p v w2) (i:Nat) (val dV:Nat->Option Value) (v:Value) (w1 w2:World) (_:∀ j u,val j=some u->dV j=some u) (hb:Below w1.heap.size w1 w2) (h:alQ c p z i val v w1):alQ c p z i dV v w2:=by
 unfold alQ at h ⊢
 by_cases hi:i=c
 ·rw [if_pos hi] at h ⊢;exact hp v w1 w2 hb h
 ·rw [if_neg hi] at h ⊢
  by_cases hj:i=c+1
  ·rw [if_pos hj] at h ⊢;obtain ⟨B,d,e,ho⟩:=h;exact ⟨B,d,e,bc ho hb⟩
  ·rw [if_neg hj] at h ⊢;obtain ⟨g,e,k⟩:=h;exact ⟨g,e,k.ay hb⟩
def alP4 (v:Value) (w:World):Prop:=∃ B d,v= .agg #[aa ab 3,af none 0 0,.slice B 1 d]/\bd w 0 (.slice B [(4:Int)].length d) [4]
def alP5 (v:Value) (w:World):Prop:=∃ B d B2 d2,v= .agg #[aa ab 1,.slice B 1 d,.slice B2 1 d2]/\bd w 0 (.slice B [(5:Int)].length d) [5]
theorem LQ (v:Value) (w1 w2:World) (hb:Below w1.heap.size w1 w2) (h:alP4 v w1):alP4 v w2:=by
 obtain ⟨B,d,e,ho⟩:=h;exact ⟨B,d,e,bc ho hb⟩
theorem LP (v:Value) (w1 w2:World) (hb:Below w1.heap.size w1 w2) (h:alP5 v w1):alP5 v w2:=by
 obtain ⟨B,d,B2,d2,e,ho⟩:=h;exact ⟨B,d,B2,d2,e,bc ho hb⟩
theorem nD (w:World):Calls aw 7 #[] w (kW true w):=by
 go_enter Tryz.func7,Tryz.ntmps7
 go_upto_region 1 with fail
 have b0:=((((Bk.made w 54 vX).alloc (ag vW 54)).alloc (ag #[af (some ⟨w.heap.size,0,none⟩) 3 3,af (some ⟨w.heap.size+1,0,none⟩) 1 1] 47)).alloc (ag u8A 5)).alloc (ag (cK (some ⟨w.heap.size+1+1,0,none⟩) 2 2 (some ⟨w.heap.size+1+1+1,0,none⟩) 8 8 255 6 0) 26);have b1:=(((Bk.new (w.alloc (ag vX 54)) (g:=w.heap.size+1) zS 54 vW).alloc (ag #[af (some ⟨w.heap.size,0,none⟩) 3 3,af (some ⟨w.heap.size+1,0,none⟩) 1 1] 47)).alloc (ag u8A 5)).alloc (ag (cK (some ⟨w.heap.size+1+1,0,none⟩) 2 2 (some ⟨w.heap.size+1+1+1,0,none⟩) 8 8 255 6 0) 26);have b2:=((Bk.new ((w.alloc (ag vX 54)).alloc (ag vW 54)) (g:=w.heap.size+1+1) zS 47 #[af (some ⟨w.heap.size,0,none⟩) 3 3,af (some ⟨w.heap.size+1,0,none⟩) 1 1]).alloc (ag u8A 5)).alloc (ag (cK (some ⟨w.heap.size+1+1,0,none⟩) 2 2 (some ⟨w.heap.size+1+1+1,0,none⟩) 8 8 255 6 0) 26);have b3:=(Bk.new (((w.alloc (ag vX 54)).alloc (ag vW 54)).alloc (ag #[af (some ⟨w.heap.size,0,none⟩) 3 3,af (some ⟨w.heap.size+1,0,none⟩) 1 1] 47)) (g:=w.heap.size+1+1+1) zS 5 u8A).alloc (ag (cK (some ⟨w.heap.size+1+1,0,none⟩) 2 2 (some ⟨w.heap.size+1+1+1,0,none⟩) 8 8 255 6 0) 26);have b4:=Bk.new ((((w.alloc (ag vX 54)).alloc (ag vW 54)).alloc (ag #[af (some ⟨w.heap.size,0,none⟩) 3 3,af (some ⟨w.heap.size+1,0,none⟩) 1 1] 47)).alloc (ag u8A 5)) (g:=w.heap.size+1+1+1+1) zS 26 (cK (some ⟨w.heap.size+1+1,0,none⟩) 2 2 (some ⟨w.heap.size+1+1+1,0,none⟩) 8 8 255 6 0);have bz:=aB (aB (aB (aB (aB (Below.refl w.heap.size w) (ag vX 54)) (ag vW 54)) (ag #[af (some ⟨w.heap.size,0,none⟩) 3 3,af (some ⟨w.heap.size+1,0,none⟩) 1 1] 47)) (ag u8A 5)) (ag (cK (some ⟨w.heap.size+1+1,0,none⟩) 2 2 (some ⟨w.heap.size+1+1+1,0,none⟩) 8 8 255 6 0) 26)
 go_upto_region 2 with fail
 generalize ((((w.alloc (ag vX 54)).alloc (ag vW 54)).alloc (ag #[af (some ⟨w.heap.size,0,none⟩) 3 3,af (some ⟨w.heap.size+1,0,none⟩) 1 1] 47)).alloc (ag u8A 5)).alloc (ag (cK (some ⟨w.heap.size+1+1,0,none⟩) 2 2 (some ⟨w.heap.size+1+1+1,0,none⟩) 8 8 255 6 0) 26)=w1 at *;have P:=JB b0 b1 b2 b3;clear b0 b1 b2 b3;obtain ⟨g2,L9⟩:∃ z,w.heap.size+1+1=z:=⟨_,rfl⟩;obtain ⟨g3,hg3⟩:∃ z,w.heap.size+1+1+1=z:=⟨_,rfl⟩;obtain ⟨g4,hg4⟩:∃ z,w.heap.size+1+1+1+1=z:=⟨_,rfl⟩;rw [hg4] at b4;rw [hg3] at b4 P;rw [L9] at b4 P;simp only [hg4];simp only [hg3];simp only [L9];have HG:=ar (au L9 (au hg3 hg4));clear L9 hg3 hg4
 go_wp2_with (refine aL rfl 26 (.tmp 1) rfl g4 rfl 26 (cK (some ⟨g2,0,none⟩) 2 2 (some ⟨g3,0,none⟩) 8 8 255 6 0) (0,0) _ b4 fA rfl zK ?_)
 (with_reducible refine (tm P).mono ?_)
 rintro e w2 ⟨gt,rfl,hT,hb⟩;obtain ⟨B,hB⟩:∃ z,w1.heap.size=z:=⟨_,rfl⟩;have L4:=bz.size;rw [hB] at L4;replace b4:=b4.ay hb;replace bz:=aF bz hb;rw [hB] at hb hT P;replace hT:lW w2 B gt (lyW 2) tA1:=hT;replace P:=P.below hb;have s9:=hb.size;rw [hB] at s9;clear hb hB
 go_wp2_with (refine aL rfl 26 (.tmp 1) rfl g4 rfl 26 (cK (some ⟨g2,0,none⟩) 2 2 (some ⟨g3,0,none⟩) 8 8 255 6 0) (0,0) _ b4 fA rfl zK ?_)
 clear HG
 (with_reducible refine (rN false P s9 hT wbA1 zD).mono ?_)
 rintro e w3 ⟨rfl,Ep,ts⟩;replace hT:lW w3 B gt (lyW 2) tA2:=Ep;clear Ep;replace b4:=ts.ay b4 ⟨zD,zD,zD,zD⟩;replace bz:=bz.trans (ts.below.mono L4);replace P:=P.below ts.below;replace s9:=aQ s9 ts.below.size;clear ts;obtain ⟨gs,mv,ev,cv,X⟩:=hT;obtain ⟨gm,cm,rfl,wW⟩:=X.mem;have lg:=fJ wW;rw [len2] at X
 go_upto_region 4 with fail
 refine aP (S:=fun w'=>Below w3.drew.heap.size w3.drew w') (E:=fun i=>i==10) zK ?_
 have dD:=aU (Below.refl w3.heap.size w3);replace X:=X.ay dD;replace b4:=b4.ay dD;replace bz:=aF bz dD;replace lg:=fJ (bc wW dD);replace wW:=bc wW dD;have ur:=dD.mono s9;clear dD;generalize w3.drew=w4 at *;refine wTk 7 [(0,21,ae (some ⟨gt,0,none⟩)),(1,22,ae (some ⟨gt,0,none⟩)),(2,23,ae (some ⟨gt,0,none⟩)),(4,25,ae (some ⟨gt,0,none⟩)),(5,26,ae (some ⟨gt,0,none⟩)),(6,27,ae (some ⟨gt,25,none⟩)),(7,28,.agg #[af (some ⟨gm,0,none⟩) 360 cm])] ?_ (Below.refl _ _) ?_
 ·intro w' hS;have kT:=(X.ay hS).tab;have Ap:=kT.cell 25;have sN:=kT.cell 28;have qQ:=kT.cell 29;have rC:=kT.cell 30;clear X;simp at Ap sN qQ rC
  (repeat' (first | exact aC | refine au ⟨_,rfl,.inl ⟨rfl,?_⟩⟩ ?_))
  all_goals exact zG
 simp only [aR,Act.put,aj,ak,al];refine wTk 1 [(3,24,lyV (lyW 2))] ?_ (Below.refl _ _) ?_
 ·intro w' hS;have fg:(dr 34 ⟨gt,0,none⟩).run aw w'= .ok (lyV (lyW 2)) w':=dy w' gt 0 34 (lyC (lyW 2)) _ (X.ay hS).lay aJ rfl zK
  (repeat' (first | exact aC | refine au ⟨_,rfl,.inl ⟨rfl,?_⟩⟩ ?_))
  all_goals exact list.bI rfl rfl fg
 simp only [aR,Act.put,aj,ak,al];refine gF (U:=[8,9]) (tmp:=alT 29 3) (pre:=fun _=>[]) (R:=alR [3] w4.heap.size) zK zD (fun w2 h=>h) (D5 [3] w4.heap.size) (fun i hi=>?_) 1 (fun val w5 bS p9=>?_)
 ·simp only [bD,cB,or_false] at hi;rcases hi with rfl | rfl
  ·refine ⟨_,rfl,fun val wq K s8 cd hK=>?_⟩
   simp only [bq] at hK ⊢;go_simp
   (with_reducible refine (al_s2 (some ⟨gm,0,none⟩) cm wq ((lg.below s8).more s8.size)).mono ?_)
   rintro e wp ⟨BB,dd,rfl,ho,Ll⟩;exact hK _ _ ⟨BB,dd,rfl,eI ho s8.size⟩ Ll
  ·refine ⟨_,rfl,fun val wq K s8 cd hK=>?_⟩
   simp only [bq] at hK ⊢;go_simp;exact hK _ _ ⟨_,rfl,s8.size,Bk.made _ _ _⟩ (aB (Below.refl _ _) _)
 obtain ⟨v8,e8,BR3,dR3,rfl,Ak⟩:=bS 8 zS;obtain ⟨v9,e9,gR,rfl,Li,sW⟩:=bS 9 zS;simp only [alT,bq,dC,e8,e9,gQ,if_true];clear bS e8 e9
 (try simp only [Act.put,aj,ak,al,iL])
 have c0:=sW.cell 0;have c1:=sW.cell 1;have c2:=sW.cell 2;have f0:=sW.free 0;have f1:=sW.free 1;have f2:=sW.free 2;have lR:=sW.lt;simp at c0 c1 c2;refine aE (i:=10) (o:=_) zK rfl (fun K hK=>?_)
 (try simp only [aq,ao,an])
 go_simp;have t1:=cy sW 0 (aa ab 2);replace sW:=sW.stored 0 (aa ab 2);have t2:=cy sW 1 (af none 0 0);replace sW:=sW.stored 1 (af none 0 0);have t3:=cy sW 2 (.slice BR3 1 dR3);replace sW:=sW.stored 2 (.slice BR3 1 dR3);replace Ak:=cz Ak ((t1.trans t2).trans t3) zD;replace p9:=bK (bK (bK p9 (p:=⟨gR,0,none⟩) Li (aa ab 2)) (p:=⟨gR,1,none⟩) Li (af none 0 0)) (p:=⟨gR,2,none⟩) Li (.slice BR3 1 dR3);replace sW:Bk (((w5.setCell ⟨gR,0,none⟩ (aa ab 2)).setCell ⟨gR,1,none⟩ (af none 0 0)).setCell ⟨gR,2,none⟩ (.slice BR3 1 dR3)) gR 61 #[aa ab 2,af none 0 0,.slice BR3 1 dR3]:=sW;clear t1 t2 t3 c0 c1 c2 f0 f1 f2 lR Li;generalize ((w5.setCell ⟨gR,0,none⟩ (aa ab 2)).setCell ⟨gR,1,none⟩ (af none 0 0)).setCell ⟨gR,2,none⟩ (.slice BR3 1 dR3)=w6 at *;refine hK.out _ _ (fun h=>by cases h) ?_
 clear hK K
 (try simp only [Act.put,aj,ak,al,iL])
 refine aN zK ?_ _;replace X:=X.ay p9;replace b4:=b4.ay p9;replace bz:=aF bz p9;replace wW:=bc wW p9;replace P:=P.below (ur.trans (p9.mono (aQ s9 ur.size)));replace s9:=aQ s9 (ur.trans (p9.mono (aQ s9 ur.size))).size;clear p9 lg ur;obtain ⟨GC,cC,rfl⟩:=cj X.calls;rw [Ay] at X;have sN:=X.tab.cell 28;simp at sN;have lT:=X.tab.lt;have HX:=ar X;clear X
 go_wp2_with (refine aL rfl 26 (.tmp 1) rfl g4 rfl 26 (cK (some ⟨g2,0,none⟩) 2 2 (some ⟨g3,0,none⟩) 8 8 255 6 0) (0,0) _ b4 fA rfl zK ?_)
 have X:=HX.out;clear HX sN lT wW;have Eo:lW w6 B gt (lyW 2) tA2:=⟨gs,_,_,_,X⟩
 (with_reducible refine (rN true P s9 Eo wbA2 zD).mono ?_)
 rintro e w7 ⟨rfl,hT7,ts⟩;replace hT7:lW w7 B gt (lyW 2) tA3:=hT7;have hkr:rK w6 w7:=fun g cs t fr hg ht=>ts.kept g cs t fr hg (by rcases ht with rfl | rfl | rfl <;> decide)
 replace sW:=ts.ay sW ⟨zD,zD,zD,zD⟩;replace Ak:=mu Ak hkr (.inr (.inl rfl));replace b4:=ts.ay b4 ⟨zD,zD,zD,zD⟩;replace bz:=bz.trans (ts.below.mono L4);replace P:=P.below ts.below;replace s9:=aQ s9 ts.below.size;clear ts hkr X Eo;obtain ⟨gs7,mv7,ev7,cv7,X⟩:=hT7;obtain ⟨gm7,cm7,rfl,wW⟩:=X.mem;have lg:=fJ wW;rw [Db] at X
 go_upto_region 7 with fail
 refine aP (S:=fun w'=>Below w7.drew.heap.size w7.drew w') (E:=fun i=>i==10) zK ?_
 have dD:=aU (Below.refl w7.heap.size w7);replace X:=X.ay dD;replace b4:=b4.ay dD;replace bz:=aF bz dD;replace lg:=fJ (bc wW dD);replace wW:=bc wW dD;replace sW:=sW.ay dD;replace Ak:=bc Ak dD;have ur:=dD.mono s9;clear dD;generalize w7.drew=w8 at *;refine wTk 7 [(0,38,ae (some ⟨gt,0,none⟩)),(1,39,ae (some ⟨gt,0,none⟩)),(2,40,ae (some ⟨gt,0,none⟩)),(4,42,ae (some ⟨gt,0,none⟩)),(5,43,ae (some ⟨gt,0,none⟩)),(6,44,ae (some ⟨gt,25,none⟩)),(7,45,.agg #[af (some ⟨gm7,0,none⟩) 360 cm7])] ?_ (Below.refl _ _) ?_
 ·intro w' hS;have kT:=(X.ay hS).tab;have Ap:=kT.cell 25;have sN:=kT.cell 28;have qQ:=kT.cell 29;have rC:=kT.cell 30;clear X;simp at Ap sN qQ rC
  (repeat' (first | exact aC | refine au ⟨_,rfl,.inl ⟨rfl,?_⟩⟩ ?_))
  all_goals exact zG
 simp only [aR,Act.put,aj,ak,al];refine wTk 1 [(3,41,lyV (lyW 2))] ?_ (Below.refl _ _) ?_
 ·intro w' hS;have fg:(dr 34 ⟨gt,0,none⟩).run aw w'= .ok (lyV (lyW 2)) w':=dy w' gt 0 34 (lyC (lyW 2)) _ (X.ay hS).lay aJ rfl zK
  (repeat' (first | exact aC | refine au ⟨_,rfl,.inl ⟨rfl,?_⟩⟩ ?_))
  all_goals exact list.bI rfl rfl fg
 simp only [aR,Act.put,aj,ak,al];refine gF (U:=[8,9]) (tmp:=alT 46 5) (pre:=fun _=>[]) (R:=alR [8,3] w8.heap.size) zK zD (fun w2 h=>h) (D5 [8,3] w8.heap.size) (fun i hi=>?_) 1 (fun val w9 bS p9=>?_)
 ·simp only [bD,cB,or_false] at hi;rcases hi with rfl | rfl
  ·refine ⟨_,rfl,fun val wq K s8 cd hK=>?_⟩
   simp only [bq] at hK ⊢;go_simp
   (with_reducible refine (al_s3 (some ⟨gm7,0,none⟩) cm7 wq ((lg.below s8).more s8.size)).mono ?_)
   rintro e wp ⟨BB,dd,rfl,ho,Ll⟩;exact hK _ _ ⟨BB,dd,rfl,eI ho s8.size⟩ Ll
  ·refine ⟨_,rfl,fun val wq K s8 cd hK=>?_⟩
   simp only [bq] at hK ⊢;go_simp;exact hK _ _ ⟨_,rfl,s8.size,Bk.made _ _ _⟩ (aB (Below.refl _ _) _)
 obtain ⟨v8,e8,BR5,dR5,rfl,hoR5⟩:=bS 8 zS;obtain ⟨v9,e9,gL,rfl,Li,wi⟩:=bS 9 zS;simp only [alT,bq,dC,e8,e9,gQ,if_true];clear bS e8 e9
 (try simp only [Act.put,aj,ak,al,iL])
 have c0:=wi.cell 0;have c1:=wi.cell 1;have c2:=wi.cell 2;have f0:=wi.free 0;have f1:=wi.free 1;have f2:=wi.free 2;have lR:=wi.lt;simp at c0 c1 c2;refine aE (i:=10) (o:=_) zK rfl (fun K hK=>?_)
 (try simp only [aq,ao,an])
 go_simp;have t1:=cy wi 0 (aa ab 2);replace wi:=wi.stored 0 (aa ab 2);have t2:=cy wi 1 (af none 0 0);replace wi:=wi.stored 1 (af none 0 0);have t3:=cy wi 2 (.slice BR5 2 dR5);replace wi:=wi.stored 2 (.slice BR5 2 dR5);replace hoR5:=cz hoR5 ((t1.trans t2).trans t3) zD;replace p9:=bK (bK (bK p9 (p:=⟨gL,0,none⟩) Li (aa ab 2)) (p:=⟨gL,1,none⟩) Li (af none 0 0)) (p:=⟨gL,2,none⟩) Li (.slice BR5 2 dR5);replace wi:Bk (((w9.setCell ⟨gL,0,none⟩ (aa ab 2)).setCell ⟨gL,1,none⟩ (af none 0 0)).setCell ⟨gL,2,none⟩ (.slice BR5 2 dR5)) gL 61 #[aa ab 2,af none 0 0,.slice BR5 2 dR5]:=wi;clear t1 t2 t3 c0 c1 c2 f0 f1 f2 lR Li;generalize ((w9.setCell ⟨gL,0,none⟩ (aa ab 2)).setCell ⟨gL,1,none⟩ (af none 0 0)).setCell ⟨gL,2,none⟩ (.slice BR5 2 dR5)=wA at *;refine hK.out _ _ (fun h=>by cases h) ?_
 clear hK K
 (try simp only [Act.put,aj,ak,al,iL])
 refine aN zK ?_ _;replace X:=X.ay p9;replace b4:=b4.ay p9;replace bz:=aF bz p9;replace wW:=bc wW p9;replace P:=P.below (ur.trans (p9.mono (aQ s9 ur.size)));replace s9:=aQ s9 (ur.trans (p9.mono (aQ s9 ur.size))).size;replace sW:=sW.ay p9;replace Ak:=bc Ak p9;clear p9 lg ur;obtain ⟨GC7,cC7,rfl⟩:=cj X.calls;rw [KF] at X;have lg:=fJ wW;have lV:=fJ (zs:=[3]) Ak;have Ai:=fJ (zs:=[8,3]) hoR5;clear b4 P s9 Ak hoR5 wW
 go_upto_region 8 with fail
 refine aP (S:=fun w'=>Below wA.drew.heap.size wA.drew w') (E:=fun _=>false) zK ?_
 have dD:=aU (Below.refl wA.heap.size wA);replace X:=X.ay dD;replace sW:=sW.ay dD;replace wi:=wi.ay dD;replace lV:=(lV.below dD).more dD.size;replace Ai:=(Ai.below dD).more dD.size;replace lg:=(lg.below dD).more dD.size;replace bz:=aF bz dD;clear dD;generalize wA.drew=wB at *;have jH:=Below.refl wB.heap.size wB;refine wTk 6 [(0,47,ae (some ⟨gt,0,none⟩)),(1,48,ae (some ⟨gt,0,none⟩)),(2,49,ae (some ⟨gt,30,none⟩)),(3,50,ah false),(4,51,ah true),(5,52,ah true)] ?_ jH ?_
 ·intro w' hS;have kT:=(X.ay hS).tab;have Ap:=kT.cell 25;have sN:=kT.cell 28;have qQ:=kT.cell 29;have rC:=kT.cell 30;have r3:=(sW.ay hS).cell 2;have r5:=(wi.ay hS).cell 2;clear X;simp at Ap sN qQ rC r3 r5
  (repeat' (first | exact aC | refine au ⟨_,rfl,.inl ⟨rfl,?_⟩⟩ ?_))
  all_goals exact zG
 simp only [aR,Act.put,aj,ak,al];refine wTk 11 [(6,53,ae (some ⟨gt,0,none⟩)),(7,54,ae (some ⟨gt,0,none⟩)),(8,55,ae (some ⟨gt,29,none⟩)),(9,56,ah false),(10,57,ah true),(11,58,ah true),(12,59,ah true),(13,60,aa ab 3),(14,61,ah true),(15,62,ah true),(16,63,ah true)] ?_ jH ?_
 ·intro w' hS;have kT:=(X.ay hS).tab;have Ap:=kT.cell 25;have sN:=kT.cell 28;have qQ:=kT.cell 29;have rC:=kT.cell 30;have r3:=(sW.ay hS).cell 2;have r5:=(wi.ay hS).cell 2;clear X;simp at Ap sN qQ rC r3 r5
  (repeat' (first | exact aC | refine au ⟨_,rfl,.inl ⟨zK,?_⟩⟩ ?_))
  all_goals exact zG
 simp only [aR,Act.put,aj,ak,al];refine wTk 10 [(17,64,ae (some ⟨gt,0,none⟩)),(18,65,ae (some ⟨gt,0,none⟩)),(19,66,ae (some ⟨gt,28,none⟩)),(20,67,.slice GC7 4 cC7),(21,68,aa ab 4),(22,69,ah true),(23,70,ah true),(24,71,ah true),(25,72,ae (some ⟨gR,2,none⟩)),(26,73,.slice BR3 1 dR3)] ?_ jH ?_
 ·intro w' hS;have kT:=(X.ay hS).tab;have Ap:=kT.cell 25;have sN:=kT.cell 28;have qQ:=kT.cell 29;have rC:=kT.cell 30;have r3:=(sW.ay hS).cell 2;have r5:=(wi.ay hS).cell 2;clear X;simp at Ap sN qQ rC r3 r5
  (repeat' (first | exact aC | refine au ⟨_,rfl,.inl ⟨zK,?_⟩⟩ ?_))
  all_goals exact zG
 simp only [aR,Act.put,aj,ak,al];refine aE (i:=27) (o:=_) zK rfl (fun K hK=>?_)
 (try simp only [aq,ao,an])
 go_simp;have kP1:=Bk.made wB 3 #[aa ab 3];have Oe:=aB (Below.refl wB.heap.size wB) (ag #[aa ab 3] 3);replace jH:=aF jH Oe;clear Oe;generalize wB.alloc (ag #[aa ab 3] 3)=wBb at *;refine hK.out _ _ (fun _=>jH) ?_
 clear hK K
 (try simp only [Act.put,aj,ak,al,iL])
 refine aE (i:=28) (o:=_) zK rfl (fun K hK=>?_)
 (try simp only [aq,ao,an])
 go_simp
 (with_reducible refine (xT (A:=BR3) (c:=dR3) (n:=1) (zs:=[3]) rfl ((lV.below jH).more jH.size) kP1 rfl).mono ?_)
 rintro e wC ⟨rfl,Oe⟩;replace jH:=aF jH Oe;clear Oe kP1;refine hK.out _ _ (fun _=>jH) ?_
 clear hK K
 (try simp only [Act.put,aj,ak,al,iL])
 refine wTk 4 [(29,76,ah true),(30,77,ah true),(31,78,ae (some ⟨gL,2,none⟩)),(32,79,.slice BR5 2 dR5)] ?_ jH ?_
 ·intro w' hS;have kT:=(X.ay hS).tab;have Ap:=kT.cell 25;have sN:=kT.cell 28;have qQ:=kT.cell 29;have rC:=kT.cell 30;have r3:=(sW.ay hS).cell 2;have r5:=(wi.ay hS).cell 2;clear X;simp at Ap sN qQ rC r3 r5
  (repeat' (first | exact aC | refine au ⟨_,rfl,.inl ⟨zK,?_⟩⟩ ?_))
  all_goals exact zG
 simp only [aR,Act.put,aj,ak,al];refine aE (i:=33) (o:=_) zK rfl (fun K hK=>?_)
 (try simp only [aq,ao,an])
 go_simp;have kP2:=Bk.made wC 3 #[aa ab 8,aa ab 3];have Od:=aB (Below.refl wC.heap.size wC) (ag #[aa ab 8,aa ab 3] 3);replace jH:=aF jH Od;clear Od;generalize wC.alloc (ag #[aa ab 8,aa ab 3] 3)=wCb at *;refine hK.out _ _ (fun _=>jH) ?_
 clear hK K
 (try simp only [Act.put,aj,ak,al,iL])
 refine aE (i:=34) (o:=_) zK rfl (fun K hK=>?_)
 (try simp only [aq,ao,an])
 go_simp
 (with_reducible refine (xT (A:=BR5) (c:=dR5) (n:=2) (zs:=[8,3]) rfl ((Ai.below jH).more jH.size) kP2 rfl).mono ?_)
 rintro e wD ⟨rfl,Od⟩;replace jH:=aF jH Od;clear Od kP2;refine hK.out _ _ (fun _=>jH) ?_
 clear hK K
 (try simp only [Act.put,aj,ak,al,iL])
 refine wTk 9 [(35,82,ah true),(36,83,ah true),(37,84,ae (some ⟨gt,0,none⟩)),(38,85,ae (some ⟨gt,0,none⟩)),(39,86,ae (some ⟨gt,0,none⟩)),(41,88,ae (some ⟨gt,0,none⟩)),(42,89,ae (some ⟨gt,0,none⟩)),(43,90,ae (some ⟨gt,25,none⟩)),(44,91,.agg #[af (some ⟨gm7,0,none⟩) 360 cm7])] ?_ jH ?_
 ·intro w' hS;have kT:=(X.ay hS).tab;have Ap:=kT.cell 25;have sN:=kT.cell 28;have qQ:=kT.cell 29;have rC:=kT.cell 30;have r3:=(sW.ay hS).cell 2;have r5:=(wi.ay hS).cell 2;clear X;simp at Ap sN qQ rC r3 r5
  (repeat' (first | exact aC | refine au ⟨_,rfl,.inl ⟨zK,?_⟩⟩ ?_))
  all_goals exact zG
 simp only [aR,Act.put,aj,ak,al];refine wTk 1 [(40,87,lyV (lyW 2))] ?_ jH ?_
 ·intro w' hS;have fg:(dr 34 ⟨gt,0,none⟩).run aw w'= .ok (lyV (lyW 2)) w':=dy w' gt 0 34 (lyC (lyW 2)) _ (X.ay hS).lay aJ rfl zK
  (repeat' (first | exact aC | refine au ⟨_,rfl,.inl ⟨zK,?_⟩⟩ ?_))
  all_goals exact list.bI rfl rfl fg
 simp only [aR,Act.put,aj,ak,al];refine gF (U:=[45,46,47]) (tmp:=alU 45 92) (pre:=alZ 45) (R:=alQ 45 alP4 4) zK (fun _ _=>rfl) (fun w2 h=>aF jH h) (D6 LQ) (fun i hi=>?_) 17 (fun val wE bS p9=>?_)
 ·simp only [bD,cB,or_false] at hi;rcases hi with rfl | rfl | rfl
  ·refine ⟨_,rfl,fun val wq K s8 cd hK=>?_⟩
   simp only [bq,show alZ 45 45=[] from rfl] at hK ⊢
   go_simp
   (with_reducible refine (al_c3 (some ⟨gm7,0,none⟩) cm7 wq ((lg.below (aF jH s8)).more (aF jH s8).size)).mono ?_)
   rintro e wp ⟨BB,dd,rfl,ho,Ll⟩;exact hK _ _ ⟨BB,dd,rfl,eI ho (aY _)⟩ Ll
  ·refine ⟨_,rfl,fun val wq K s8 cd hK=>?_⟩
   obtain ⟨v,e,Ja⟩:=cd 45 (by simp [alZ])
   obtain ⟨BB,dd,rfl,ho⟩:=(show alP4 v wq from Ja)
   simp only [bq,e,show alZ 45 46=[45] from rfl,show alU 45 92 45=92 from rfl] at hK ⊢
   clear e Ja cd;go_simp;have hf:(uP 61 (.agg #[aa ab 3,af none 0 0,.slice BB 1 dd]) 2).run aw wq= .ok (.slice BB 1 dd) wq:=zK;rw [hf];exact hK _ _ ⟨BB,dd,rfl,ho⟩ (Below.refl _ _)
  ·refine ⟨_,rfl,fun val wq K s8 cd hK=>?_⟩
   simp only [bq,show alZ 45 47=[] from rfl] at hK ⊢
   go_simp;exact hK _ _ ⟨_,rfl,Bk.made _ _ _⟩ (aB (Below.refl _ _) _)
 obtain ⟨v8,e8,hP⟩:=bS 45 zS;obtain ⟨v7,e7,BP,dP,rfl,ho⟩:=bS 46 zS;obtain ⟨v9,e9,gP,rfl,kP⟩:=bS 47 zS;simp only [show alU 45 92 45=92 from rfl,show alU 45 92 46=93 from rfl,show alU 45 92 47=94 from rfl,bq,dC,e7,e8,e9,gQ,if_true]
 have pj:=fJ (zs:=[4]) ho;clear bS e7 e8 e9 hP ho
 (try simp only [Act.put,aj,ak,al,iL])
 replace jH:=aF jH p9;clear p9;refine aE (i:=48) (o:=_) zK rfl (fun K hK=>?_)
 (try simp only [aq,ao,an])
 go_simp
 (with_reducible refine (xT (A:=BP) (c:=dP) (n:=1) (zs:=[4]) rfl pj kP rfl).mono ?_)
 rintro e wF ⟨rfl,hbP⟩;replace jH:=aF jH hbP;clear hbP kP;refine hK.out _ _ (fun _=>jH) ?_
 clear hK K
 (try simp only [Act.put,aj,ak,al,iL])
 clear pj;refine wTk 9 [(49,96,ah true),(50,97,ah true),(51,98,ae (some ⟨gt,0,none⟩)),(52,99,ae (some ⟨gt,0,none⟩)),(53,100,ae (some ⟨gt,0,none⟩)),(55,102,ae (some ⟨gt,0,none⟩)),(56,103,ae (some ⟨gt,0,none⟩)),(57,104,ae (some ⟨gt,25,none⟩)),(58,105,.agg #[af (some ⟨gm7,0,none⟩) 360 cm7])] ?_ jH ?_
 ·intro w' hS;have kT:=(X.ay hS).tab;have Ap:=kT.cell 25;have sN:=kT.cell 28;have qQ:=kT.cell 29;have rC:=kT.cell 30;have r3:=(sW.ay hS).cell 2;have r5:=(wi.ay hS).cell 2;clear X;simp at Ap sN qQ rC r3 r5
  (repeat' (first | exact aC | refine au ⟨_,rfl,.inl ⟨zK,?_⟩⟩ ?_))
  all_goals exact zG
 simp only [aR,Act.put,aj,ak,al];refine wTk 1 [(54,101,lyV (lyW 2))] ?_ jH ?_
 ·intro w' hS;have fg:(dr 34 ⟨gt,0,none⟩).run aw w'= .ok (lyV (lyW 2)) w':=dy w' gt 0 34 (lyC (lyW 2)) _ (X.ay hS).lay aJ rfl zK
  (repeat' (first | exact aC | refine au ⟨_,rfl,.inl ⟨zK,?_⟩⟩ ?_))
  all_goals exact list.bI rfl rfl fg
 simp only [aR,Act.put,aj,ak,al];refine gF (U:=[59,60,61]) (tmp:=alU 59 106) (pre:=alZ 59) (R:=alQ 59 alP5 5) zK (fun _ _=>rfl) (fun w2 h=>aF jH h) (D6 LP) (fun i hi=>?_) 3 (fun val wG bS p9=>?_)
 ·simp only [bD,cB,or_false] at hi;rcases hi with rfl | rfl | rfl
  ·refine ⟨_,rfl,fun val wq K s8 cd hK=>?_⟩
   simp only [bq,show alZ 59 59=[] from rfl] at hK ⊢
   go_simp
   (with_reducible refine (al_m3 (some ⟨gm7,0,none⟩) cm7 wq ((lg.below (aF jH s8)).more (aF jH s8).size)).mono ?_)
   rintro e wp ⟨BB,dd,B2,dd2,rfl,ho,-,Ll⟩;exact hK _ _ ⟨BB,dd,B2,dd2,rfl,eI ho (aY _)⟩ Ll
  ·refine ⟨_,rfl,fun val wq K s8 cd hK=>?_⟩
   obtain ⟨v,e,Ja⟩:=cd 59 (by simp [alZ])
   obtain ⟨BB,dd,B2,dd2,rfl,ho⟩:=(show alP5 v wq from Ja)
   simp only [bq,e,show alZ 59 60=[59] from rfl,show alU 59 106 59=106 from rfl] at hK ⊢
   clear e Ja cd;go_simp;have hf:(uP 61 (.agg #[aa ab 1,.slice BB 1 dd,.slice B2 1 dd2]) 1).run aw wq= .ok (.slice BB 1 dd) wq:=zK;rw [hf];exact hK _ _ ⟨BB,dd,rfl,ho⟩ (Below.refl _ _)
  ·refine ⟨_,rfl,fun val wq K s8 cd hK=>?_⟩
   simp only [bq,show alZ 59 61=[] from rfl] at hK ⊢
   go_simp;exact hK _ _ ⟨_,rfl,Bk.made _ _ _⟩ (aB (Below.refl _ _) _)
 obtain ⟨v8,e8,hP⟩:=bS 59 zS;obtain ⟨v7,e7,BP,dP,rfl,ho⟩:=bS 60 zS;obtain ⟨v9,e9,gP,rfl,kP⟩:=bS 61 zS;simp only [show alU 59 106 59=106 from rfl,show alU 59 106 60=107 from rfl,show alU 59 106 61=108 from rfl,bq,dC,e7,e8,e9,gQ,if_true]
 have pj:=fJ (zs:=[5]) ho;clear bS e7 e8 e9 hP ho
 (try simp only [Act.put,aj,ak,al,iL])
 replace jH:=aF jH p9;clear p9;refine aE (i:=62) (o:=_) zK rfl (fun K hK=>?_)
 (try simp only [aq,ao,an])
 go_simp
 (with_reducible refine (xT (A:=BP) (c:=dP) (n:=1) (zs:=[5]) rfl pj kP rfl).mono ?_)
 rintro e wH ⟨rfl,hbP⟩;replace jH:=aF jH hbP;clear hbP kP;refine hK.out _ _ (fun _=>jH) ?_
 clear hK K
 (try simp only [Act.put,aj,ak,al,iL])
 refine wTk 2 [(63,110,ah true),(64,0,ah true)] ?_ jH ?_
 ·intro w' hS;clear X
  (repeat' (first | exact aC | refine au ⟨_,rfl,.inl ⟨zK,?_⟩⟩ ?_))
  all_goals exact zG
 simp only [aR,Act.put,aj,ak,al];refine aN zK ?_ _
 go_wp2_with fail
 go_ret
 exact ⟨rfl,aF bz jH⟩
end Go.Proofs.YtikdaeddbkopeaaGreatR
