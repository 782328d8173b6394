/- A part of the proof. -/
import Derived.Deep.CutBlock
import Derived.Maps.Own
import Derived.Maps.Keyed
import Derived.Maps.Views
import Derived.Test.YtikdaeddbkopeaaGreatRV14
import Derived.Test.YtikdaeddbkopeaaGreatRV12
import Derived.Test.YtikdaeddbkopeaaGreatRV13
set_option linter.unusedVariables false
set_option linter.unusedSimpArgs false
set_option maxRecDepth 100000
set_option maxHeartbeats 16000000
open And renaming intro → au
open Bool renaming and_eq_true → dq
open Go renaming setRow_heap → Cm, wpList_load_row → aL, wp_at_zero → aV, wp_at_succ → aW, bodyPost_ret → aX, TypeId → bR, run_loadVar_row → be, wpList_append_own_at → cM, results_cell_row → cb, wp_store_row → dH, results_none → dY, loadVar → dr, Ending → lb, maxLen → nu, info_parts → xE
open Go.Ending renaming returned → ai
open Go.Instr renaming field → uP
open Go.IntKind renaming i64 → ab
open Go.IntWalk renaming i64_in → cV
open Go.Lib renaming hid → ar
open Go.Obj renaming cells → ag
open Go.Proofs.Tryz renaming underlying34 → aJ, prog → aw, underlying26 → fA, underlying35 → su
open Go.Value renaming oneCell' → aD, bool → ah, int → aa, pointer → ae, slice → af
open Go.World renaming ownsRow_nil → cZ
open Go.World.ownsRow renaming cellAt → jj
open List renaming getElem?_eq_some_iff → a8, getElem?_eq_getElem → aO, setIfInBounds_toArray → aj, set_cons_zero → ak, set_cons_succ → al, getElem_cons_zero → an, getElem_cons_succ → ao, getElem_toArray → aq, mem_cons → bD, mem_of_getElem? → bX, not_mem_nil → cB, length_append → cJ, set_nil → iL, take_add_one → j7, length_take → jM, take_length → pL, range → xF
open Nat renaming le_trans → aQ, zero_le → aY, le_refl → az, lt_of_lt_of_le → bg
open Option renaming isSome_some → gQ
open Option.some renaming inj → aT
open True renaming intro → aC
namespace Go.Proofs.YtikdaeddbkopeaaGreatR
open Go.RowKit
attribute [local go_sem ↓] aV aW
theorem nh {S who B gt:Nat} {want:List (List Opr)} {t:dG} {sm:Sm} {g:Gh} {q:Nat->Sq} (WI:sP S want t sm g q) (hN:t.events.length+1<=90000) (hC:t.calls.length+1<=90000) (om:who < S) (A T:Option Addr) (cw m d s0 s1 s2:Nat) (w:World) (hT:lW w B gt (lyW S) t) (hBW:B<=w.heap.size) (hW:mB w B A want):
  Calls aw 9 #[ae (some ⟨gt,0,none⟩),.agg (cK A S cw T m d s0 s1 s2),aa ab who] w (lQ (lyW S) want who B gt t w):=by
 obtain ⟨x,ops,hx,ho⟩:=WI.lt om;obtain ⟨gs,mv,ev,cv,X⟩:=hT;have h1:=WI.wk.S1.1;have h3:=WI.wk.S1.2;have qP:t.aM.length=S:=WI.sl;have R:=WI.sr who x ops hx ho;have lH:=WI.IM hx ho;obtain ⟨bw,ow,rfl,fK,hwc⟩:=hW (by rw [WI.wk.wl];omega)
 obtain ⟨A',c',rr,yN⟩:=hwc who ops ho;clear hwc hW;have mx:Below w.heap.size w (w.alloc (ag (cK (some ⟨bw,ow,none⟩) S cw T m d s0 s1 s2) 26)):=aB (Below.refl w.heap.size w) _;have k0:=Bk.made w 26 (cK (some ⟨bw,ow,none⟩) S cw T m d s0 s1 s2);replace X:=X.ay mx;have Ml:jW B w (w.alloc (ag (cK (some ⟨bw,ow,none⟩) S cw T m d s0 s1 s2) 26)):=.aS mx hBW;rw [<- cO mx zO] at rr;replace yN:=yN.below (mx.mono hBW);obtain ⟨cs,iV⟩:=X.aM;have XS:=iV.at_ who x hx;have kS:=iV.row;obtain ⟨Gl,cl,hlc,uM⟩:=XS.log;obtain ⟨Gs,vF,tT,hso⟩:=XS.steps;obtain ⟨gv,hgc,Gg,cg,rfl,hgn,oe⟩:=XS.gone;have qN:bN (w.alloc (ag (cK (some ⟨bw,ow,none⟩) S cw T m d s0 s1 s2) 26)) (.slice Gg x.gone.length cg) x.gone:=⟨Gg,cg,rfl,hgn,oe⟩;clear hgn oe;have c0:(w.alloc (ag (cK (some ⟨bw,ow,none⟩) S cw T m d s0 s1 s2) 26)).cell? ⟨gs,who * 5,none⟩=some (aa ab x.pos):=by rw [kS.cell];exact XS.at_
 have c1:(w.alloc (ag (cK (some ⟨bw,ow,none⟩) S cw T m d s0 s1 s2) 26)).cell? ⟨gs,who * 5+1,none⟩=some (.slice Gl x.log.length cl):=by rw [kS.cell];exact hlc
 have c2:(w.alloc (ag (cK (some ⟨bw,ow,none⟩) S cw T m d s0 s1 s2) 26)).cell? ⟨gs,who * 5+2,none⟩=some (.slice Gs x.steps.length vF):=by rw [kS.cell];exact tT
 have c3:(w.alloc (ag (cK (some ⟨bw,ow,none⟩) S cw T m d s0 s1 s2) 26)).cell? ⟨gs,who * 5+3,none⟩=some (.slice Gg x.gone.length cg):=by rw [kS.cell];exact hgc
 have c4:(w.alloc (ag (cK (some ⟨bw,ow,none⟩) S cw T m d s0 s1 s2) 26)).cell? ⟨gs,who * 5+4,none⟩=some (aa ab x.made):=by rw [kS.cell];exact XS.made
 have c5:(w.alloc (ag (cK (some ⟨bw,ow,none⟩) S cw T m d s0 s1 s2) 26)).cell? ⟨gt,26,none⟩=some (af (some ⟨gs,0,none⟩) S S):=by rw [X.tab.cell,qP];rfl
 have c6:(w.alloc (ag (cK (some ⟨bw,ow,none⟩) S cw T m d s0 s1 s2) 26)).cell? ⟨w.heap.size,0,none⟩=some (af (some ⟨bw,ow,none⟩) S cw):=by rw [k0.cell];rfl
 have j0:decide ((who:Int) < 0)=false:=zS;have j1:decide ((S:Int)<=who)=false:=by simp;omega
 have j2:(who:Int) < S:=zO;have lT:=X.tab.lt;have nX:(w.alloc (ag (cK (some ⟨bw,ow,none⟩) S cw T m d s0 s1 s2) 26)).heap.size=w.heap.size+1:=zS;have gtlt:gt < w.heap.size:=by
  have:=lT;simp at this;rcases Nat.lt_or_ge gt w.heap.size with h | h
  ·exact h
  ·exfalso
   have e:gt=w.heap.size:=zO;subst e;have:=X.tab;rw [Bk,k0] at this;injection this with this;injection this with _ e _;revert e;decide
 have HX:=ar X;have HOPS:=ar yN;have HLO:=ar uM;have HSO:=ar hso;have HGO:=ar qN;have HTS:=ar Ml;clear iV XS kS hlc tT hgc X yN uM hso qN Ml;go_enter Tryz.func9,Tryz.ntmps9
 go_upto_region 4 with fail
 generalize w.alloc (ag (cK (some ⟨bw,ow,none⟩) S cw T m d s0 s1 s2) 26)=wA at *;have hAx:Below wA.heap.size wA (wA.alloc (ag #[aa ab x.pos,.slice Gl x.log.length cl,.slice Gs x.steps.length vF,.slice Gg x.gone.length cg,aa ab x.made] 46)):=aB (Below.refl _ _) _;have gxlt:gs < wA.heap.size/\gt < wA.heap.size:=by
  obtain ⟨DL,iV⟩:=HX.out.aM;exact ⟨iV.row.lt,HX.out.tab.lt⟩
 obtain ⟨gx,hgx⟩:∃ g,w.heap.size+1=g:=⟨_,rfl⟩;rw [nX] at gxlt;have H:WyH w (wA.alloc (ag #[aa ab x.pos,.slice Gl x.log.length cl,.slice Gs x.steps.length vF,.slice Gg x.gone.length cg,aa ab x.made] 46)) B gt gs gx bw ow S cw m d s0 s1 s2 who T A' c' ops Gl cl Gs vF Gg cg x mv ev cv t:=
  ⟨by rw [<- hgx];exact Bk.new wA nX 46 #[aa ab x.pos,.slice Gl x.log.length cl,.slice Gs x.steps.length vF,.slice Gg x.gone.length cg,aa ab x.made],k0.alloc _,aB mx _,(cO hAx (bg fK (aQ hBW mx.size))).trans rr,⟨fK,hBW⟩,zO,HX.out.ay hAx,HOPS.out.below (hAx.mono (aQ hBW mx.size)),bc HLO.out hAx,bc HSO.out hAx,HGO.out.ay hAx,HTS.out.trans (.aS hAx (aQ hBW mx.size))⟩
 clear c0 c1 c2 c3 c4 c5 c6 rr HX HOPS HLO HSO HGO HTS lT k0 mx hAx gxlt gtlt hBW fK;generalize wA.alloc (ag #[aa ab x.pos,.slice Gl x.log.length cl,.slice Gs x.steps.length vF,.slice Gg x.gone.length cg,aa ab x.made] 46)=wB at *;rw [hgx];clear hgx nX;refine aP (S:=fun w'=>Below wB.drew.heap.size wB.drew w') (E:=fun _=>false) zK ?_
 replace H:=H.ay (aU (Below.refl _ wB));generalize wB.drew=wC at *
 cases hp:ops[x.pos]? with
 | none=>
  have j3:ops.length<=x.pos:=List.getElem?_eq_none_iff.1 hp;refine wTk 9 [(0,44,ae (some ⟨gx,0,none⟩)),(1,45,aa ab x.pos),(2,46,ae (some ⟨w.heap.size,0,none⟩)),(3,47,af (some ⟨bw,ow,none⟩) S cw),(4,48,aa ab who),(5,49,ae (some ⟨bw,ow+who,none⟩)),(6,50,.slice A' ops.length c'),(7,51,aa ab ops.length),(8,52,ah true)] ?_ (Below.refl _ _) ?_
  ·intro w' hS;have H':=H.ay hS;have c0:=H'.kx.cell 0;have c1:=H'.k0.cell 0;have c2:=H'.cw2;simp at c0 c1
   (repeat' (first | exact aC | refine au ⟨_,rfl,.inl ⟨rfl,?_⟩⟩ ?_))
   all_goals exact zG
  simp only [aR,Act.put,aj,ak,al];refine aN zK ?_ _
  go_wp2_with fail
  go_ret
  unfold lQ;rw [tq hx ho hp];exact ⟨rfl,⟨gs,mv,ev,cv,H.X⟩,H.ts⟩
 | some op=>
  have dN:=(a8.1 hp).1;have j3:¬ ops.length<=x.pos:=zO;refine wTk 9 [(0,44,ae (some ⟨gx,0,none⟩)),(1,45,aa ab x.pos),(2,46,ae (some ⟨w.heap.size,0,none⟩)),(3,47,af (some ⟨bw,ow,none⟩) S cw),(4,48,aa ab who),(5,49,ae (some ⟨bw,ow+who,none⟩)),(6,50,.slice A' ops.length c'),(7,51,aa ab ops.length),(8,52,ah false)] ?_ (Below.refl _ _) ?_
  ·intro w' hS;have H':=H.ay hS;have c0:=H'.kx.cell 0;have c1:=H'.k0.cell 0;have c2:=H'.cw2;simp at c0 c1
   (repeat' (first | exact aC | refine au ⟨_,rfl,.inl ⟨rfl,?_⟩⟩ ?_))
   all_goals exact zG
  simp only [aR,Act.put,aj,ak,al];refine aN zK ?_ _;clear j3
  go_upto_region 6 with fail
  obtain ⟨bo,oo,rfl,p9,A0⟩:=H.op zO;refine aP (S:=fun w'=>Below wC.drew.heap.size wC.drew w') (E:=fun _=>false) zK ?_
  replace H:=H.ay (aU (Below.refl _ wC));have A0:=(A0 x.pos op hp);replace A0:(wC.drew.cell? ⟨bo,oo+x.pos * 4,none⟩=some (aa ab op.kind))/\(wC.drew.cell? ⟨bo,oo+x.pos * 4+1,none⟩=some (aa ab op.obj))/\(wC.drew.cell? ⟨bo,oo+x.pos * 4+2,none⟩=some (aa ab op.a))/\(wC.drew.cell? ⟨bo,oo+x.pos * 4+3,none⟩=some (aa ab op.b)):=A0;have Ob:bo < wC.drew.heap.size:=bg p9 (aQ H.bB.2 H.bl.size);generalize wC.drew=wD at *;have j4:(x.pos:Int) < ops.length:=zO;have HXX:=H.kx.lt;refine wTk 9 [(0,53,ae (some ⟨w.heap.size,0,none⟩)),(1,54,af (some ⟨bw,ow,none⟩) S cw),(2,55,aa ab who),(3,56,ae (some ⟨bw,ow+who,none⟩)),(4,57,af (some ⟨bo,oo,none⟩) ops.length c'),(5,58,ae (some ⟨gx,0,none⟩)),(6,59,aa ab x.pos),(7,60,ae (some ⟨bo,oo+x.pos * 4,none⟩)),(8,61,.agg #[aa ab op.kind,aa ab op.obj,aa ab op.a,aa ab op.b])] ?_ (Below.refl _ _) ?_
  ·intro w' hS;have H':=H.ay hS;have c0:=H'.kx.cell 0;have c1:=H'.k0.cell 0;have c2:=H'.cw2;simp at c0 c1;have d0:=(cO hS Ob).trans A0.1;have d1:=(cO hS Ob).trans A0.2.1;have d2:=(cO hS Ob).trans A0.2.2.1;have d3:=(cO hS Ob).trans A0.2.2.2;clear H H'
   (repeat' (first | exact aC | refine au ⟨_,rfl,.inl ⟨rfl,?_⟩⟩ ?_))
   all_goals exact zG
  simp only [aR,Act.put,aj,ak,al];refine aE (i:=9) (o:=_) zK rfl (fun K hK=>?_)
  (try simp only [aq,ao,an])
  go_simp;have kO:=Bk.made wD 54 #[aa ab 0,aa ab 0,aa ab 0,aa ab 0];have hbD:=aB (Below.refl wD.heap.size wD) (ag #[aa ab 0,aa ab 0,aa ab 0,aa ab 0] 54);refine hK.out _ _ (fun _=>hbD) ?_
  clear hK K;generalize wD.alloc (ag #[aa ab 0,aa ab 0,aa ab 0,aa ab 0] 54)=wE at *;obtain ⟨gO,hgO⟩:∃ z,wD.heap.size=z:=⟨_,rfl⟩;have HGO:=ar hgO;rw [hgO] at kO;refine aE (i:=10) (o:=_) zK rfl (fun K hK=>?_)
  (try simp only [aq,ao,an])
  rw [hgO];refine dH 54 (.tmp 8) (.tmp 61) rfl gO _ rfl rfl 54 #[aa ab 0,aa ab 0,aa ab 0,aa ab 0] kO zK rfl (by simp [aD]) ?_
  have hbE:Below wD.heap.size wD (wE.setRow gO #[aa ab op.kind,aa ab op.obj,aa ab op.a,aa ab op.b]):=hbD.trans (fC (Nat.le_of_eq hgO) _);replace kO:Bk (wE.setRow gO #[aa ab op.kind,aa ab op.obj,aa ab op.a,aa ab op.b]) gO 54 #[aa ab op.kind,aa ab op.obj,aa ab op.a,aa ab op.b]:=Cm _ _ _ _ _ _ kO;refine hK.out _ _ (fun _=>hbE) ?_
  clear hK K hbD;generalize wE.setRow gO #[aa ab op.kind,aa ab op.obj,aa ab op.a,aa ab op.b]=wF at *
  (try simp only [Act.put,aj,ak,al])
  refine aN zK ?_ _;replace H:=H.ay hbE;have Jg:gx < gO:=by rw [<- hgO];exact HXX
  clear hbE hgO A0 Ob j4
  go_upto_region 7 with fail
  have HTn:=WI.xp hx ho hp zO;obtain ⟨qq,wV⟩:∃ z,anP who op.a (pz S op x)=z:=⟨_,rfl⟩;have I9:qq=qB (2 * (lyW S).c.aM) (lyW S).c.buckets who op (gz op x.gone) x.log:=wV.symm.trans (WI.run hx).symm;have gq:qq≠ .stuck:=by
   rw [<- wV];rcases HTn.2 with ⟨y,e,-⟩ | ⟨y,e,-⟩ <;> rw [e] <;> simp [anP]
  have hgo2:∀ o,qq= .fin o->o.gone.length<=1000:=by
   intro o e;rw [<- wV] at e;rcases HTn.2 with ⟨y,e2,-⟩ | ⟨y,e2,-,h6,-⟩
   ·rw [e2] at e;simp [anP] at e
   ·rw [e2] at e;simp only [anP,An.fin.injEq] at e;subst e;omega
  have hbig:∀ r∈x.log,-4611686018427387904<=r.1/\r.1<=4611686018427387904:=fun r hr=>R.big r hr
  have HL:=ar (au I9 (au gq (au hgo2 (au hbig (au R.ll (au R.gl HTn.1))))));have LT:=ar (xL h1 h3);have HTN:=ar HTn.2;have HR:=ar R;have Ec:=ar wV;clear I9 gq hgo2 hbig HTn R wV;refine aP (S:=fun w'=>Below wF.drew.heap.size wF.drew w') (E:=fun _=>false) zK ?_
  replace H:=H.ay (aU (Below.refl _ wF));replace kO:=kO.drew;generalize wF.drew=wG at *;refine wTk 8 [(0,63,ae (some ⟨gt,0,none⟩)),(1,64,ae (some ⟨gt,0,none⟩)),(2,65,ae (some ⟨gt,0,none⟩)),(4,67,aa ab who),(5,68,ae (some ⟨gx,3,none⟩)),(6,69,.slice Gg x.gone.length cg),(8,71,ae (some ⟨gx,1,none⟩)),(9,72,.slice Gl x.log.length cl)] ?_ (Below.refl _ _) ?_
  ·intro w' hS;have H':=H.ay hS;have c0:=H'.kx.cell 3;have c1:=H'.kx.cell 1;simp at c0 c1;clear H H'
   (repeat' (first | exact aC | refine au ⟨_,rfl,.inl ⟨rfl,?_⟩⟩ ?_))
   all_goals exact zG
  simp only [aR,Act.put,aj,ak,al];refine wTk 1 [(3,66,lyV (lyW S))] ?_ (Below.refl _ _) ?_
  ·intro w' hS;have fg:(dr 34 ⟨gt,0,none⟩).run aw w'= .ok (lyV (lyW S)) w':=dy w' gt 0 34 (lyC (lyW S)) _ (H.ay hS).X.lay aJ rfl zK
   (repeat' (first | exact aC | refine au ⟨_,rfl,.inl ⟨rfl,?_⟩⟩ ?_))
   all_goals exact list.bI rfl rfl fg
  simp only [aR,Act.put,aj,ak,al];refine wTk 1 [(7,70,.agg (eg op))] ?_ (Below.refl _ _) ?_
  ·intro w' hS;have fg:(dr 54 ⟨gO,0,none⟩).run aw w'= .ok (.agg (eg op)) w':=be w' gO 54 54 (eg op) (0,0) _ (kO.ay hS) Tryz.underlying54 rfl zK
   (repeat' (first | exact aC | refine au ⟨_,rfl,.inl ⟨rfl,?_⟩⟩ ?_))
   all_goals exact list.bI rfl rfl fg
  simp only [aR,Act.put,aj,ak,al];refine ma (U:=[10,11,12,13,14,15,16,17,18,19]) (tmp:=Be) (pre:=c3P 10) (T:=fun w'=>Below wG.heap.size wG w') (N:=fun _ _=>True) (G:=c3G 10 wG.heap.size 67 70) (R:=c3R 10 wG.heap.size 67 70 bW aZ (NxX (lyW S) qq)) zK (fun _ _=>rfl) (fun w2 h=>h) (Below.refl _ _) (fun i hi w3 w4 h1 h2=>zw h1 h2) (fun _ _=>trivial) (fun _ _ _ _ _ _ _ _ _ _=>trivial)
   (fun i hi j hj oP oZ v u w3 w4 hT hvi Ah hp hr hg=>zx zD (Nd (lyW S) qq) oP hvi Ah hr hg) (fun i hi o ho oZ w3 K qD hT _ cd hK=>?_) 0 (fun oZ wH bS hT=>?_)
  ·simp only [bD,cB,or_false] at hi;rcases hi with rfl | rfl | rfl | rfl | rfl | rfl | rfl | rfl | rfl | rfl
   ·obtain rfl:=aT ho;simp only [show c3P 10 10=[] from rfl,bq] at hK ⊢
    go_simp;have H3:=H.ay hT;have hd:=onext (lyW S) who op x.gone (.slice Gg x.gone.length cg) Gl cl x.log w3 LT.out HL.out.2.2.2.2.2.2 H3.go (by have:=HL.out.2.2.2.2.2.1;omega) (KU H3.lo) (by have:=HL.out.2.2.2.2.1;omega) (own_cap H3.lo) HL.out.2.2.2.1 qq HL.out.1 HL.out.2.1 HL.out.2.2.1
    (with_reducible refine hd.mono ?_)
    intro e w4 hpost;obtain ⟨c1,c2,v3,rfl,hx9,hb⟩:=Nc hpost;exact hK _ _ ⟨c1,c2,v3,rfl,hx9⟩ hb
   ·obtain rfl:=aT ho;obtain ⟨v0,e0,d1,d2,d3,rfl,oR⟩:=cd 10 (by simp [c3P])
    simp only [show c3P 10 11=[10] from rfl,bq,e0,Be] at hK ⊢
    go_simp;exact hK _ _ ⟨d1,d2,d3,rfl,by simp only [upd];exact e0⟩ (Below.refl _ _)
   ·obtain rfl:=aT ho;obtain ⟨v1,e1,d1,d2,d3,rfl,e0⟩:=cd 11 (by simp [c3P])
    simp only [show c3P 10 12=[11] from rfl,bq,e1,Be] at hK ⊢
    go_simp;exact hK _ _ ⟨d1,d2,d3,by simp only [upd];exact e0,rfl⟩ (Below.refl _ _)
   ·obtain rfl:=aT ho;obtain ⟨v1,e1,d1,d2,d3,rfl,e0⟩:=cd 11 (by simp [c3P])
    simp only [show c3P 10 13=[11] from rfl,bq,e1,Be] at hK ⊢
    go_simp;exact hK _ _ ⟨d1,d2,d3,by simp only [upd];exact e0,rfl⟩ (Below.refl _ _)
   ·obtain rfl:=aT ho;obtain ⟨v1,e1,d1,d2,d3,rfl,e0⟩:=cd 11 (by simp [c3P])
    simp only [show c3P 10 14=[11] from rfl,bq,e1,Be] at hK ⊢
    go_simp;exact hK _ _ ⟨d1,d2,d3,by simp only [upd];exact e0,rfl⟩ (Below.refl _ _)
   ·obtain rfl:=aT ho;simp only [show c3P 10 15=[] from rfl,bq] at hK ⊢
    go_simp;exact hK _ _ ⟨_,rfl,hT.size,fun _=>Bk.made _ _ _⟩ (aB (Below.refl _ _) _)
   ·obtain rfl:=aT ho;simp only [show c3P 10 16=[] from rfl,bq] at hK ⊢
    go_simp;exact hK _ _ ⟨_,rfl,hT.size,fun _=>Bk.made _ _ _⟩ (aB (Below.refl _ _) _)
   ·obtain rfl:=aT ho;obtain ⟨v0,e0,d1,d2,d3,rfl,oR⟩:=cd 10 (by simp [c3P])
    obtain ⟨v2,e2,f1,f2,f3,jh,rfl⟩:=cd 12 (by simp [c3P])
    rw [e0] at jh;obtain ⟨rfl,rfl,rfl⟩:=dz jh;obtain ⟨v5,e5,ga,rfl,jQ,k5⟩:=cd 15 (by simp [c3P])
    have ka:=k5 qD;obtain ⟨ck,cc,co,cv2,val,is,er,pt,gG,gn,gc,dn,rfl,rfl,rfl,hX1⟩:=oR;simp only [show c3P 10 17=[10,12,15] from rfl,bq,e0,e2,e5,Be] at hK ⊢
    (try simp only [aq,ao,an])
    refine dH 67 (.tmp 9) (.tmp 74) rfl ga _ rfl rfl 67 bW ka zK rfl (by simp [aD]) ?_
    exact hK undef _ ⟨ga,_,_,_,by simp only [upd];exact e0,by simp only [upd];exact e5,jQ,Cm _ _ _ _ _ _ ka⟩ ⟨iS ka,fC jQ _⟩
   ·obtain rfl:=aT ho;obtain ⟨v0,e0,d1,d2,d3,rfl,oR⟩:=cd 10 (by simp [c3P])
    obtain ⟨v2,e2,f1,f2,f3,jh,rfl⟩:=cd 13 (by simp [c3P])
    rw [e0] at jh;obtain ⟨rfl,rfl,rfl⟩:=dz jh;obtain ⟨v5,e5,ga,rfl,jQ,k5⟩:=cd 16 (by simp [c3P])
    have ka:=k5 qD;obtain ⟨ck,cc,co,cv2,val,is,er,pt,gG,gn,gc,dn,rfl,rfl,rfl,hX1⟩:=oR;simp only [show c3P 10 18=[10,13,16] from rfl,bq,e0,e2,e5,Be] at hK ⊢
    (try simp only [aq,ao,an])
    refine dH 70 (.tmp 10) (.tmp 75) rfl ga _ rfl rfl 70 aZ ka zK rfl (by simp [aD]) ?_
    exact hK undef _ ⟨ga,_,_,_,by simp only [upd];exact e0,by simp only [upd];exact e5,jQ,Cm _ _ _ _ _ _ ka⟩ ⟨iS ka,fC jQ _⟩
   ·obtain rfl:=aT ho;obtain ⟨v4,e4,f1,f2,f3,e4',rfl⟩:=cd 14 (by simp [c3P])
    simp only [show c3P 10 19=[14] from rfl,bq,e4,Be] at hK ⊢
    go_simp;exact hK _ _ ⟨_,_,_,by simp only [upd];exact e4',rfl⟩ (Below.refl _ _)
  obtain ⟨v0,e0,d1,d2,d3,rfl,oR⟩:=bS 10 zS;obtain ⟨v1,e1,f1,f2,f3,rfl,Ki⟩:=bS 11 zS;rw [e0] at Ki;obtain ⟨rfl,rfl,rfl⟩:=dz Ki;obtain ⟨v2,e2,f1,f2,f3,jh,rfl⟩:=bS 12 zS;rw [e0] at jh;obtain ⟨rfl,rfl,rfl⟩:=dz jh;obtain ⟨v3,e3,f1,f2,f3,jh,rfl⟩:=bS 13 zS;rw [e0] at jh;obtain ⟨rfl,rfl,rfl⟩:=dz jh;obtain ⟨v4,e4,f1,f2,f3,jh,rfl⟩:=bS 14 zS;rw [e0] at jh;obtain ⟨rfl,rfl,rfl⟩:=dz jh;obtain ⟨v5,e5,Kf,rfl,N5,-⟩:=bS 15 zS;obtain ⟨v6,e6,ta,rfl,N4,-⟩:=bS 16 zS;obtain ⟨v7,e7,gb0,f1,f2,f3,jh,zd,-,uJ⟩:=bS 17 zS;rw [e0] at jh;obtain ⟨rfl,rfl,rfl⟩:=dz jh;rw [e5] at zd;obtain rfl:=oz zd;obtain ⟨v8,e8,gb1,f1,f2,f3,jh,zd,-,iO⟩:=bS 18 zS;rw [e0] at jh;obtain ⟨rfl,rfl,rfl⟩:=dz jh;rw [e6] at zd;obtain rfl:=oz zd;obtain ⟨v9,e9,f1,f2,f3,jh,rfl⟩:=bS 19 zS;rw [e0] at jh;obtain ⟨rfl,rfl,rfl⟩:=dz jh;clear bS;refine aN (by simp only [dC,e0,e1,e2,e3,e4,e5,e6,e7,e8,e9,gQ,if_true];kernel_rfl) ?_ _
  simp only [bq,e0,e1,e2,e3,e4,e5,e6,e7,e8,e9,Be];clear e0 e1 e2 e3 e4 e5 e6 e7 e8 e9
  (try simp only [Act.put,aj,ak,al,iL])
  obtain ⟨ck,cc,co,cv2,val,is,er,pt,gG,gn,gc,dn,rfl,rfl,rfl,hX1⟩:=oR;have jQ:gO < Kf/\gO < ta:=by have:=kO.lt;omega
  replace H:=H.ay hT;replace kO:=kO.ay hT;clear hT Ki jh zd N5 N4;dsimp only [Exit.then]
  apply_assumption
  rcases hX1 with ⟨a,hq,rfl,rfl,rfl,rfl,rfl⟩ | ⟨o,hq,rfl,rfl,rfl,rfl,rfl,qN⟩
  ·have tR:ff (lyW S) want who t=(tN (lyW S) who x a t,false):=by
    unfold ff;rw [hx,ho];simp only [hp];rw [WI.run hx,Ec.out,hq]
   have hao:O1 S t g a:=by
    rcases HTN.out with ⟨y,e,-,h6,-⟩ | ⟨o2,e,-⟩
    ·have h7:=Ec.out;rw [e,hq] at h7;simp only [anP,An.ask.injEq] at h7;subst h7;exact h6
    ·exfalso;have:=Ec.out;rw [e,hq] at this;simp [anP] at this
   exact turn_A H kO jQ Jg qP om h1 h3 hN hC hx HR.out uJ tR hao WI.wk.gl WI.mr
  ·have tR:ff (lyW S) want who t=(yY who x op o t,true):=by
    unfold ff;rw [hx,ho];simp only [hp];rw [WI.run hx,Ec.out,hq]
   have hfo:pz S op x= .out o/\x.log≠[]:=by
    rcases HTN.out with ⟨y,e,-⟩ | ⟨o2,e,h6,-⟩
    ·exfalso;have:=Ec.out;rw [e,hq] at this;simp [anP] at this
    ·have h7:=Ec.out;rw [e,hq] at h7;simp only [anP,An.fin.injEq] at h7;subst h7;exact ⟨e,h6⟩
   have Jb:-(x.steps.length:Int) - 2<=o.aH:=by rw [HR.out.sl];exact curW_lo hfo.1
   exact turn_F H kO jQ Jg qP om h1 h3 hN hC hx HR.out iO qN tR Jb hfo.2 zO
theorem vU (l:Ly) (want:List (List Opr)) (stops:List Nat):∀ (us:List Nat) (u:Nat) (t:dG),fW l want stops (us++[u]) t=(if iY stops (u % want.length) (fW l want stops us t) then fW l want stops us t else (ff l want (u % want.length) (fW l want stops us t)).1)
 | [],u,t=>rfl
 | a :: us,u,t=>by
  rw [List.cons_append];unfold fW;exact vU l want stops us u _
theorem ou (l:Ly) (want:List (List Opr)) (who:Nat) (t:dG):(ff l want who t).1.calls.length<=t.calls.length+1:=by
 unfold ff
 (repeat' split) <;> simp [tN,yY]
theorem ua (l:Ly) (want:List (List Opr)) (stops:List Nat):∀ (us:List Nat) (t:dG),(fW l want stops us t).calls.length<=t.calls.length+us.length
 | [],t=>by simp [fW]
 | u :: us,t=>by
  unfold fW;have h1:=ou l want (u % want.length) t;refine aQ (ua l want stops us _) ?_;split <;> simp only [List.length_cons] <;> omega
structure rJ (w:World) (B:Nat) (want:List (List Opr)) (turns:List Nat) (S:Nat) (A T:Option Addr) (m s0 s1 s2:Nat):Prop where
 W:mB w B A want
 T:zF w B T turns
 wl:want.length=S
 tl:turns.length=m
 m2:m<=200
 S1:1<=S
 S3:S<=3
 ok:∀ ops∈want,ops.length<=3/\∀ op∈ops,zH op
 st:s0 < 256/\s1 < 256/\s2 < 256
theorem rJ.below {w w':World} {B:Nat} {want:List (List Opr)} {turns:List Nat} {S:Nat} {A T:Option Addr} {m s0 s1 s2:Nat} (h:rJ w B want turns S A T m s0 s1 s2) (hb:Below B w w'):rJ w' B want turns S A T m s0 s1 s2:=
 ⟨h.W.below hb,h.T.below hb,h.wl,h.tl,h.m2,h.S1,h.S3,h.ok,h.st⟩
theorem lW.lt {w:World} {B gt:Nat} {l:Ly} {t:dG} (h:lW w B gt l t):gt < w.heap.size:=by
 obtain ⟨gs,mv,ev,cv,h⟩:=h;exact h.tab.lt
theorem lW.bad {w:World} {B gt:Nat} {l:Ly} {t:dG} (h:lW w B gt l t):w.cell? ⟨gt,30,none⟩=some (ah false):=by
 obtain ⟨gs,mv,ev,cv,h⟩:=h;rw [h.tab.cell];rfl
theorem tX {want:List (List Opr)} {S:Nat} (hl:want.length=S) (h1:1<=S) (h3:S<=3) (hw:∀ ops∈want,ops.length<=3/\∀ op∈ops,zH op) (stops us:List Nat) (hu:us.length<=200):WE S want (fW (lyW S) want stops us (ni S))/\(fW (lyW S) want stops us (ni S)).events.length<=us.length/\(fW (lyW S) want stops us (ni S)).calls.length<=us.length:=by
 subst hl;have h0:WE want.length want (ni want.length):=⟨_,_,_,winv0 h1 h3 hw⟩;obtain ⟨a,b⟩:=WE.turns (stops:=stops) rfl h1 us _ h0 (by show (0:Nat)+_<=_;omega)
 refine ⟨a,by simpa [ni] using b,?_⟩
 have:=ua (lyW want.length) want stops us (ni want.length)
 simpa [ni] using this
theorem tm {want:List (List Opr)} {turns:List Nat} {S:Nat} {A T:Option Addr} {cw m d s0 s1 s2:Nat} {w:World} (P:rJ w w.heap.size want turns S A T m s0 s1 s2):
  Calls aw 8 #[.agg (cK A S cw T m d s0 s1 s2)] w fun e w'=>∃ gt,e=ai (ae (some ⟨gt,0,none⟩))/\lW w' w.heap.size gt (lyW S) (fW (lyW S) want [s0,s1,s2] turns (ni S))/\Below w.heap.size w w':=by
 have k0:=Bk.made w 26 (cK A S cw T m d s0 s1 s2);have mx:=aB (Below.refl w.heap.size w) (ag (cK A S cw T m d s0 s1 s2) 26);have PO:=ar P;have h1:=P.S1;have h3:=P.S3;have J7:=P.m2;clear P;go_enter Tryz.func8,Tryz.ntmps8
 go_wp2_with (refine aL rfl 26 (.tmp 1) rfl w.heap.size rfl 26 (cK A S cw T m d s0 s1 s2) (0,0) _ k0 fA rfl zK ?_)
 generalize w.alloc (ag (cK A S cw T m d s0 s1 s2) 26)=w1 at *
 (with_reducible refine (Ir S h1 h3 A T cw m d s0 s1 s2 _).mono ?_)
 rintro e w2 ⟨gt,rfl,hT,hb⟩;replace k0:=k0.ay hb;have hT0:lW w2 w.heap.size gt (lyW S) (ni S):=by
  obtain ⟨gs,mv,ev,cv,X⟩:=hT;exact ⟨gs,mv,ev,cv,⟨aQ mx.size X.bt,aQ mx.size X.bs,X.tab,X.aM,X.mem,eI X.ev mx.size,eI X.calls mx.size⟩⟩
 have Ml:jW w.heap.size w w2:=.aS (aF mx hb) (az _);clear hT hb mx
 go_wp2_with fail
 go_loopw [4] (fun v4 wr=>∃ k:Nat,k<=turns.length/\v4=aa ab (k:Nat)/\jW w.heap.size w2 wr/\lW wr w.heap.size gt (lyW S) (fW (lyW S) want [s0,s1,s2] (turns.take k) (ni S))) (fun v4 _=>turns.length - (intOf v4).toNat)
 case atStart=>exact ⟨0,aY _,rfl,jW.refl _ _,by simpa [fW] using hT0⟩
 case round=>
  obtain ⟨k,hk,rfl,ts,hT⟩:=hrel;have kP:=ts.ay k0 ⟨zD,zD,zD,zD⟩;have P:=PO.out.below (Ml.trans ts).below;have q1:=kP.cell 1;have qb:=hT.bad;have lT:=hT.lt;simp at q1;have hm:turns.length=m:=PO.out.tl;clear hT0
  by_cases dN:k < turns.length
  ·have g1:decide ((k:Int) < m)=true:=by simp;omega
   have g1n:k < m:=zO;obtain ⟨tk,oO⟩:∃ u,turns[k]? =some u:=⟨_,aO dN⟩;obtain ⟨bT,oT,rfl,hbT,hTc⟩:=P.T zO;obtain ⟨cT,tk256⟩:=hTc k tk oO;have Lc:=tX P.wl h1 h3 P.ok [s0,s1,s2] (turns.take k) (by rw [jM];omega)
   have hlen:(turns.take k).length=k:=by rw [jM];omega
   rw [hlen] at Lc;obtain ⟨who,om⟩:∃ z,tk % S=z:=⟨_,rfl⟩;have hwlt:who < S:=by rw [<- om];exact Nat.mod_lt _ h1
   have xx:=vU (lyW S) want [s0,s1,s2] (turns.take k) tk (ni S);have htk1:turns.take (k+1)=turns.take k++[tk]:=by rw [j7,oO];rfl
   rw [<- htk1,P.wl,om] at xx;obtain ⟨tt,tR⟩:∃ z,fW (lyW S) want [s0,s1,s2] (turns.take k) (ni S)=z:=⟨_,rfl⟩;rw [tR] at xx Lc hT;have hrm:(tk:Int).tmod (S:Int)=who:=by rw [Int.tmod_eq_emod_of_nonneg zO,<- om];omega
   have BS:¬ S=0:=zO;have hwv:IntKind.i64.wrap (tk:Int)=tk:=cV _ zO;have j1:(k:Int) < m:=zO;have HSN:=ar (au xx (au Lc hwlt));clear xx Lc dN om
   go_upto_region 5 with fail
   clear q1 qb g1 g1n;refine aP (S:=fun w'=>Below wr.drew.heap.size wr.drew w') (E:=fun _=>false) zK ?_
   have dD:=aU (Below.refl wr.heap.size wr);replace hT:=hT.ay dD;replace kP:=kP.ay dD;have ts':=ts.trans (.aS dD (show w.heap.size<=wr.heap.size from Nat.le_of_lt kP.lt))
   have hbTr:bT < wr.heap.size:=by have:=kP.lt;have:wr.drew.heap.size=wr.heap.size:=rfl;omega
   replace cT:=(cO dD hbTr).trans cT;replace hbTr:=bg hbTr dD.size;clear dD ts;generalize wr.drew=w4 at *;refine wTk 11 [(0,22,ae (some ⟨w.heap.size,1,none⟩)),(1,23,af (some ⟨bT,oT,none⟩) m d),(2,24,aa ab (k:Nat)),(3,25,ae (some ⟨bT,oT+k,none⟩)),(4,26,.int .u8 (tk:Nat)),(5,27,aa ab (tk:Nat)),(6,28,ae (some ⟨w.heap.size,0,none⟩)),(7,29,.slice A S cw),(8,30,aa ab S),(9,31,aa ab (who:Nat)),(10,5,aa ab (who:Nat))] ?_ (Below.refl _ _) ?_
   ·intro w' hS;have c0:=(kP.ay hS).cell 0;have c1:=(kP.ay hS).cell 1;have c2:=(cO hS hbTr).trans cT;simp at c0 c1;clear hT
    (repeat' (first | exact aC | refine au ⟨_,rfl,.inl ⟨rfl,?_⟩⟩ ?_))
    all_goals exact zG
   simp only [aR,Act.put,aj,ak,al];refine aN zK ?_ _;clear hrm BS hwv cT
   go_wp2_with (refine aL rfl 26 (.tmp 1) rfl w.heap.size rfl 26 (cK A S cw (some ⟨bT,oT,none⟩) m d s0 s1 s2) (0,0) _ kP fA rfl zK ?_)
   have lg:tt.aM.length=S:=by obtain ⟨sm,g,q,W⟩:=HSN.out.2.1.1;exact W.sl
   (with_reducible refine (uR A S cw (some ⟨bT,oT,none⟩) m d s0 s1 s2 who w.heap.size gt (lyW S) tt _ hT (by rw [lg];exact HSN.out.2.2) (by rw [lg];exact h3) PO.out.st.1 PO.out.st.2.1 PO.out.st.2.2).mono ?_)
   rintro e w5 ⟨rfl,gS⟩;replace hT:=hT.ay gS;have Cs:w.heap.size<=w4.heap.size:=Nat.le_of_lt kP.lt;replace kP:=kP.ay gS;have ts5:=ts'.trans (.aS gS Cs);clear gS ts' Cs
   by_cases aG:iY [s0,s1,s2] who tt=true
   ·rw [aG]
    go_wp2_with fail
    have xx:=HSN.out.1;rw [if_pos aG] at xx;refine ⟨⟨k+1,zO,by go_num,ts5,by rw [xx];exact hT⟩,by simp [intOf];omega⟩
   ·have nM:iY [s0,s1,s2] who tt=false:=by simpa using aG
    rw [nM]
    go_wp2_with (refine aL rfl 26 (.tmp 1) rfl w.heap.size rfl 26 (cK A S cw (some ⟨bT,oT,none⟩) m d s0 s1 s2) (0,0) _ kP fA rfl zK ?_)
    obtain ⟨⟨sm,g,q,WI⟩,N9,hca⟩:=HSN.out.2.1;have P5:=PO.out.below (Ml.trans ts5).below
    (with_reducible refine (nh WI zO zO HSN.out.2.2 A (some ⟨bT,oT,none⟩) cw m d s0 s1 s2 _ hT (Nat.le_of_lt kP.lt) P5.W).mono ?_)
    rintro e w6 ⟨rfl,Eo,ts6⟩;have xx:=HSN.out.1;rw [if_neg (by rw [nM];decide)] at xx
    go_wp2_with fail
    refine ⟨⟨k+1,zO,by go_num,ts5.trans ts6,by rw [xx];exact Eo⟩,by simp [intOf];omega⟩
  ·obtain rfl:k=turns.length:=zO;have g1:decide ((turns.length:Int) < m)=false:=by simp;omega
   have g1n:¬ turns.length < m:=zO;rw [pL] at hT
   go_wp2_with fail
   go_ret
   exact ⟨gt,rfl,hT,(Ml.trans ts).below⟩
theorem yg (l:Ly) (want:List (List Opr)) (stops:List Nat) (all:Bool) (who:Nat):∀ (k:Nat) (t:dG),(fL l want stops all who k t).calls.length<=t.calls.length+k
 | 0,t=>az _
 | k+1,t=>by
  have h1:=ou l want who t;unfold fL;split
  ·omega
  ·split
   ·rename_i t' e;rw [e] at h1;simp only [] at h1;omega
   ·rename_i t' e;rw [e] at h1;have:=yg l want stops all who k t';simp only [] at h1;omega
def nG (l:Ly) (want:List (List Opr)) (stops:List Nat) (all:Bool) (who:Nat):Nat->dG->dG
 | 0,t=>t
 | k+1,t=>fL l want stops all who 2001 (nG l want stops all who k t)
theorem nF (l:Ly) (want:List (List Opr)) (stops:List Nat) (all:Bool) (who k:Nat) (t:dG):nG l want stops all who (k+1) t=fL l want stops all who 2001 (nG l want stops all who k t):=by rw [nG]
theorem JP (l:Ly) (want:List (List Opr)) (stops:List Nat) (all:Bool) (who:Nat) (t:dG):nG l want stops all who 3 t=nI l want stops all who t:=by rw [nF,nF,nF,nG,nI]
def nJ (l:Ly) (want:List (List Opr)) (stops:List Nat) (all:Bool) (j:Nat) (t:dG):dG:=(xF j).foldl (fun t who=>nI l want stops all who t) t
theorem yq (l:Ly) (want:List (List Opr)) (stops:List Nat) (all:Bool) (j:Nat) (t:dG):nJ l want stops all (j+1) t=nI l want stops all j (nJ l want stops all j t):=by
 unfold nJ;rw [List.range_succ,List.foldl_append];rfl
structure WB (S:Nat) (want:List (List Opr)) (E:Nat) (t:dG):Prop where
 we:WE S want t
 ev:t.events.length<=E
 ca:t.calls.length<=E
theorem WB.nG {S who E:Nat} {want:List (List Opr)} {stops:List Nat} {all:Bool} {t:dG} (h:WB S want E t) (hs:who < S) (hE:E+6003<=80000):∀ k,k<=3->WB S want (E+2001 * k) (Go.Proofs.YtikdaeddbkopeaaGreatR.nG (lyW S) want stops all who k t)
 | 0,_=>h
 | k+1,hk=>by
  have h2:=WB.nG (stops:=stops) (all:=all) h hs hE k zO;obtain ⟨a,b,-⟩:=WE.Iz (stops:=stops) (all:=all) h2.we hs (by have:=h2.ev;omega)
  have c:=yg (lyW S) want stops all who 2001 (Go.Proofs.YtikdaeddbkopeaaGreatR.nG (lyW S) want stops all who k t);have e1:=h2.ev;have e2:=h2.ca;rw [nF];exact ⟨a,aQ b zO,aQ c zO⟩
theorem WB.nJ {S E:Nat} {want:List (List Opr)} {stops:List Nat} {all:Bool} {t:dG} (h:WB S want E t) (hE:E+18009<=80000) (h3:S<=3):∀ j,j<=S->WB S want (E+6003 * j) (Go.Proofs.YtikdaeddbkopeaaGreatR.nJ (lyW S) want stops all j t)
 | 0,_=>h
 | j+1,hj=>by
  have h2:=WB.nJ (stops:=stops) (all:=all) h hE h3 j zO;rw [yq];have:=h2.nG (who:=j) (stops:=stops) (all:=all) zO zO 3 (az 3);rw [JP] at this;exact ⟨this.we,aQ this.ev zO,aQ this.ca zO⟩
theorem rN {want:List (List Opr)} {turns:List Nat} {S B gt E:Nat} {A T:Option Addr} {cw m d s0 s1 s2:Nat} {w:World} {t:dG} (all:Bool) (P:rJ w B want turns S A T m s0 s1 s2) (s9:B<=w.heap.size) (hT:lW w B gt (lyW S) t) (L3:WB S want E t) (hE:E+18009<=80000):
  Calls aw 10 #[ae (some ⟨gt,0,none⟩),.agg (cK A S cw T m d s0 s1 s2),.bool all] w fun e w'=>e=ai (.tuple #[])/\lW w' B gt (lyW S) (oy (lyW S) want [s0,s1,s2] all t)/\jW B w w':=by
 have k0:=Bk.made w 26 (cK A S cw T m d s0 s1 s2);have mx:=aB (Below.refl w.heap.size w) (ag (cK A S cw T m d s0 s1 s2) 26);have Ml:jW B w (w.alloc (ag (cK A S cw T m d s0 s1 s2) 26)):=.aS mx s9;replace hT:=hT.ay mx;have PO:=ar P;have h1:=P.S1;have h3:=P.S3;have HWB:=ar L3;clear P L3;obtain ⟨g0,N6⟩:∃ z,w.heap.size=z:=⟨_,rfl⟩;rw [N6] at k0;have HG0:=ar N6;have AZ:oy (lyW S) want [s0,s1,s2] all t=nJ (lyW S) want [s0,s1,s2] all S t:=by unfold oy nJ;rw [PO.out.wl]
 have HRS:=ar AZ;clear AZ;clear N6;go_enter Tryz.func10,Tryz.ntmps10
 go_wp2_with fail
 generalize w.alloc (ag (cK A S cw T m d s0 s1 s2) 26)=w1 at *;rw [HG0.out]
 go_loopw [6] (fun v6 wr=>∃ j:Nat,j<=S/\v6=aa ab (j:Nat)/\jW B w1 wr/\lW wr B gt (lyW S) (nJ (lyW S) want [s0,s1,s2] all j t)) (fun v6 _=>S - (intOf v6).toNat)
 case atStart=>exact ⟨0,aY _,rfl,jW.refl _ _,hT⟩
 case round=>
  obtain ⟨who,hj,rfl,ts,hTj⟩:=hrel;have kP:=ts.ay k0 ⟨zD,zD,zD,zD⟩;have q0:=kP.cell 0;simp at q0;clear hT
  by_cases dN:who < S
  ·have g1:decide ((who:Int) < S)=true:=by simp;omega
   obtain ⟨tj,htj⟩:∃ z,nJ (lyW S) want [s0,s1,s2] all who t=z:=⟨_,rfl⟩;have hwbj:=HWB.out.nJ (stops:=[s0,s1,s2]) (all:=all) hE h3 who zO;rw [htj] at hTj hwbj;have HTJ:=ar (au htj hwbj);have HTS:=ar ts;clear htj hwbj ts
   go_wp2_with fail
   clear q0 g1
   go_loopw [7] (fun v7 wq=>∃ k:Nat,k<=3/\v7=aa ab (k:Nat)/\jW B wr wq/\lW wq B gt (lyW S) (nG (lyW S) want [s0,s1,s2] all who k tj)) (fun v7 _=>3 - (intOf v7).toNat)
   case atStart=>exact ⟨0,aY _,rfl,jW.refl _ _,hTj⟩
   case round=>
    obtain ⟨k,hk,rfl,ts,hTk⟩:=hrel;have kQ:=ts.ay kP ⟨zD,zD,zD,zD⟩;clear hTj
    by_cases El:k < 3
    ·have g1:decide ((k:Int) < 3)=true:=by simp;omega
     obtain ⟨tk,oO⟩:∃ z,nG (lyW S) want [s0,s1,s2] all who k tj=z:=⟨_,rfl⟩;have hwbk:=HTJ.out.2.nG (who:=who) (stops:=[s0,s1,s2]) (all:=all) dN zO k hk;obtain ⟨tz,htz⟩:∃ z,nG (lyW S) want [s0,s1,s2] all who (k+1) tj=z:=⟨_,rfl⟩;have htz':fL (lyW S) want [s0,s1,s2] all who 2001 tk=tz:=by rw [<- oO,<- htz,nF]
     rw [oO] at hTk hwbk;have HK:=ar (au htz (au htz' hwbk));have LW:=ar ts;clear oO htz htz' hwbk ts
     go_wp2_with fail
     generalize wr=wq at *
     go_loopw [8] (fun v8 wr=>∃ (i:Nat) (ti:dG),i<=2001/\v8=aa ab (i:Nat)/\jW B wq wr/\lW wr B gt (lyW S) ti/\WE S want ti/\ti.events.length<=E+6003 * who+2001 * k+i/\ti.calls.length<=E+6003 * who+2001 * k+i/\fL (lyW S) want [s0,s1,s2] all who (2001 - i) ti=tz) (fun v8 _=>2001 - (intOf v8).toNat)
     case atStart=>exact ⟨0,tk,zO,rfl,jW.refl _ _,hTk,HK.out.2.2.we,HK.out.2.2.ev,HK.out.2.2.ca,HK.out.2.1⟩
     case round=>
      obtain ⟨i,ti,hi,rfl,ts,DB,Lc,N9,hca,lG⟩:=hrel;have kR:=ts.ay kQ ⟨zD,zD,zD,zD⟩;have qb:=DB.bad;have lT:=DB.lt
      by_cases qJ:i<=2000
      ·have gi:decide ((i:Int)<=2000)=true:=by simp;omega
       obtain ⟨j,hj2⟩:∃ j,2001 - i=j+1:=⟨2000 - i,zO⟩;rw [hj2,fL] at lG;have lg:ti.aM.length=S:=by obtain ⟨sm,g,q,W⟩:=Lc;exact W.sl
       have hwt:=Lc.xp dN zO;have hte:=ub (lyW S) want who ti;have htc:=ou (lyW S) want who ti;obtain ⟨⟨t',r⟩,tR⟩:∃ z,ff (lyW S) want who ti=z:=⟨_,rfl⟩;rw [tR] at lG hwt hte htc;have HSP:=ar lG;have HW2:=ar (au hwt (au hte htc));clear lG hwt hte htc hTk
       cases all with
       | false=>
        go_wp2_with (refine split.ir (by rfl) 26 (.tmp 4) rfl g0 rfl 26 (cK A S cw T m d s0 s1 s2) (0,0) _ kR fA rfl zK ?_)
        (with_reducible refine (uR A S cw T m d s0 s1 s2 who B gt (lyW S) ti _ DB (by rw [lg];exact dN) (by rw [lg];exact h3) PO.out.st.1 PO.out.st.2.1 PO.out.st.2.2).mono ?_)
        rintro e w5 ⟨rfl,gS⟩;have Cs:B<=wr.heap.size:=aQ (aQ s9 (Nat.le_of_eq HG0.out)) (Nat.le_of_lt kR.lt);replace DB:=DB.ay gS;replace kR:=kR.ay gS;replace ts:=ts.trans (.aS gS Cs);clear gS qb Cs
        by_cases aG:iY [s0,s1,s2] who ti=true
        ·rw [aG]
         go_wp2_with fail
         have lG:=HSP.out;rw [if_pos (by rw [aG];rfl)] at lG
         refine ⟨⟨k+1,zO,by go_num,LW.out.trans (ts),by rw [HK.out.1,<- lG];exact DB⟩,by simp [intOf];omega⟩
        ·have nM:iY [s0,s1,s2] who ti=false:=by simpa using aG
         rw [nM];have lG:=HSP.out;rw [if_neg (by rw [nM];decide)] at lG
         go_wp2_with (refine split.ir (by rfl) 26 (.tmp 4) rfl g0 rfl 26 (cK A S cw T m d s0 s1 s2) (0,0) _ kR fA rfl zK ?_)
         have hB5:B<=w5.heap.size:=aQ (aQ s9 (Nat.le_of_eq HG0.out)) (Nat.le_of_lt kR.lt);have P5:=PO.out.below ((((Ml.trans HTS.out).trans LW.out).trans ts).below);obtain ⟨sm,g,q,WI⟩:=Lc
         (with_reducible refine (nh WI zO zO dN A T cw m d s0 s1 s2 _ DB hB5 P5.W).mono ?_)
         rintro e w6 ⟨rfl,Eo,ts6⟩;rw [tR] at Eo ⊢
         cases r with
         | true=>
          go_wp2_with fail
          (try dsimp only at lG)
          refine ⟨⟨k+1,zO,by go_num,LW.out.trans (ts.trans ts6),by rw [HK.out.1,<- lG];exact Eo⟩,by simp [intOf];omega⟩
         | false=>
          go_wp2_with fail
          (try dsimp only at lG)
          exact ⟨⟨i+1,t',zO,by go_num,ts.trans ts6,Eo,HW2.out.1,by have:=HW2.out.2.1;(try dsimp only at this);omega,by have:=HW2.out.2.2;(try dsimp only at this);omega,by rw [show 2001 - (i+1)=j by omega];exact lG⟩,by simp [intOf];omega⟩
       | true=>
        have lG:=HSP.out;rw [if_neg zS] at lG
        go_wp2_with (refine split.ir (by rfl) 26 (.tmp 4) rfl g0 rfl 26 (cK A S cw T m d s0 s1 s2) (0,0) _ kR fA rfl zK ?_)
        have hB5:B<=wr.heap.size:=aQ (aQ s9 (Nat.le_of_eq HG0.out)) (Nat.le_of_lt kR.lt);have P5:=PO.out.below ((((Ml.trans HTS.out).trans LW.out).trans ts).below);obtain ⟨sm,g,q,WI⟩:=Lc
        (with_reducible refine (nh WI zO zO dN A T cw m d s0 s1 s2 _ DB hB5 P5.W).mono ?_)
        rintro e w6 ⟨rfl,Eo,ts6⟩;rw [tR] at Eo ⊢
        cases r with
        | true=>
         go_wp2_with fail
         (try dsimp only at lG)
         refine ⟨⟨k+1,zO,by go_num,LW.out.trans (ts.trans ts6),by rw [HK.out.1,<- lG];exact Eo⟩,by simp [intOf];omega⟩
        | false=>
         go_wp2_with fail
         (try dsimp only at lG)
         exact ⟨⟨i+1,t',zO,by go_num,ts.trans ts6,Eo,HW2.out.1,by have:=HW2.out.2.1;(try dsimp only at this);omega,by have:=HW2.out.2.2;(try dsimp only at this);omega,by rw [show 2001 - (i+1)=j by omega];exact lG⟩,by simp [intOf];omega⟩
      ·obtain rfl:i=2001:=zO;have gi:decide (((2001:Nat):Int)<=2000)=false:=zD;rw [show 2001 - 2001=0 from rfl,fL] at lG
       go_wp2_with fail
       refine ⟨⟨k+1,zO,by go_num,LW.out.trans (ts),by rw [HK.out.1,<- lG];exact DB⟩,by simp [intOf];omega⟩
    ·obtain rfl:k=3:=zO;rw [JP] at hTk;obtain ⟨hwes,hevs,gW,-⟩:=WE.zX (stops:=[s0,s1,s2]) (all:=all) HTJ.out.2.we dN (by have:=HTJ.out.2.ev;omega)
     obtain ⟨tS,htS⟩:∃ z,nI (lyW S) want [s0,s1,s2] all who tj=z:=⟨_,rfl⟩;rw [htS] at hTk hwes gW;have lg:tS.aM.length=S:=by obtain ⟨sm,g,q,W⟩:=hwes;exact W.sl
     have hrj:nJ (lyW S) want [s0,s1,s2] all (who+1) t=tS:=by rw [yq,HTJ.out.1,htS]
     have HF:=ar (au hrj gW);have Cs:B<=wr.heap.size:=aQ (aQ s9 (Nat.le_of_eq HG0.out)) (Nat.le_of_lt kQ.lt);have P5:=PO.out.below (((Ml.trans HTS.out).trans ts).below);obtain ⟨bw,ow,rfl,fK,hwc⟩:=P5.W (by rw [P5.wl];omega)
     obtain ⟨x,ops,hx,ho⟩:∃ x ops,tS.aM[who]? =some x/\want[who]? =some ops:=⟨_,_,aO zO,aO (by rw [P5.wl];omega)⟩
     obtain ⟨A',c',DK,-⟩:=hwc who ops ho;clear hwc hwes hevs hrj htS
     go_upto_region 11 with fail
     refine aP (S:=fun w'=>Below wr.drew.heap.size wr.drew w') (E:=fun _=>false) zK ?_
     have dD:=aU (Below.refl wr.heap.size wr);replace hTk:=hTk.ay dD;replace kQ:=kQ.ay dD;have ts4:=ts.trans (.aS dD Cs);replace DK:=(cO dD (bg fK Cs)).trans DK;replace Cs:B<=wr.drew.heap.size:=Cs;clear dD;generalize wr.drew=wv at *;obtain ⟨gs,mv,ev,cv,X⟩:=hTk;obtain ⟨cs,iV⟩:=X.aM;have jI:=X.tab.cell 26;have rC:=X.tab.cell 30;have xO:=(iV.row.cell (who * 5)).trans (iV.at_ who x hx).at_;rw [lg] at jI;simp at jI rC;have gsl:=iV.row.lt;have j2:(who:Int) < S:=zO;have pr:=bg fK Cs;have cU:=yj X.tab (i:=30) (u:=ah false) rfl;have rm:=X.tab.free 30;have lT:=X.tab.lt;have hX:=ar X;clear X iV;refine wTk 6 [(0,45,ae (some ⟨gt,0,none⟩)),(1,46,ae (some ⟨gt,0,none⟩)),(2,47,ae (some ⟨gt,0,none⟩)),(3,48,ae (some ⟨gt,30,none⟩)),(4,49,ah false),(5,50,ah false)] ?_ (Below.refl _ _) ?_
     ·intro w' hS;have d26:=(cO hS lT).trans jI;have d30:=(cO hS lT).trans rC;have dat:=(cO hS gsl).trans xO;have dw:=(cO hS pr).trans DK;have d0:=(kQ.ay hS).cell 0;simp at d0;clear jI rC xO DK cU rm
      (repeat' (first | exact aC | refine au ⟨_,rfl,.inl ⟨rfl,?_⟩⟩ ?_))
      all_goals exact zG
     simp only [aR,Act.put,aj,ak,al]
     cases all with
     | true=>
      have sJ:x.pos=ops.length:=by
       rcases HF.out.2 with ⟨x',xr,e1,e2,e3⟩ | ⟨e,-⟩
       ·rw [hx] at e1;rw [ho] at e2;injection e1 with e1;injection e2 with e2;subst e1;subst e2;exact e3
       ·cases e
      have jp:¬ x.pos < ops.length:=zO;have jpd:decide ((x.pos:Int) < ops.length)=false:=by simp;omega
      refine wTk 9 [(6,51,ah true),(7,52,ah true),(8,53,undef),(9,54,undef),(10,55,undef),(11,56,undef),(12,57,undef),(13,58,ah true),(14,59,ah true)] ?_ (Below.refl _ _) ?_
      ·intro w' hS
       (repeat' (first | exact aC | refine au ⟨_,rfl,.inr ⟨zK,rfl⟩⟩ ?_ | refine au ⟨_,rfl,.inl ⟨zK,?_⟩⟩ ?_))
       all_goals exact zG
      simp only [aR,Act.put,aj,ak,al];refine wTk 19 [(15,60,ae (some ⟨gt,0,none⟩)),(16,61,ae (some ⟨gt,0,none⟩)),(17,62,ae (some ⟨gt,26,none⟩)),(18,63,af (some ⟨gs,0,none⟩) S S),(19,64,aa ab (who:Nat)),(20,65,ae (some ⟨gs,who * 5,none⟩)),(21,66,ae (some ⟨gs,who * 5,none⟩)),(22,67,aa ab (x.pos:Nat)),(23,68,ae (some ⟨g0,0,none⟩)),(24,69,af (some ⟨bw,ow,none⟩) S cw),(25,70,aa ab (who:Nat)),(26,71,ae (some ⟨bw,ow+who,none⟩)),(27,72,(.slice A' ops.length c')),(28,73,aa ab (ops.length:Nat)),(29,74,ah false),(30,75,ah false),(31,76,ah false),(32,77,ae (some ⟨gt,0,none⟩)),(33,78,ae (some ⟨gt,30,none⟩))] ?_ (Below.refl _ _) ?_
      ·intro w' hS;have d26:=(cO hS lT).trans jI;have d30:=(cO hS lT).trans rC;have dat:=(cO hS gsl).trans xO;have dw:=(cO hS pr).trans DK;have d0:=(kQ.ay hS).cell 0;simp at d0;clear jI rC xO DK cU rm
       (repeat' (first | exact aC | refine au ⟨_,rfl,.inl ⟨zK,?_⟩⟩ ?_))
       all_goals exact zG
      simp only [aR,Act.put,aj,ak,al];refine aE (i:=34) (o:=_) zK rfl (fun K hK=>?_)
      (try simp only [aq,ao,an])
      go_simp;refine hK.out _ _ (fun _=>Below.refl _ _) ?_
      clear hK K;refine aN zK ?_ _;have hTf:lW wv B gt (lyW S) tS:=⟨gs,mv,ev,cv,hX.out⟩
      go_wp2_with fail
      exact ⟨⟨who+1,zO,by go_num,HTS.out.trans ts4,by rw [HF.out.1];exact hTf⟩,by simp [intOf];omega⟩
     | false=>
      refine wTk 4 [(6,51,ah false),(7,52,ah false),(8,53,ae (some ⟨gt,0,none⟩)),(10,55,aa ab (who:Nat))] ?_ (Below.refl _ _) ?_
      ·intro w' hS
       (repeat' (first | exact aC | refine au ⟨_,rfl,.inl ⟨zK,?_⟩⟩ ?_))
       all_goals exact zG
      simp only [aR,Act.put,aj,ak,al];refine wTk 1 [(9,54,.agg (cK (some ⟨bw,ow,none⟩) S cw T m d s0 s1 s2))] ?_ (Below.refl _ _) ?_
      ·intro w' hS;have fg:(dr 26 ⟨g0,0,none⟩).run aw w'= .ok (.agg (cK (some ⟨bw,ow,none⟩) S cw T m d s0 s1 s2)) w':=be w' g0 26 26 (cK (some ⟨bw,ow,none⟩) S cw T m d s0 s1 s2) (0,0) _ (kQ.ay hS) fA rfl zK
       (repeat' (first | exact aC | refine au ⟨_,rfl,.inl ⟨zK,?_⟩⟩ ?_))
       all_goals exact list.bI rfl rfl fg
      simp only [aR,Act.put,aj,ak,al];refine aE (i:=11) (o:=_) zK rfl (fun K hK=>?_)
      (try simp only [aq,ao,an])
      rw [if_pos zK];go_simp;have hTv:lW wv B gt (lyW S) tS:=⟨gs,mv,ev,cv,hX.out⟩
      (with_reducible refine (uR (some ⟨bw,ow,none⟩) S cw T m d s0 s1 s2 who B gt (lyW S) tS wv hTv (by rw [lg];exact dN) (by rw [lg];exact h3) PO.out.st.1 PO.out.st.2.1 PO.out.st.2.2).mono ?_)
      rintro e w5 ⟨rfl,gS⟩;refine hK.out _ _ (fun _=>gS) ?_
      clear hK K
      (try simp only [Act.put,aj,ak,al])
      have X5:=hX.out.ay gS;have hsame5:=yj X5.tab (i:=30) (u:=ah false) rfl;have hfree5:=X5.tab.free 30;have lT5:=X5.tab.lt;have c30':=X5.tab.cell 30;simp at c30'
      by_cases aG:iY [s0,s1,s2] who tS=true
      ·rw [aG];refine wTk 22 [(12,57,ah false),(13,58,ah false),(14,59,ah false),(15,60,undef),(16,61,undef),(17,62,undef),(18,63,undef),(19,64,undef),(20,65,undef),(21,66,undef),(22,67,undef),(23,68,undef),(24,69,undef),(25,70,undef),(26,71,undef),(27,72,undef),(28,73,undef),(29,74,undef),(30,75,ah false),(31,76,ah false),(32,77,ae (some ⟨gt,0,none⟩)),(33,78,ae (some ⟨gt,30,none⟩))] ?_ gS ?_
       ·intro w' hS
        (repeat' (first | exact aC | refine au ⟨_,rfl,.inr ⟨zK,rfl⟩⟩ ?_ | refine au ⟨_,rfl,.inl ⟨zK,?_⟩⟩ ?_))
        all_goals exact zG
       simp only [aR,Act.put,aj,ak,al];refine aE (i:=34) (o:=_) zK rfl (fun K hK=>?_)
       (try simp only [aq,ao,an])
       clear cU rm rC lT;go_simp;refine hK.out _ _ (fun _=>gS) ?_
       clear hK K;refine aN zK ?_ _;have hTf:lW w5 B gt (lyW S) tS:=⟨gs,mv,ev,cv,X5⟩
       go_wp2_with fail
       exact ⟨⟨who+1,zO,by go_num,HTS.out.trans (ts4.trans (.aS gS Cs)),by rw [HF.out.1];exact hTf⟩,by simp [intOf];omega⟩
      ·have nM:iY [s0,s1,s2] who tS=false:=by simpa using aG
       rw [nM];have sJ:x.pos=ops.length:=by
        rcases HF.out.2 with ⟨x',xr,e1,e2,e3⟩ | ⟨-,e⟩
        ·rw [hx] at e1;rw [ho] at e2;injection e1 with e1;injection e2 with e2;subst e1;subst e2;exact e3
        ·exact absurd e aG
       have jp:¬ x.pos < ops.length:=zO;have jpd:decide ((x.pos:Int) < ops.length)=false:=by simp;omega
       refine wTk 3 [(12,57,ah true),(13,58,ah true),(14,59,ah true)] ?_ gS ?_
       ·intro w' hS
        (repeat' (first | exact aC | refine au ⟨_,rfl,.inl ⟨zK,?_⟩⟩ ?_))
        all_goals exact zG
       simp only [aR,Act.put,aj,ak,al];refine wTk 19 [(15,60,ae (some ⟨gt,0,none⟩)),(16,61,ae (some ⟨gt,0,none⟩)),(17,62,ae (some ⟨gt,26,none⟩)),(18,63,af (some ⟨gs,0,none⟩) S S),(19,64,aa ab (who:Nat)),(20,65,ae (some ⟨gs,who * 5,none⟩)),(21,66,ae (some ⟨gs,who * 5,none⟩)),(22,67,aa ab (x.pos:Nat)),(23,68,ae (some ⟨g0,0,none⟩)),(24,69,af (some ⟨bw,ow,none⟩) S cw),(25,70,aa ab (who:Nat)),(26,71,ae (some ⟨bw,ow+who,none⟩)),(27,72,(.slice A' ops.length c')),(28,73,aa ab (ops.length:Nat)),(29,74,ah false),(30,75,ah false),(31,76,ah false),(32,77,ae (some ⟨gt,0,none⟩)),(33,78,ae (some ⟨gt,30,none⟩))] ?_ gS ?_
       ·intro w' hS;have d26:=(cO hS lT).trans jI;have d30:=(cO hS lT).trans rC;have dat:=(cO hS gsl).trans xO;have dw:=(cO hS pr).trans DK;have d0:=(kQ.ay hS).cell 0;simp at d0;clear jI rC xO DK cU rm
        (repeat' (first | exact aC | refine au ⟨_,rfl,.inl ⟨zK,?_⟩⟩ ?_))
        all_goals exact zG
       simp only [aR,Act.put,aj,ak,al];refine aE (i:=34) (o:=_) zK rfl (fun K hK=>?_)
       (try simp only [aq,ao,an])
       clear cU rm rC lT;go_simp;refine hK.out _ _ (fun _=>gS) ?_
       clear hK K;refine aN zK ?_ _;have hTf:lW w5 B gt (lyW S) tS:=⟨gs,mv,ev,cv,X5⟩
       go_wp2_with fail
       exact ⟨⟨who+1,zO,by go_num,HTS.out.trans (ts4.trans (.aS gS Cs)),by rw [HF.out.1];exact hTf⟩,by simp [intOf];omega⟩
  ·obtain rfl:who=S:=zO;have g1:decide ((who:Int) < who)=false:=zS
   go_wp2_with fail
   refine bodyPost_end (dY rfl _ _ _) rfl ⟨rfl,?_,Ml.trans ts⟩;rw [HRS.out];exact hTj
end Go.Proofs.YtikdaeddbkopeaaGreatR
namespace Go.Proofs.YtikdaeddbkopeaaGreatR
open Go.RowKit
theorem pR:Go.Maps.Keyed aw 3:=Go.Maps.int_keyed (q:=.i64) Tryz.underlying3
def zI (D:DataW Unit) (L:List Int):Prop:=Go.Maps.IsMap D/\∀ a:Int,0<=a->a<=1000000->D.atKey (.int .i64 a) (.lit (.bool false))= .lit (.bool (decide (a∈L)))
def dv (w:World) (b n:Nat) (L:List Int):Prop:=∃ D:DataW Unit,w.ownsMap aw 3 (plainElem aw 4) b n D/\zI D L
section
variable {w w':World} {b n:Nat} {L:List Int}
theorem uQ (w:World):dv (w.alloc (.map #[] 0)) w.heap.size 0 []:=
 ⟨.map [],World.ownsMap_made w aw 3 _,Go.Maps.isMap_empty,fun a _ _=>rfl⟩
theorem dv.lt (h:dv w b n L):b < w.heap.size:=by
 obtain ⟨D,h,_⟩:=h;exact h.lt
theorem dv.ay (h:dv w b n L) (hb:Below w.heap.size w w'):dv w' b n L:=by
 obtain ⟨D,h,hD⟩:=h;have dN:=h.lt;obtain ⟨es,clock,h1,h2⟩:=h;exact ⟨D,⟨es,clock,(hb.block b dN).trans h1,h2⟩,hD⟩
theorem dv.grown {row:Option Nat} (h:dv w b n L) (hg:w.grownBy w' row) (dF:some b≠row):dv w' b n L:=by
 obtain ⟨D,h,hD⟩:=h;exact ⟨D,h.kept hg dF,hD⟩
theorem lit_wf {a:Int} (h0:0<=a) (h1:a<=1000000):(Lit.int .i64 a).wf=true:=by
 have e1:IntKind.i64.min= -9223372036854775808:=rfl;have e2:IntKind.i64.max=9223372036854775807:=rfl;simp only [Lit.wf,e1,e2,dq,decide_eq_true_eq];omega
theorem uc {a:Int} (h0:0<=a) (h1:a<=1000000):keyOf aw 3 (.int .i64 a)=some (.int .i64 a):=Go.Maps.keyOf_int_mk Tryz.underlying3 (lit_wf h0 h1)
theorem dv.look (h:dv w b n L) {a:Int} (h0:0<=a) (h1:a<=1000000):(Instr.lookup 114 (.map (some b)) (.int .i64 a) false).run aw w= .ok (.bool (decide (a∈L))) w:=by
 obtain ⟨D,h,hD⟩:=h;obtain ⟨v,ps,I9,hv⟩:=h.lookup pR Tryz.underlying114 (z:=.bool false) zK (plainElem_bool Tryz.underlying4 false) (uc h0 h1);rw [hD.2 a h0 h1] at hv;rw [I9];have hb:=Tryz.underlying4;unfold plainElem at hv;generalize Tryz.prog.underlying 4=z at hv hb;subst hb
 cases v <;> simp at hv
 rw [hv.1]
theorem zI.put {D:DataW Unit} (h:zI D L) {a:Int} (h0:0<=a) (h1:a<=1000000):zI (D.put (.int .i64 a) (.lit (.bool true))) (L++[a]):=by
 refine ⟨h.1.put _ _,fun x hx0 hx1=>?_⟩
 by_cases e:x=a
 ·subst e;rw [Go.Maps.atKey_put_same (k:=.int .i64 x) h.1 trivial];simp
 ·rw [Go.Maps.atKey_put_other (by intro k;injection k with _ k;exact e k),h.2 x hx0 hx1]
  simp [e]
theorem dv.of {D:DataW Unit} (h:w.ownsMap aw 3 (plainElem aw 4) b n D) (hD:zI D L):dv w b n L:=⟨D,h,hD⟩
theorem mg (h:dv w b n L) {g:Nat} {t:bR} {cs:Array Value} (k:Bk w g t cs):g≠b:=by
 rintro rfl;obtain ⟨D,⟨es,clock,h1,h2⟩,-⟩:=h;rw [Bk,h1] at k
 cases k
theorem kj (h:dv w b n L) {base sz m:Nat} {e:bR} {v:Value} {xs:List Value} (k:w.ownsRow base e sz v m xs):v.ownBlock=none\/v.ownBlock≠some b:=by
 rcases k.2 with ⟨rfl,_⟩ | ⟨g1,cap1,cur1,rfl,_,h1,_⟩
 ·exact .inl rfl
 ·right
  intro hg;simp [Value.ownBlock] at hg;subst hg;obtain ⟨D,⟨es,clock,h2,_⟩,-⟩:=h;rw [h1] at h2
  cases h2
end
end Go.Proofs.YtikdaeddbkopeaaGreatR
namespace Go.Proofs.YtikdaeddbkopeaaGreatR.stack
open Go.RowKit
attribute [local go_sem ↓] aV aW
theorem jF (A:Option Addr) (c:Nat) (zs:List Int) (n:Nat) (k:Int) (w:World) (hn:zs.length=n) (h:gJ w w.heap.size A zs) (h0:0<=k) (h1:k < n):
  Calls aw 54 #[.agg #[.slice A n c],aa ab k] w (gh (zs.getD k.toNat 0) w):=by
 obtain ⟨j,rfl⟩:∃ j:Nat,k=j:=⟨k.toNat,zO⟩;have g0:decide ((j:Int) < 0)=false:=zS;have g1:decide ((n:Int)<=j)=false:=by simp;omega
 obtain ⟨x,hx⟩:∃ x,zs[j]? =some x:=⟨_,aO zO⟩;have e:zs.getD (j:Int).toNat 0=x:=by simp [hx]
 rw [e];obtain ⟨b,o,hA,ey,hc⟩:=h zO;have q:=hc j x hx;subst hA;have i1:(j:Int) < n:=zO;have hb:=aB (Below.refl w.heap.size w) (ag #[af (some ⟨b,o,none⟩) n c] 37);have kM:=Bk.made w 37 #[af (some ⟨b,o,none⟩) n c];have q0:(w.alloc (ag #[af (some ⟨b,o,none⟩) n c] 37)).cell? ⟨w.heap.size,0,none⟩=some (af (some ⟨b,o,none⟩) n c):=by rw [kM.cell];rfl
 replace q:=(cO hb ey).trans q;clear e hc h hx hn kM;go_enter Tryz.func54,Tryz.ntmps54
 go_wp2
 go_ret
 exact ⟨rfl,hb⟩
theorem ks (l:Ly) (s:Int) (A:Option Addr) (c n:Nat) (zs L:List Int) (w:World) (f:dU l) (h:gJ w w.heap.size A zs) (hn:zs.length=n) (hN:l.c.nodes<=1000)
  (qG:0<=(eW l s)/\(eW l s) < n) (gu:∀ a,1<=a/\a<=l.c.nodes->0<=nodeAt l a 0/\nodeAt l a 0 < n) (ot:idxOf (zs.getD (eW l s).toNat 0)=L.headD 0) (mK:lY (fun a=>zs.getD (nodeAt l a 0).toNat 0) L) (nZ:∀ a∈L,1<=a/\a<=l.c.nodes) (jT:L.Nodup) (Md:L.length<=1000):
  Calls aw 27 #[lyV l,.agg #[.slice A n c],.int .i64 s] w fun e w'=>∃ B d,e= .returned (.slice B L.length d)/\bd w' w.heap.size (.slice B L.length d) L/\Below w.heap.size w w':=by
 have k0:=(Bk.made w 34 (lyC l)).alloc (.cells #[.slice A n c] 37);have kM:=Bk.new (w.alloc (.cells (lyC l) 34)) (g:=w.heap.size+1) zS 37 #[.slice A n c];have bz:=aB (aB (Below.refl w.heap.size w) (.cells (lyC l) 34)) (.cells #[.slice A n c] 37);have F:=ar f;have HS:=ar (au h hn);have HP:=ar (au gu (au mK (au nZ (au jT ot))));have Du:nodeAt l 0 0= -1:=by unfold nodeAt;rw [if_pos zO]
 have OV:=ar Du;have HT:=ar qG;have q0:((w.alloc (.cells (lyC l) 34)).alloc (.cells #[.slice A n c] 37)).cell? ⟨w.heap.size+1,0,none⟩=some (.slice A n c):=by rw [kM.cell];rfl
 clear h hn gu ot mK nZ jT f Du qG;go_enter Tryz.func27,Tryz.ntmps27
 go_wp2_with (refine aL rfl 34 (.tmp 3) rfl w.heap.size rfl 34 (lyC l) (0,0) _ k0 aJ rfl zK ?_)
 generalize (w.alloc (.cells (lyC l) 34)).alloc (.cells #[.slice A n c] 37)=w1 at *
 (with_reducible refine (JO l s _ F.out).mono ?_)
 rintro e w2 ⟨rfl,hb⟩;obtain ⟨tp,qG⟩:∃ z,(eW l s)=z:=⟨_,rfl⟩;have HTP:=ar qG;rw [qG];have I8:=HT.out;rw [qG] at I8;clear qG;have g0:decide (tp < 0)=false:=by simp;omega
 replace k0:=k0.ay hb;replace kM:=kM.ay hb;replace bz:=aF bz hb;clear hb q0;have HT2:=ar I8;have tn:¬ tp < 0:=zO;clear I8;have mU:(Instr.makeMap 114 none).run aw w2= .ok (.map (some w2.heap.size)) (w2.alloc (.map #[] 0)):=zK
 go_wp2_with (refine aL rfl 37 (.tmp 4) rfl (w.heap.size+1) rfl 37 #[.slice A n c] (0,0) _ (kM.alloc (.map #[] 0)) Tryz.underlying37 rfl zK ?_)
 clear mU;have kD:=uQ w2;replace k0:=k0.alloc (.map #[] 0);replace kM:=kM.alloc (.map #[] 0);have z2:w.heap.size<=w2.heap.size:=bz.size;replace bz:=aB bz (.map #[] 0);generalize w2.alloc (.map #[] 0)=w3 at *;generalize w2.heap.size=gD at *
 (try clear q0)
 have HGD:=ar z2;clear z2
 (with_reducible refine (jF A c zs n tp _ HS.out.2 (by have:=HS.out.1.below bz;exact this.more bz.size) HT2.out.1 HT2.out.2).mono ?_)
 rintro e w4 ⟨rfl,hb⟩;replace k0:=k0.ay hb;replace kM:=kM.ay hb;replace kD:=kD.ay hb;replace bz:=aF bz hb;clear hb;obtain ⟨fw,Cr⟩:∃ x,zs.getD tp.toNat 0=x:=⟨_,rfl⟩;rw [Cr]
 go_wp2_with fail
 (with_reducible refine (gV fw _).mono ?_)
 rintro e w5 ⟨rfl,hb⟩;replace k0:=k0.ay hb;replace kM:=kM.ay hb;replace kD:=kD.ay hb;replace bz:=aF bz hb;clear hb;have hx:fw % 65536=L.headD 0:=by rw [<- Cr,<- HTP.out];exact HP.out.2.2.2.2
 rw [hx];clear hx Cr;generalize (fw / 65536 % 2==1)=z1;generalize fw / 131072 % 268435456=z2;obtain ⟨hd,uN⟩:∃ x,L.headD 0=x:=⟨_,rfl⟩;rw [uN];have HHD:=ar uN;clear uN;have A6:∀ w:World,(uP 81 (.agg #[.int .i64 hd,.bool z1,.int .i64 z2]) 0).run aw w= .ok (.int .i64 hd) w:=fun w=>by kernel_rfl
 go_wp2_with fail
 clear A6
 go_loopw [8,10] (fun v8 v10 wr=>∃ k:Nat,k<=L.length/\v10= .int .i64 ((L.drop k).headD 0)/\Below w.heap.size w wr/\Bk wr w.heap.size 34 (lyC l)/\Bk wr (w.heap.size+1) 37 #[.slice A n c]/\dv wr gD k (L.take k)/\bd wr w.heap.size v8 (L.take k)) (fun v8 _ _=>L.length - lenOf v8)
 case atStart=>exact ⟨0,aY _,by rw [<- HHD.out];rfl,bz,k0,kM,kD,cZ _ _ _ _⟩
 case round=>
  obtain ⟨k,hk,rfl,hb,k1,pN,kD1,bn⟩:=hrel;clear k0 kM kD bz;obtain ⟨G,cg,rfl⟩:=cj bn
  by_cases dN:k < L.length
  ·obtain ⟨a,ha⟩:∃ a,L[k]? =some a:=⟨_,aO dN⟩;obtain ⟨gu,mK,nZ,jT,-⟩:=HP.out;have oV:L.drop k=a :: L.drop (k+1):=r9 ha;have Ke:=nZ a (bX ha);have rl:(fun a=>zs.getD (nodeAt l a 0).toNat 0) a=(L.drop (k+1)).headD 0:=by
    have:=mK.drop k;rw [oV] at this;exact this.1
   have yO:¬ a∈L.take k:=by
    intro hm;obtain ⟨j,hj⟩:=List.getElem?_of_mem hm;have hjl:=(a8.1 hj).1;rw [jM] at hjl;rw [List.getElem?_take_of_lt zO] at hj;have:=(List.getElem?_inj zO jT).1 (hj.trans ha.symm);omega
   have oG:(L.drop k).headD 0=a:=by rw [oV];rfl
   have jx:=gu a Ke;have oO:L.take (k+1)=L.take k++[a]:=by rw [j7,ha];rfl
   have tJ:(L.take k).length=k:=by rw [jM];omega
   rw [oG];obtain ⟨nx,lJ⟩:∃ c,nodeAt l a 0=c:=⟨_,rfl⟩;rw [lJ] at jx;have yT:0<=a/\a<=1000:=zO;have xV:=ar lJ;have vR:=ar (au ha (au rl (au oO (au tJ yO))));have HO:=ar bn;clear jT gu oV Ke rl yO oG oO lJ ha tJ mK nZ bn
   go_wp2_with (refine aL rfl 34 (.tmp 3) rfl w.heap.size rfl 34 (lyC l) (0,0) _ k1 aJ rfl zK ?_)
   (with_reducible refine (dt l a 0 _ F.out zO).mono ?_)
   rintro e w6 ⟨rfl,fz⟩;rw [xV.out];have g1:decide ((0:Int)<=nx)=true:=by simp;omega
   have k2:=k1.ay fz;have nA:=pN.ay fz;have L1:=kD1.ay fz;have cY:=aF hb fz;have cP:=bc HO.out fz;have wY:=L1.look yT.1 zO;rw [show decide (a∈L.take k)=false from decide_eq_false vR.out.2.2.2.2] at wY
   clear k1 pN kD1 hb fz HO;obtain ⟨D,hD,DC⟩:=L1;unfold bd at cP;rw [vR.out.2.2.2.1] at cP;obtain ⟨i0,pP,jG,mw,mI⟩:=xE jw
   go_wp2_with (at_mapUpdate;refine wpList_mapUpdate_own _ rfl _ _ _ 114 rfl 3 4 pR Tryz.underlying114 _ gD k D rfl hD (by simp only [nu];omega) _ _ (.int .i64 a) rfl rfl (uc yT.1 zO) (.lit (.bool true)) [] (plainElem_bool Tryz.underlying4 true) ?_)
   intro w7 hD7 hg7;have yP:some w.heap.size≠some gD/\some (w.heap.size+1)≠some gD:=by
    have h1:=mg (dv.of hD DC) k2;have h2:=mg (dv.of hD DC) nA;exact ⟨fun e=>h1 (by injection e),fun e=>h2 (by injection e)⟩
   have k3:Bk w7 w.heap.size 34 (lyC l):=(hg7.block _ k2.lt yP.1).trans k2;have K9:Bk w7 (w.heap.size+1) 37 #[.slice A n c]:=(hg7.block _ nA.lt yP.2).trans nA;have fH:=World.ownsRow.kept cP hg7 (kj (dv.of hD DC) cP);have jg:Below w.heap.size w w7:=cY.grown hg7 cY.size (fun k hk=>by injection hk with hk;have:=HGD.out;omega)
   have NH:dv w7 gD (k+1) (L.take (k+1)):=by
    rw [vR.out.2.2.1];exact dv.of hD7 (DC.put yT.1 zO)
   clear wY hg7 hD7 DC hD k2 nA cY cP yP;have sK:=World.ownsRow.alloc fH (.cells #[.int .i64 a] 3);have gS:=aB jg (.cells #[.int .i64 a] 3);have fq:=aB (Below.refl w7.heap.size w7) (.cells #[.int .i64 a] 3)
   go_upto_region 10 with (at_builtin;go_must (refine cM _ rfl (.tmp 34) (.tmp 36) _ rfl w.heap.size 3 i0 _ 1 8 su pP jG mw mI rfl zO (.slice G k cg) k (ints (L.take k)) rfl sK ⟨w7.heap.size,0,none⟩ 1 1 [.int .i64 a] rfl rfl (jC _) (by simp [aD]) (by simp only [nu];omega) zO (by simp;have:=jg.size;omega) ?_;intro v9 w8 eu hgrow4 _ _))
   have tU:=cI sK hgrow4;have k6:=(k3.ay fq).dh tU zD;have Df:=(K9.ay fq).dh tU zD;have NG:=(NH.ay fq).grown hgrow4 (fun e=>by
    have h:=kj (NH.ay fq) sK;rcases h with h | h
    ·rw [h] at e;cases e
    ·exact h e.symm)
   have fz:=bY gS sK hgrow4 gS.size (az _);obtain ⟨G9,c9,rfl⟩:=cj eu;clear k3 K9 NH jg fH sK gS fq hgrow4 tU;refine aP (S:=fun w'=>Below w8.drew.heap.size w8.drew w') (E:=fun _=>false) zK ?_
   have dD:=aU (Below.refl w8.heap.size w8);replace k6:=k6.ay dD;replace Df:=Df.ay dD;replace NG:=NG.ay dD;replace eu:=bc eu dD;replace fz:=aF fz dD;clear dD;generalize w8.drew=w9 at *;refine wTk 2 [(0,38,.agg #[.slice A n c]),(2,40,.int .i64 a)] ?_ (Below.refl _ _) ?_
   ·intro w' hS;have c0:=(Df.ay hS).cell 0;simp at c0
    (repeat' (first | exact aC | refine au ⟨_,rfl,.inl ⟨rfl,?_⟩⟩ ?_))
    all_goals exact zG
   simp only [aR,Act.put,aj,ak,al];refine wTk 1 [(1,39,lyV l)] ?_ (Below.refl _ _) ?_
   ·intro w' hS;have fg:(dr 34 ⟨w.heap.size,0,none⟩).run aw w'= .ok (lyV l) w':=be w' w.heap.size 34 34 (lyC l) (0,0) _ (k6.ay hS) aJ rfl zK
    (repeat' (first | exact aC | refine au ⟨_,rfl,.inl ⟨rfl,?_⟩⟩ ?_))
    all_goals exact list.bI rfl rfl fg
   simp only [aR,Act.put,aj,ak,al];refine aE (i:=3) (o:=_) zK rfl (fun K hK=>?_)
   (try simp only [aq,ao,an])
   go_simp
   (with_reducible refine (dt l a 0 _ F.out zO).mono ?_)
   rintro e wa ⟨rfl,fq⟩;rw [xV.out];refine hK.out _ _ (fun _=>fq) ?_
   clear hK K
   (try simp only [Act.put,aj,ak,al])
   refine aE (i:=4) (o:=_) zK rfl (fun K hK=>?_)
   (try simp only [aq,ao,an])
   go_simp
   (with_reducible refine (jF A c zs n nx _ HS.out.2 (by have:=HS.out.1.below (aF fz fq);exact this.more (aF fz fq).size) jx.1 jx.2).mono ?_)
   rintro e wb ⟨rfl,ey⟩;have jH:=aF fq ey;refine hK.out _ _ (fun _=>jH) ?_
   clear hK K
   (try simp only [Act.put,aj,ak,al])
   have hv:zs.getD nx.toNat 0=(L.drop (k+1)).headD 0:=by rw [<- vR.out.2.1,<- xV.out]
   rw [hv];refine wTk 1 [(5,10,.int .i64 ((L.drop (k+1)).headD 0))] ?_ jH ?_
   ·intro w' hS
    (repeat' (first | exact aC | refine au ⟨_,rfl,.inl ⟨rfl,?_⟩⟩ ?_))
    all_goals exact zG
   simp only [aR,Act.put,aj,ak,al];refine aN zK ?_ _
   go_wp2_with fail
   refine ⟨⟨k+1,dN,rfl,aF fz jH,k6.ay jH,Df.ay jH,NG.ay jH,?_⟩,by have:=vR.out.2.2.2.1;simp only [lenOf];omega⟩
   unfold bd;rw [vR.out.2.2.1,cJ,vR.out.2.2.2.1];have h:=bc eu jH
   simpa [ints] using h
  ·have hkL:k=L.length:=zO;subst hkL;have e0:(L.drop L.length).headD 0=0:=zS;rw [e0];rw [pL] at bn ⊢
   go_wp2_with (refine aL rfl 34 (.tmp 3) rfl w.heap.size rfl 34 (lyC l) (0,0) _ k1 aJ rfl zK ?_)
   (with_reducible refine (dt l 0 0 _ F.out zO).mono ?_)
   rintro e w6 ⟨rfl,fz⟩;rw [OV.out]
   go_wp2_with fail
   go_ret
   exact ⟨G,cg,rfl,bc bn fz,aF hb fz⟩
def MK (l:Ly) (zs:List Int) (a:Int):Int:=zs.getD (nodeAt l a 1).toNat 0
def mo (l:Ly) (zs L:List Int):List Int:=L.map (MK l zs)
theorem rR (l:Ly) (s:Int) (A:Option Addr) (c n:Nat) (zs L:List Int) (w:World) (f:dU l) (h:gJ w w.heap.size A zs) (hn:zs.length=n) (hN:l.c.nodes<=1000)
  (qG:0<=(eW l s)/\(eW l s) < n) (gu:∀ a i,1<=a/\a<=l.c.nodes->0<=i/\i < 8->0<=nodeAt l a i/\nodeAt l a i < n) (ot:idxOf (zs.getD (eW l s).toNat 0)=L.headD 0) (mK:lY (fun a=>zs.getD (nodeAt l a 0).toNat 0) L) (nZ:∀ a∈L,1<=a/\a<=l.c.nodes) (jT:L.Nodup) (Md:L.length<=1000):
  Calls aw 39 #[lyV l,.agg #[.slice A n c],aa ab s] w fun e w'=>∃ B d,e=ai (.slice B (mo l zs L).length d)/\bd w' w.heap.size (.slice B (mo l zs L).length d) (mo l zs L)/\Below w.heap.size w w':=by
 have k0:=(Bk.made w 34 (lyC l)).alloc (ag #[.slice A n c] 37);have kM:=Bk.new (w.alloc (ag (lyC l) 34)) (g:=w.heap.size+1) zS 37 #[.slice A n c];have bz:=aB (aB (Below.refl w.heap.size w) (ag (lyC l) 34)) (ag #[.slice A n c] 37);have F:=ar f;have HS:=ar (au h hn);have HP:=ar (au gu (au nZ hN));obtain ⟨ri,AY⟩:=ph;have kG:=fun w2 (hb:Below w.heap.size w w2)=>ks l s A c n zs L w2 f (by have:=h.below hb;exact this.more hb.size) hn hN qG (fun a ha=>gu a 0 ha zD) ot mK nZ jT Md
 have q0:((w.alloc (ag (lyC l) 34)).alloc (ag #[.slice A n c] 37)).cell? ⟨w.heap.size+1,0,none⟩=some (.slice A n c):=by rw [kM.cell];rfl
 clear h hn gu ot mK nZ jT f qG hN;go_enter Tryz.func39,Tryz.ntmps39
 go_wp2_with (refine aL rfl 34 (.tmp 3) rfl w.heap.size rfl 34 (lyC l) (0,0) _ k0 aJ rfl zK ?_)
 generalize (w.alloc (ag (lyC l) 34)).alloc (ag #[.slice A n c] 37)=w1 at *
 (with_reducible refine (kG _ bz).mono ?_)
 rintro e w2 ⟨NB,nd,rfl,mT,hb⟩;clear kG q0;replace k0:=k0.ay hb;replace kM:=kM.ay hb;replace bz:=aF bz hb;clear hb;have Jb:=mT
 go_wp2_with fail
 go_loopw [7,15] (fun v7 v15 wr=>∃ k:Nat,k<=L.length/\v15=aa ab (k:Nat)/\Below w2.heap.size w2 wr/\bd wr w2.heap.size v7 ((L.take k).map (MK l zs))) (fun v7 v15 _=>L.length - (intOf v15).toNat)
 case atStart=>exact ⟨0,aY _,rfl,Below.refl _ _,cZ _ _ _ _⟩
 case round=>
  obtain ⟨k,hk,rfl,fK,bn⟩:=hrel;have hb:=bz.trans (fK.mono bz.size);obtain ⟨G,cg,rfl⟩:=cj bn;have k1:=k0.below fK k0.lt;have pN:=kM.below fK kM.lt
  by_cases dN:k < L.length
  ·obtain ⟨a,ha⟩:∃ a,L[k]? =some a:=⟨_,aO dN⟩;obtain ⟨nb,ndc,tL,-,BO⟩:=World.ownsRow.form mT zO;injection tL with tL e1 e2
   clear e1 e2;have qn:wr.cell? ⟨nb,k,none⟩=some (aa ab a):=by
    rw [fK.cell (p:=⟨nb,k,none⟩) BO];subst tL;rw [jj mT k zO];simp [ints,ha]
   have g1:decide ((k:Int) < L.length)=true:=by simp;omega
   have j1:(k:Int) < L.length:=zO;have Ke:1<=a/\a<=1000:=by have:=HP.out.2.1 a (bX ha);have:=HP.out.2.2;omega
   have jx:=HP.out.1 a 1 (HP.out.2.1 a (bX ha)) zD;have HA:=ar (au ha mT);have tJ:(L.take k).length=k:=by rw [jM];omega
   have oO:L.take (k+1)=L.take k++[a]:=by rw [j7,ha];rfl
   have HT:=ar (au tJ oO);obtain ⟨nx,lJ⟩:∃ z,nodeAt l a 1=z:=⟨_,rfl⟩;rw [lJ] at jx;have xV:=ar lJ;have HNB:=ar tL;rw [tL];unfold bd at bn;rw [List.length_map,tJ] at bn ⊢;clear ha mT oO lJ tJ tL
   go_upto_region 5 with fail
   clear qn g1;refine aP (S:=fun w'=>eU 3 wr.drew w') (E:=fun _=>false) zK ?_
   have dD:=aU (Below.refl wr.heap.size wr);replace k1:=k1.ay dD;replace pN:=pN.ay dD;replace bn:=bc bn dD;replace hb:=aF hb dD;replace fK:=fK.trans (dD.mono fK.size);clear dD;generalize wr.drew=w3 at *;have BS:eU 3 w3 w3:=fun _ _ _ _ h _=>h
   refine wTk 3 [(0,19,.slice G k cg),(1,20,.agg #[.slice A n c]),(3,22,aa ab a)] ?_ BS ?_
   ·intro w' hS;have c0:=(pN.dh hS zD).cell 0;simp at c0
    (repeat' (first | exact aC | refine au ⟨_,rfl,.inl ⟨rfl,?_⟩⟩ ?_))
    all_goals exact zG
   simp only [aR,Act.put,aj,ak,al];refine wTk 1 [(2,21,lyV l)] ?_ BS ?_
   ·intro w' hS;have fg:(dr 34 ⟨w.heap.size,0,none⟩).run aw w'= .ok (lyV l) w':=be w' w.heap.size 34 34 (lyC l) (0,0) _ (k1.dh hS zD) aJ rfl zK
    (repeat' (first | exact aC | refine au ⟨_,rfl,.inl ⟨rfl,?_⟩⟩ ?_))
    all_goals exact list.bI rfl rfl fg
   simp only [aR,Act.put,aj,ak,al];refine aE (i:=4) (o:=_) zK rfl (fun K hK=>?_)
   (try simp only [aq,ao,an])
   go_simp
   (with_reducible refine (dt l a 1 _ F.out zO).mono ?_)
   rintro e w4 ⟨rfl,jR⟩;rw [xV.out];refine hK.out _ _ (fun _=>jv jR) ?_
   clear hK K
   (try simp only [Act.put,aj,ak,al])
   refine aE (i:=5) (o:=_) zK rfl (fun K hK=>?_)
   (try simp only [aq,ao,an])
   go_simp
   (with_reducible refine (jF A c zs n nx _ HS.out.2 (by have:=HS.out.1.below (aF hb jR);exact this.more (aF hb jR).size) jx.1 jx.2).mono ?_)
   rintro e w5 ⟨rfl,gS⟩;have vz:=aF jR gS;refine hK.out _ _ (fun _=>jv vz) ?_
   clear hK K
   (try simp only [Act.put,aj,ak,al])
   obtain ⟨vv,hvv⟩:∃ z,zs.getD nx.toNat 0=z:=⟨_,rfl⟩;rw [hvv];have kE:=bc bn vz;refine aE (i:=6) (o:=_) zK rfl (fun K hK=>?_)
   (try simp only [aq,ao,an])
   go_simp;have kN:=Bk.made w5 3 #[aa ab vv];have fq:=aB (Below.refl w5.heap.size w5) (ag #[aa ab vv] 3);have fz:=aF vz fq;refine hK.out _ _ (fun _=>jv fz) ?_
   clear hK K;replace kE:=bc kE fq;generalize w5.alloc (ag #[aa ab vv] 3)=w6 at *;generalize w5.heap.size=gN at *
   (try simp only [Act.put,aj,ak,al])
   refine aE (i:=7) (o:=_) zK rfl (fun K hK=>?_)
   (try simp only [aq,ao,an])
   have hbw6:=aF hb fz;have hbw6b:=fK.trans (fz.mono fK.size);have hs26:=hbw6b.size;refine eY AY (.tmp 19) (.tmp 25) rfl w2.heap.size (.slice G k cg) k (ints ((L.take k).map (MK l zs))) rfl kE (some ⟨gN,0,none⟩) 1 1 _ rfl (pV kN rfl kN.lt) (by simp [aD]) zO zO hs26 (fun v9 w7 gy de=>?_)
   have hkt7:=cI kE de;have hbw7:=bY hbw6b kE de hs26 (az _);refine hK.out _ _ (fun _=>(jv fz).trans hkt7) ?_
   clear hK K
   (try simp only [Act.put,aj,ak,al])
   refine wTk 1 [(8,7,v9)] ?_ ((jv fz).trans hkt7) ?_
   ·intro w' hS
    (repeat' (first | exact aC | refine au ⟨_,rfl,.inl ⟨rfl,?_⟩⟩ ?_))
    all_goals exact zG
   simp only [aR,Act.put,aj,ak,al];refine aN zK ?_ _
   go_wp2_with fail
   refine ⟨⟨k+1,dN,by go_num,hbw7,?_⟩,by simp [intOf];omega⟩
   unfold bd;rw [HT.out.2,List.map_append,cJ,List.length_map,HT.out.1];have e:MK l zs a=vv:=by rw [<- hvv,<- xV.out];rfl
   simpa [ints,e] using gy
  ·obtain rfl:k=L.length:=zO;have g1:decide ((L.length:Int) < L.length)=false:=zS;rw [pL] at bn ⊢
   go_wp2_with fail
   go_ret
   have e:((L.map (MK l zs)).length)=(mo l zs L).length:=rfl;exact ⟨G,cg,rfl,eI bn bz.size,hb⟩
end Go.Proofs.YtikdaeddbkopeaaGreatR.stack
namespace Go.Proofs.YtikdaeddbkopeaaGreatR.segment
open Go.RowKit
attribute [local go_sem ↓] aV aW
theorem jF (A:Option Addr) (c:Nat) (zs:List Int) (n:Nat) (k:Int) (w:World) (hn:zs.length=n) (h:gJ w w.heap.size A zs) (h0:0<=k) (h1:k < n):
  Calls aw 56 #[.agg #[.slice A n c],aa ab k] w (gh (zs.getD k.toNat 0) w):=by
 obtain ⟨j,rfl⟩:∃ j:Nat,k=j:=⟨k.toNat,zO⟩;have g0:decide ((j:Int) < 0)=false:=zS;have g1:decide ((n:Int)<=j)=false:=by simp;omega
 obtain ⟨x,hx⟩:∃ x,zs[j]? =some x:=⟨_,aO zO⟩;have e:zs.getD (j:Int).toNat 0=x:=by simp [hx]
 rw [e];obtain ⟨b,o,hA,ey,hc⟩:=h zO;have q:=hc j x hx;subst hA;have i1:(j:Int) < n:=zO;have hb:=aB (Below.refl w.heap.size w) (ag #[af (some ⟨b,o,none⟩) n c] 37);have kM:=Bk.made w 37 #[af (some ⟨b,o,none⟩) n c];have q0:(w.alloc (ag #[af (some ⟨b,o,none⟩) n c] 37)).cell? ⟨w.heap.size,0,none⟩=some (af (some ⟨b,o,none⟩) n c):=by rw [kM.cell];rfl
 replace q:=(cO hb ey).trans q;clear e hc h hx hn kM;go_enter Tryz.func56,Tryz.ntmps56
 go_wp2
 go_ret
 exact ⟨rfl,hb⟩
theorem ks (l:Ly) (s:Int) (A:Option Addr) (c n:Nat) (zs L:List Int) (w:World) (f:dU l) (h:gJ w w.heap.size A zs) (hn:zs.length=n) (hN:l.c.nodes<=1000)
  (qG:0<=(dT l s)/\(dT l s) < n) (gu:∀ a,1<=a/\a<=l.c.nodes->0<=nodeAt l a 0/\nodeAt l a 0 < n) (ot:idxOf (zs.getD (dT l s).toNat 0)=L.headD 0) (mK:lY (fun a=>zs.getD (nodeAt l a 0).toNat 0) L) (nZ:∀ a∈L,1<=a/\a<=l.c.nodes) (jT:L.Nodup) (Md:L.length<=1000):
  Calls aw 28 #[lyV l,.agg #[.slice A n c],.int .i64 s] w fun e w'=>∃ B d,e= .returned (.slice B L.length d)/\bd w' w.heap.size (.slice B L.length d) L/\Below w.heap.size w w':=by
 have k0:=(Bk.made w 34 (lyC l)).alloc (.cells #[.slice A n c] 37);have kM:=Bk.new (w.alloc (.cells (lyC l) 34)) (g:=w.heap.size+1) zS 37 #[.slice A n c];have bz:=aB (aB (Below.refl w.heap.size w) (.cells (lyC l) 34)) (.cells #[.slice A n c] 37);have F:=ar f;have HS:=ar (au h hn);have HP:=ar (au gu (au mK (au nZ (au jT ot))));have Du:nodeAt l 0 0= -1:=by unfold nodeAt;rw [if_pos zO]
 have OV:=ar Du;have HT:=ar qG;have q0:((w.alloc (.cells (lyC l) 34)).alloc (.cells #[.slice A n c] 37)).cell? ⟨w.heap.size+1,0,none⟩=some (.slice A n c):=by rw [kM.cell];rfl
 clear h hn gu ot mK nZ jT f Du qG;go_enter Tryz.func28,Tryz.ntmps28
 go_wp2_with (refine aL rfl 34 (.tmp 3) rfl w.heap.size rfl 34 (lyC l) (0,0) _ k0 aJ rfl zK ?_)
 generalize (w.alloc (.cells (lyC l) 34)).alloc (.cells #[.slice A n c] 37)=w1 at *
 (with_reducible refine (uq l s _ F.out).mono ?_)
 rintro e w2 ⟨rfl,hb⟩;obtain ⟨tp,qG⟩:∃ z,(dT l s)=z:=⟨_,rfl⟩;have HTP:=ar qG;rw [qG];have I8:=HT.out;rw [qG] at I8;clear qG;have g0:decide (tp < 0)=false:=by simp;omega
 replace k0:=k0.ay hb;replace kM:=kM.ay hb;replace bz:=aF bz hb;clear hb q0;have HT2:=ar I8;have tn:¬ tp < 0:=zO;clear I8;have mU:(Instr.makeMap 114 none).run aw w2= .ok (.map (some w2.heap.size)) (w2.alloc (.map #[] 0)):=zK
 go_wp2_with (refine aL rfl 37 (.tmp 4) rfl (w.heap.size+1) rfl 37 #[.slice A n c] (0,0) _ (kM.alloc (.map #[] 0)) Tryz.underlying37 rfl zK ?_)
 clear mU;have kD:=uQ w2;replace k0:=k0.alloc (.map #[] 0);replace kM:=kM.alloc (.map #[] 0);have z2:w.heap.size<=w2.heap.size:=bz.size;replace bz:=aB bz (.map #[] 0);generalize w2.alloc (.map #[] 0)=w3 at *;generalize w2.heap.size=gD at *
 (try clear q0)
 have HGD:=ar z2;clear z2
 (with_reducible refine (jF A c zs n tp _ HS.out.2 (by have:=HS.out.1.below bz;exact this.more bz.size) HT2.out.1 HT2.out.2).mono ?_)
 rintro e w4 ⟨rfl,hb⟩;replace k0:=k0.ay hb;replace kM:=kM.ay hb;replace kD:=kD.ay hb;replace bz:=aF bz hb;clear hb;obtain ⟨fw,Cr⟩:∃ x,zs.getD tp.toNat 0=x:=⟨_,rfl⟩;rw [Cr]
 go_wp2_with fail
 (with_reducible refine (gV fw _).mono ?_)
 rintro e w5 ⟨rfl,hb⟩;replace k0:=k0.ay hb;replace kM:=kM.ay hb;replace kD:=kD.ay hb;replace bz:=aF bz hb;clear hb;have hx:fw % 65536=L.headD 0:=by rw [<- Cr,<- HTP.out];exact HP.out.2.2.2.2
 rw [hx];clear hx Cr;generalize (fw / 65536 % 2==1)=z1;generalize fw / 131072 % 268435456=z2;obtain ⟨hd,uN⟩:∃ x,L.headD 0=x:=⟨_,rfl⟩;rw [uN];have HHD:=ar uN;clear uN;have A6:∀ w:World,(uP 81 (.agg #[.int .i64 hd,.bool z1,.int .i64 z2]) 0).run aw w= .ok (.int .i64 hd) w:=fun w=>by kernel_rfl
 go_wp2_with fail
 clear A6
 go_loopw [8,10] (fun v8 v10 wr=>∃ k:Nat,k<=L.length/\v10= .int .i64 ((L.drop k).headD 0)/\Below w.heap.size w wr/\Bk wr w.heap.size 34 (lyC l)/\Bk wr (w.heap.size+1) 37 #[.slice A n c]/\dv wr gD k (L.take k)/\bd wr w.heap.size v8 (L.take k)) (fun v8 _ _=>L.length - lenOf v8)
 case atStart=>exact ⟨0,aY _,by rw [<- HHD.out];rfl,bz,k0,kM,kD,cZ _ _ _ _⟩
 case round=>
  obtain ⟨k,hk,rfl,hb,k1,pN,kD1,bn⟩:=hrel;clear k0 kM kD bz;obtain ⟨G,cg,rfl⟩:=cj bn
  by_cases dN:k < L.length
  ·obtain ⟨a,ha⟩:∃ a,L[k]? =some a:=⟨_,aO dN⟩;obtain ⟨gu,mK,nZ,jT,-⟩:=HP.out;have oV:L.drop k=a :: L.drop (k+1):=r9 ha;have Ke:=nZ a (bX ha);have rl:(fun a=>zs.getD (nodeAt l a 0).toNat 0) a=(L.drop (k+1)).headD 0:=by
    have:=mK.drop k;rw [oV] at this;exact this.1
   have yO:¬ a∈L.take k:=by
    intro hm;obtain ⟨j,hj⟩:=List.getElem?_of_mem hm;have hjl:=(a8.1 hj).1;rw [jM] at hjl;rw [List.getElem?_take_of_lt zO] at hj;have:=(List.getElem?_inj zO jT).1 (hj.trans ha.symm);omega
   have oG:(L.drop k).headD 0=a:=by rw [oV];rfl
   have jx:=gu a Ke;have oO:L.take (k+1)=L.take k++[a]:=by rw [j7,ha];rfl
   have tJ:(L.take k).length=k:=by rw [jM];omega
   rw [oG];obtain ⟨nx,lJ⟩:∃ c,nodeAt l a 0=c:=⟨_,rfl⟩;rw [lJ] at jx;have yT:0<=a/\a<=1000:=zO;have xV:=ar lJ;have vR:=ar (au ha (au rl (au oO (au tJ yO))));have HO:=ar bn;clear jT gu oV Ke rl yO oG oO lJ ha tJ mK nZ bn
   go_wp2_with (refine aL rfl 34 (.tmp 3) rfl w.heap.size rfl 34 (lyC l) (0,0) _ k1 aJ rfl zK ?_)
   (with_reducible refine (dt l a 0 _ F.out zO).mono ?_)
   rintro e w6 ⟨rfl,fz⟩;rw [xV.out];have g1:decide ((0:Int)<=nx)=true:=by simp;omega
   have k2:=k1.ay fz;have nA:=pN.ay fz;have L1:=kD1.ay fz;have cY:=aF hb fz;have cP:=bc HO.out fz;have wY:=L1.look yT.1 zO;rw [show decide (a∈L.take k)=false from decide_eq_false vR.out.2.2.2.2] at wY
   clear k1 pN kD1 hb fz HO;obtain ⟨D,hD,DC⟩:=L1;unfold bd at cP;rw [vR.out.2.2.2.1] at cP;obtain ⟨i0,pP,jG,mw,mI⟩:=xE jw
   go_wp2_with (at_mapUpdate;refine wpList_mapUpdate_own _ rfl _ _ _ 114 rfl 3 4 pR Tryz.underlying114 _ gD k D rfl hD (by simp only [nu];omega) _ _ (.int .i64 a) rfl rfl (uc yT.1 zO) (.lit (.bool true)) [] (plainElem_bool Tryz.underlying4 true) ?_)
   intro w7 hD7 hg7;have yP:some w.heap.size≠some gD/\some (w.heap.size+1)≠some gD:=by
    have h1:=mg (dv.of hD DC) k2;have h2:=mg (dv.of hD DC) nA;exact ⟨fun e=>h1 (by injection e),fun e=>h2 (by injection e)⟩
   have k3:Bk w7 w.heap.size 34 (lyC l):=(hg7.block _ k2.lt yP.1).trans k2;have K9:Bk w7 (w.heap.size+1) 37 #[.slice A n c]:=(hg7.block _ nA.lt yP.2).trans nA;have fH:=World.ownsRow.kept cP hg7 (kj (dv.of hD DC) cP);have jg:Below w.heap.size w w7:=cY.grown hg7 cY.size (fun k hk=>by injection hk with hk;have:=HGD.out;omega)
   have NH:dv w7 gD (k+1) (L.take (k+1)):=by
    rw [vR.out.2.2.1];exact dv.of hD7 (DC.put yT.1 zO)
   clear wY hg7 hD7 DC hD k2 nA cY cP yP;have sK:=World.ownsRow.alloc fH (.cells #[.int .i64 a] 3);have gS:=aB jg (.cells #[.int .i64 a] 3);have fq:=aB (Below.refl w7.heap.size w7) (.cells #[.int .i64 a] 3)
   go_upto_region 10 with (at_builtin;go_must (refine cM _ rfl (.tmp 34) (.tmp 36) _ rfl w.heap.size 3 i0 _ 1 8 su pP jG mw mI rfl zO (.slice G k cg) k (ints (L.take k)) rfl sK ⟨w7.heap.size,0,none⟩ 1 1 [.int .i64 a] rfl rfl (jC _) (by simp [aD]) (by simp only [nu];omega) zO (by simp;have:=jg.size;omega) ?_;intro v9 w8 eu hgrow4 _ _))
   have tU:=cI sK hgrow4;have k6:=(k3.ay fq).dh tU zD;have Df:=(K9.ay fq).dh tU zD;have NG:=(NH.ay fq).grown hgrow4 (fun e=>by
    have h:=kj (NH.ay fq) sK;rcases h with h | h
    ·rw [h] at e;cases e
    ·exact h e.symm)
   have fz:=bY gS sK hgrow4 gS.size (az _);obtain ⟨G9,c9,rfl⟩:=cj eu;clear k3 K9 NH jg fH sK gS fq hgrow4 tU;refine aP (S:=fun w'=>Below w8.drew.heap.size w8.drew w') (E:=fun _=>false) zK ?_
   have dD:=aU (Below.refl w8.heap.size w8);replace k6:=k6.ay dD;replace Df:=Df.ay dD;replace NG:=NG.ay dD;replace eu:=bc eu dD;replace fz:=aF fz dD;clear dD;generalize w8.drew=w9 at *;refine wTk 2 [(0,38,.agg #[.slice A n c]),(2,40,.int .i64 a)] ?_ (Below.refl _ _) ?_
   ·intro w' hS;have c0:=(Df.ay hS).cell 0;simp at c0
    (repeat' (first | exact aC | refine au ⟨_,rfl,.inl ⟨rfl,?_⟩⟩ ?_))
    all_goals exact zG
   simp only [aR,Act.put,aj,ak,al];refine wTk 1 [(1,39,lyV l)] ?_ (Below.refl _ _) ?_
   ·intro w' hS;have fg:(dr 34 ⟨w.heap.size,0,none⟩).run aw w'= .ok (lyV l) w':=be w' w.heap.size 34 34 (lyC l) (0,0) _ (k6.ay hS) aJ rfl zK
    (repeat' (first | exact aC | refine au ⟨_,rfl,.inl ⟨rfl,?_⟩⟩ ?_))
    all_goals exact list.bI rfl rfl fg
   simp only [aR,Act.put,aj,ak,al];refine aE (i:=3) (o:=_) zK rfl (fun K hK=>?_)
   (try simp only [aq,ao,an])
   go_simp
   (with_reducible refine (dt l a 0 _ F.out zO).mono ?_)
   rintro e wa ⟨rfl,fq⟩;rw [xV.out];refine hK.out _ _ (fun _=>fq) ?_
   clear hK K
   (try simp only [Act.put,aj,ak,al])
   refine aE (i:=4) (o:=_) zK rfl (fun K hK=>?_)
   (try simp only [aq,ao,an])
   go_simp
   (with_reducible refine (jF A c zs n nx _ HS.out.2 (by have:=HS.out.1.below (aF fz fq);exact this.more (aF fz fq).size) jx.1 jx.2).mono ?_)
   rintro e wb ⟨rfl,ey⟩;have jH:=aF fq ey;refine hK.out _ _ (fun _=>jH) ?_
   clear hK K
   (try simp only [Act.put,aj,ak,al])
   have hv:zs.getD nx.toNat 0=(L.drop (k+1)).headD 0:=by rw [<- vR.out.2.1,<- xV.out]
   rw [hv];refine wTk 1 [(5,10,.int .i64 ((L.drop (k+1)).headD 0))] ?_ jH ?_
   ·intro w' hS
    (repeat' (first | exact aC | refine au ⟨_,rfl,.inl ⟨rfl,?_⟩⟩ ?_))
    all_goals exact zG
   simp only [aR,Act.put,aj,ak,al];refine aN zK ?_ _
   go_wp2_with fail
   refine ⟨⟨k+1,dN,rfl,aF fz jH,k6.ay jH,Df.ay jH,NG.ay jH,?_⟩,by have:=vR.out.2.2.2.1;simp only [lenOf];omega⟩
   unfold bd;rw [vR.out.2.2.1,cJ,vR.out.2.2.2.1];have h:=bc eu jH
   simpa [ints] using h
  ·have hkL:k=L.length:=zO;subst hkL;have e0:(L.drop L.length).headD 0=0:=zS;rw [e0];rw [pL] at bn ⊢
   go_wp2_with (refine aL rfl 34 (.tmp 3) rfl w.heap.size rfl 34 (lyC l) (0,0) _ k1 aJ rfl zK ?_)
   (with_reducible refine (dt l 0 0 _ F.out zO).mono ?_)
   rintro e w6 ⟨rfl,fz⟩;rw [OV.out]
   go_wp2_with fail
   go_ret
   exact ⟨G,cg,rfl,bc bn fz,aF hb fz⟩
def KM (l:Ly) (zs:List Int) (a:Int) (i:Nat):Int:=zs.getD (nodeAt l a (1+(i:Int))).toNat 0
def IE (l:Ly) (zs:List Int) (a:Int) (k:Nat):List Int:=(xF k).filterMap fun i=>if 1 < KM l zs a i then some (KM l zs a i - 2) else none
def mo (l:Ly) (zs L:List Int):List Int:=L.flatMap fun a=>IE l zs a 5
theorem KN (l:Ly) (zs:List Int) (a:Int) (k:Nat):IE l zs a (k+1)=IE l zs a k++(if 1 < KM l zs a k then [KM l zs a k - 2] else []):=by
 unfold IE;rw [List.range_succ,List.filterMap_append]
 congr 1
 by_cases h:1 < KM l zs a k <;> simp [h]
theorem rR (l:Ly) (s:Int) (A:Option Addr) (c n:Nat) (zs L:List Int) (w:World) (f:dU l) (h:gJ w w.heap.size A zs) (hn:zs.length=n) (hN:l.c.nodes<=1000)
  (qG:0<=(dT l s)/\(dT l s) < n) (gu:∀ a i,1<=a/\a<=l.c.nodes->0<=i/\i < 8->0<=nodeAt l a i/\nodeAt l a i < n) (ot:idxOf (zs.getD (dT l s).toNat 0)=L.headD 0) (mK:lY (fun a=>zs.getD (nodeAt l a 0).toNat 0) L) (nZ:∀ a∈L,1<=a/\a<=l.c.nodes) (jT:L.Nodup) (Md:L.length<=1000) (xw:∀ a∈L,∀ i:Nat,i < 5-> -4611686018427387904<=zs.getD (nodeAt l a (1+(i:Int))).toNat 0/\zs.getD (nodeAt l a (1+(i:Int))).toNat 0<=4611686018427387904):
  Calls aw 40 #[lyV l,.agg #[.slice A n c],aa ab s] w fun e w'=>∃ B d,e=ai (.slice B (mo l zs L).length d)/\bd w' w.heap.size (.slice B (mo l zs L).length d) (mo l zs L)/\Below w.heap.size w w':=by
 have k0:=(Bk.made w 34 (lyC l)).alloc (ag #[.slice A n c] 37);have kM:=Bk.new (w.alloc (ag (lyC l) 34)) (g:=w.heap.size+1) zS 37 #[.slice A n c];have bz:=aB (aB (Below.refl w.heap.size w) (ag (lyC l) 34)) (ag #[.slice A n c] 37);have F:=ar f;have HS:=ar (au h hn);have HP:=ar (au gu (au nZ hN));have HV:=ar xw;clear xw;obtain ⟨ri,AY⟩:=ph;have kG:=fun w2 (hb:Below w.heap.size w w2)=>ks l s A c n zs L w2 f (by have:=h.below hb;exact this.more hb.size) hn hN qG (fun a ha=>gu a 0 ha zD) ot mK nZ jT Md
 have q0:((w.alloc (ag (lyC l) 34)).alloc (ag #[.slice A n c] 37)).cell? ⟨w.heap.size+1,0,none⟩=some (.slice A n c):=by rw [kM.cell];rfl
 clear h hn gu ot mK nZ jT f qG hN;go_enter Tryz.func40,Tryz.ntmps40
 go_wp2_with (refine aL rfl 34 (.tmp 3) rfl w.heap.size rfl 34 (lyC l) (0,0) _ k0 aJ rfl zK ?_)
 generalize (w.alloc (ag (lyC l) 34)).alloc (ag #[.slice A n c] 37)=w1 at *
 (with_reducible refine (kG _ bz).mono ?_)
 rintro e w2 ⟨NB,nd,rfl,mT,hb⟩;clear kG q0;replace k0:=k0.ay hb;replace kM:=kM.ay hb;replace bz:=aF bz hb;clear hb;have Jb:=mT
 go_wp2_with fail
 go_loopw [7,17] (fun v7 v17 wr=>∃ k:Nat,k<=L.length/\v17=aa ab (k:Nat)/\Below w2.heap.size w2 wr/\bd wr w2.heap.size v7 (mo l zs (L.take k))/\(mo l zs (L.take k)).length<=5 * k) (fun v7 v17 _=>L.length - (intOf v17).toNat)
 case atStart=>exact ⟨0,aY _,rfl,Below.refl _ _,cZ _ _ _ _,az _⟩
 case round=>
  obtain ⟨k,hk,rfl,fK,bn,hlen⟩:=hrel;have hb:=bz.trans (fK.mono bz.size)
  by_cases dN:k < L.length
  ·obtain ⟨a,ha⟩:∃ a,L[k]? =some a:=⟨_,aO dN⟩;obtain ⟨nb,ndc,tL,-,BO⟩:=World.ownsRow.form mT zO;injection tL with tL e1 e2
   clear e1 e2;have qn:wr.cell? ⟨nb,k,none⟩=some (aa ab a):=by
    rw [fK.cell (p:=⟨nb,k,none⟩) BO];subst tL;rw [jj mT k zO];simp [ints,ha]
   have g1:decide ((k:Int) < L.length)=true:=by simp;omega
   have j1:(k:Int) < L.length:=zO;have ham:=bX ha;have Ke:1<=a/\a<=1000:=by have:=HP.out.2.1 a ham;have:=HP.out.2.2;omega
   have oO:L.take (k+1)=L.take k++[a]:=by rw [j7,ha];rfl
   obtain ⟨R,hR⟩:∃ z,mo l zs (L.take k)=z:=⟨_,rfl⟩;have hR2:mo l zs (L.take (k+1))=R++IE l zs a 5:=by rw [oO,<- hR];unfold mo;rw [List.flatMap_append];simp
   rw [hR] at bn hlen;have HA:=ar (au ham (au mT hR2));have HNB:=ar tL;rw [tL];clear ha ham mT oO tL hR hR2
   go_wp2_with fail
   clear qn g1 hb;generalize wr=wo at *
   go_loopw [7,21] (fun v7 v21 wr=>∃ (i:Nat) (R':List Int),i<=5/\v21=aa ab (i:Nat)/\Below w2.heap.size w2 wr/\R'=R++IE l zs a i/\bd wr w2.heap.size v7 R'/\R'.length<=5 * k+i) (fun v7 v21 _=>5 - (intOf v21).toNat)
   case atStart=>exact ⟨0,R,zO,rfl,fK,by simp [IE],bn,hlen⟩
   case round=>
    obtain ⟨i,R',hi,rfl,pr,hR',cP,hlen2⟩:=hrel;clear bn hlen;have hb:=bz.trans (pr.mono bz.size);have k1:=k0.below pr k0.lt;have pN:=kM.below pr kM.lt;obtain ⟨G,cg,rfl⟩:=cj cP
    by_cases yQ:i < 5
    ·have g1:decide ((i:Int) < 5)=true:=by simp;omega
     have jx:=HP.out.1 a (1+(i:Int)) (HP.out.2.1 a HA.out.1) zO;have xw:=HV.out a HA.out.1 i yQ;have NQ:KM l zs a i=zs.getD (nodeAt l a (1+(i:Int))).toNat 0:=rfl;have iV:=KN l zs a i;rw [NQ] at iV;obtain ⟨nx,lJ⟩:∃ z,nodeAt l a (1+(i:Int))=z:=⟨_,rfl⟩;rw [lJ] at jx xw iV;obtain ⟨vv,hvv⟩:∃ z,zs.getD nx.toNat 0=z:=⟨_,rfl⟩;rw [hvv] at xw iV;have xV:=ar (au lJ (au hvv (au iV hR')));have kw1:IntKind.i64.wrap (1+(i:Int))=1+(i:Int):=cV _ zO;have kw2:IntKind.i64.wrap (vv - 2)=vv - 2:=cV _ zO;clear lJ hvv iV NQ hR'
     go_upto_region 8 with fail
     clear g1;refine aP (S:=fun w'=>Below wr.drew.heap.size wr.drew w') (E:=fun _=>false) zK ?_
     have dD:=aU (Below.refl wr.heap.size wr);replace k1:=k1.ay dD;replace pN:=pN.ay dD;replace cP:=bc cP dD;replace hb:=aF hb dD;replace pr:=pr.trans (dD.mono pr.size);clear dD;generalize wr.drew=w3 at *;refine wTk 4 [(0,24,.agg #[.slice A n c]),(2,26,aa ab a),(3,27,aa ab (i:Nat)),(4,28,aa ab (1+(i:Int)))] ?_ (Below.refl _ _) ?_
     ·intro w' hS;have c0:=(pN.ay hS).cell 0;simp at c0
      (repeat' (first | exact aC | refine au ⟨_,rfl,.inl ⟨rfl,?_⟩⟩ ?_))
      all_goals exact zG
     simp only [aR,Act.put,aj,ak,al];refine wTk 1 [(1,25,lyV l)] ?_ (Below.refl _ _) ?_
     ·intro w' hS;have fg:(dr 34 ⟨w.heap.size,0,none⟩).run aw w'= .ok (lyV l) w':=be w' w.heap.size 34 34 (lyC l) (0,0) _ (k1.ay hS) aJ rfl zK
      (repeat' (first | exact aC | refine au ⟨_,rfl,.inl ⟨rfl,?_⟩⟩ ?_))
      all_goals exact list.bI rfl rfl fg
     simp only [aR,Act.put,aj,ak,al];refine aE (i:=5) (o:=_) zK rfl (fun K hK=>?_)
     (try simp only [aq,ao,an])
     go_simp
     (with_reducible refine (dt l a (1+(i:Int)) _ F.out zO).mono ?_)
     rintro e w4 ⟨rfl,jR⟩;rw [xV.out.1];refine hK.out _ _ (fun _=>jR) ?_
     clear hK K
     (try simp only [Act.put,aj,ak,al])
     refine aE (i:=6) (o:=_) zK rfl (fun K hK=>?_)
     (try simp only [aq,ao,an])
     go_simp
     (with_reducible refine (jF A c zs n nx _ HS.out.2 (by have:=HS.out.1.below (aF hb jR);exact this.more (aF hb jR).size) jx.1 jx.2).mono ?_)
     rintro e w5 ⟨rfl,gS⟩;rw [xV.out.2.1];have vz:=aF jR gS;refine hK.out _ _ (fun _=>vz) ?_
     clear hK K
     (try simp only [Act.put,aj,ak,al])
     refine wTk 1 [(7,11,aa ab vv)] ?_ vz ?_
     ·intro w' hS
      (repeat' (first | exact aC | refine au ⟨_,rfl,.inl ⟨rfl,?_⟩⟩ ?_))
      all_goals exact zG
     simp only [aR,Act.put,aj,ak,al];refine aN zK ?_ _;replace cP:=bc cP vz;replace pr:=pr.trans (vz.mono pr.size);clear vz jR gS kw1 hb
     by_cases hv1:1 < vv
     ·have g2:decide ((1:Int) < vv)=true:=by simp;omega
      obtain ⟨i0,pP,jG,mw,mI⟩:=xE jw;have sK:=World.ownsRow.alloc cP (ag #[aa ab (vv - 2)] 3);have fz:=pr.trans ((aB (Below.refl w5.heap.size w5) (ag #[aa ab (vv - 2)] 3)).mono pr.size)
      go_wp2_with (at_builtin;go_must (refine cM _ rfl (.tmp 33) (.tmp 36) _ rfl w2.heap.size 3 i0 _ 1 8 su pP jG mw mI rfl zO (.slice G R'.length cg) R'.length (ints R') rfl sK ⟨w5.heap.size,0,none⟩ 1 1 [aa ab (vv - 2)] rfl rfl (jC _) (by simp [aD]) (by simp only [nu];omega) zO fz.size ?_;intro v9 w6 eu hgrow4 _ _))
      refine ⟨⟨i+1,R'++[vv - 2],zO,by go_num,bY fz sK hgrow4 fz.size (az _),?_,?_,by simp;omega⟩,by simp [intOf];omega⟩
      ·rw [xV.out.2.2.1,if_pos hv1,xV.out.2.2.2,List.append_assoc]
      ·unfold bd;rw [cJ]
       simpa [ints] using eu
     ·have g2:decide ((1:Int) < vv)=false:=by simp;omega
      go_wp2_with fail
      refine ⟨⟨i+1,R',zO,by go_num,pr,?_,cP,zO⟩,by simp [intOf];omega⟩
      rw [xV.out.2.2.1,if_neg hv1,xV.out.2.2.2,List.append_nil]
    ·obtain rfl:i=5:=zO;have g1:decide (((5:Nat):Int) < 5)=false:=zD
     go_wp2_with fail
     have e:R'=mo l zs (L.take (k+1)):=by rw [HA.out.2.2,hR']
     refine ⟨⟨k+1,dN,by go_num,pr,?_,?_⟩,by simp [intOf];omega⟩
     ·rw [<- e];exact cP
     ·rw [<- e];omega
  ·obtain rfl:k=L.length:=zO;have g1:decide ((L.length:Int) < L.length)=false:=zS;rw [pL] at bn;obtain ⟨G,cg,rfl⟩:=cj bn
   go_wp2_with fail
   go_ret
   exact ⟨G,cg,rfl,eI bn bz.size,hb⟩
end Go.Proofs.YtikdaeddbkopeaaGreatR.segment
namespace Go.Proofs.YtikdaeddbkopeaaGreatR
open Go.RowKit
attribute [local go_sem ↓] aV aW
def Kv (R:List Int) (w:World) (e:lb) (w':World):Prop:=∃ B d,e=ai (.slice B R.length d)/\bd w' w.heap.size (.slice B R.length d) R/\Below w.heap.size w w'
def rM (k:Int) (R:List Int) (w:World) (e:lb) (w':World):Prop:=∃ B d,e=ai (.agg #[aa ab k,af none 0 0,.slice B R.length d])/\bd w' w.heap.size (.slice B R.length d) R/\Below w.heap.size w w'
theorem zh (l:Ly) (s:Int) (A:Option Addr) (c n:Nat) (R:List Int) (w:World) (kG:∀ w2,Below w.heap.size w w2->Calls aw 39 #[lyV l,.agg #[.slice A n c],aa ab s] w2 (Kv R w2)):
  Calls aw 17 #[lyV l,.agg #[.slice A n c],aa ab 2,aa ab s] w (rM 2 R w):=by
 have k0:=((Bk.made w 34 (lyC l)).alloc (ag #[.slice A n c] 37)).alloc (ag #[aa ab 0,af none 0 0,af none 0 0] 61);have kM:=(Bk.new (w.alloc (ag (lyC l) 34)) (g:=w.heap.size+1) zS 37 #[.slice A n c]).alloc (ag #[aa ab 0,af none 0 0,af none 0 0] 61);have kC:=Bk.new ((w.alloc (ag (lyC l) 34)).alloc (ag #[.slice A n c] 37)) (g:=w.heap.size+1+1) zS 61 #[aa ab 0,af none 0 0,af none 0 0];have bz:=aB (aB (aB (Below.refl w.heap.size w) (ag (lyC l) 34)) (ag #[.slice A n c] 37)) (ag #[aa ab 0,af none 0 0,af none 0 0] 61);go_enter Tryz.func17,Tryz.ntmps17
 go_wp2_with (first | (refine aL rfl 34 (.tmp 4) rfl w.heap.size rfl 34 (lyC l) (0,0) _ k0 aJ rfl zK ?_) | (refine aL rfl 37 (.tmp 5) rfl (w.heap.size+1) rfl 37 #[.slice A n c] (0,0) _ kM Tryz.underlying37 rfl zK ?_))
 generalize ((w.alloc (ag (lyC l) 34)).alloc (ag #[.slice A n c] 37)).alloc (ag #[aa ab 0,af none 0 0,af none 0 0] 61)=w1 at *
 (with_reducible refine (kG _ bz).mono ?_)
 rintro e w2 ⟨B,d,rfl,bn,hb⟩;replace kC:=kC.ay hb;have cY:=aF bz hb;have z1:w.heap.size<=w1.heap.size:=bz.size;have c0:=kC.cell 0;have c1:=kC.cell 1;have c2:=kC.cell 2;have f0:=kC.free 0;have f1:=kC.free 1;have f2:=kC.free 2;have lC:=kC.lt;simp at c0 c1 c2;have HF:=ar (au bn (au cY (au z1 kC)));clear bn hb bz z1 k0 kM kC kG cY
 go_wp2_with fail
 obtain ⟨bn,cY,z1,kC⟩:=HF.out;have t1:=cy kC 0 (aa ab 2);have NI:=kC.stored 0 (aa ab 2);have t2:=cy NI 1 (af none 0 0);have xv:=NI.stored 1 (af none 0 0);have t3:=cy xv 2 (.slice B R.length d);have kC3:=xv.stored 2 (.slice B R.length d);refine aX (v:=.agg #[aa ab 2,af none 0 0,.slice B R.length d]) (cb rfl _ _ (w.heap.size+1+1) 61 #[aa ab 2,af none 0 0,.slice B R.length d] (0,0) _ rfl kC3 Tryz.underlying61 rfl zK) rfl ⟨B,d,rfl,eI (cz bn ((t1.trans t2).trans t3) zD) z1,bK (bK (bK cY zP _) zP _) zP _⟩
theorem Lu (l:Ly) (s:Int) (A:Option Addr) (c n:Nat) (R:List Int) (w:World) (kG:∀ w2,Below w.heap.size w w2->Calls aw 40 #[lyV l,.agg #[.slice A n c],aa ab s] w2 (Kv R w2)):
  Calls aw 17 #[lyV l,.agg #[.slice A n c],aa ab 3,aa ab s] w (rM 3 R w):=by
 have k0:=((Bk.made w 34 (lyC l)).alloc (ag #[.slice A n c] 37)).alloc (ag #[aa ab 0,af none 0 0,af none 0 0] 61);have kM:=(Bk.new (w.alloc (ag (lyC l) 34)) (g:=w.heap.size+1) zS 37 #[.slice A n c]).alloc (ag #[aa ab 0,af none 0 0,af none 0 0] 61);have kC:=Bk.new ((w.alloc (ag (lyC l) 34)).alloc (ag #[.slice A n c] 37)) (g:=w.heap.size+1+1) zS 61 #[aa ab 0,af none 0 0,af none 0 0];have bz:=aB (aB (aB (Below.refl w.heap.size w) (ag (lyC l) 34)) (ag #[.slice A n c] 37)) (ag #[aa ab 0,af none 0 0,af none 0 0] 61);go_enter Tryz.func17,Tryz.ntmps17
 go_wp2_with (first | (refine aL rfl 34 (.tmp 4) rfl w.heap.size rfl 34 (lyC l) (0,0) _ k0 aJ rfl zK ?_) | (refine aL rfl 37 (.tmp 5) rfl (w.heap.size+1) rfl 37 #[.slice A n c] (0,0) _ kM Tryz.underlying37 rfl zK ?_))
 generalize ((w.alloc (ag (lyC l) 34)).alloc (ag #[.slice A n c] 37)).alloc (ag #[aa ab 0,af none 0 0,af none 0 0] 61)=w1 at *
 (with_reducible refine (kG _ bz).mono ?_)
 rintro e w2 ⟨B,d,rfl,bn,hb⟩;replace kC:=kC.ay hb;have cY:=aF bz hb;have z1:w.heap.size<=w1.heap.size:=bz.size;have c0:=kC.cell 0;have c1:=kC.cell 1;have c2:=kC.cell 2;have f0:=kC.free 0;have f1:=kC.free 1;have f2:=kC.free 2;have lC:=kC.lt;simp at c0 c1 c2;have HF:=ar (au bn (au cY (au z1 kC)));clear bn hb bz z1 k0 kM kC kG cY
 go_wp2_with fail
 obtain ⟨bn,cY,z1,kC⟩:=HF.out;have t1:=cy kC 0 (aa ab 3);have NI:=kC.stored 0 (aa ab 3);have t2:=cy NI 1 (af none 0 0);have xv:=NI.stored 1 (af none 0 0);have t3:=cy xv 2 (.slice B R.length d);have kC3:=xv.stored 2 (.slice B R.length d);refine aX (v:=.agg #[aa ab 3,af none 0 0,.slice B R.length d]) (cb rfl _ _ (w.heap.size+1+1) 61 #[aa ab 3,af none 0 0,.slice B R.length d] (0,0) _ rfl kC3 Tryz.underlying61 rfl zK) rfl ⟨B,d,rfl,eI (cz bn ((t1.trans t2).trans t3) zD) z1,bK (bK (bK cY zP _) zP _) zP _⟩
end Go.Proofs.YtikdaeddbkopeaaGreatR
namespace Go.Proofs.YtikdaeddbkopeaaGreatR.list
open Go.RowKit
attribute [local go_sem ↓] aV aW
theorem jF (A:Option Addr) (c:Nat) (zs:List Int) (n:Nat) (k:Int) (w:World) (hn:zs.length=n) (h:gJ w w.heap.size A zs) (h0:0<=k) (h1:k < n):
  Calls aw 52 #[.agg #[.slice A n c],aa ab k] w (gh (zs.getD k.toNat 0) w):=by
 obtain ⟨j,rfl⟩:∃ j:Nat,k=j:=⟨k.toNat,zO⟩;have g0:decide ((j:Int) < 0)=false:=zS;have g1:decide ((n:Int)<=j)=false:=by simp;omega
 obtain ⟨x,hx⟩:∃ x,zs[j]? =some x:=⟨_,aO zO⟩;have e:zs.getD (j:Int).toNat 0=x:=by simp [hx]
 rw [e];obtain ⟨b,o,hA,ey,hc⟩:=h zO;have q:=hc j x hx;subst hA;have i1:(j:Int) < n:=zO;have hb:=aB (Below.refl w.heap.size w) (ag #[af (some ⟨b,o,none⟩) n c] 37);have kM:=Bk.made w 37 #[af (some ⟨b,o,none⟩) n c];have q0:(w.alloc (ag #[af (some ⟨b,o,none⟩) n c] 37)).cell? ⟨w.heap.size,0,none⟩=some (af (some ⟨b,o,none⟩) n c):=by rw [kM.cell];rfl
 replace q:=(cO hb ey).trans q;clear e hc h hx hn kM;go_enter Tryz.func52,Tryz.ntmps52
 go_wp2
 go_ret
 exact ⟨rfl,hb⟩
theorem ks (l:Ly) (s:Int) (A:Option Addr) (c n:Nat) (zs L:List Int) (w:World) (f:dU l) (h:gJ w w.heap.size A zs) (hn:zs.length=n) (hN:l.c.nodes<=1000)
  (qG:0<=s/\s < n) (gu:∀ a,1<=a/\a<=l.c.nodes->0<=nodeAt l a 0/\nodeAt l a 0 < n) (ot:idxOf (zs.getD s.toNat 0)=L.headD 0) (mK:lY (fun a=>idxOf (zs.getD (nodeAt l a 0).toNat 0)) L) (nZ:∀ a∈L,1<=a/\a<=l.c.nodes) (jT:L.Nodup) (Md:L.length<=1000):
  Calls aw 26 #[lyV l,.agg #[.slice A n c],.int .i64 s] w fun e w'=>∃ B d,e= .returned (.slice B L.length d)/\bd w' w.heap.size (.slice B L.length d) L/\Below w.heap.size w w':=by
 have k0:=(Bk.made w 34 (lyC l)).alloc (.cells #[.slice A n c] 37);have kM:=Bk.new (w.alloc (.cells (lyC l) 34)) (g:=w.heap.size+1) zS 37 #[.slice A n c];have bz:=aB (aB (Below.refl w.heap.size w) (.cells (lyC l) 34)) (.cells #[.slice A n c] 37);have F:=ar f;have HS:=ar (au h hn);have HP:=ar (au gu (au mK (au nZ (au jT ot))));have Du:nodeAt l 0 0= -1:=by unfold nodeAt;rw [if_pos zO]
 have OV:=ar Du;have HT:=ar qG;have q0:((w.alloc (.cells (lyC l) 34)).alloc (.cells #[.slice A n c] 37)).cell? ⟨w.heap.size+1,0,none⟩=some (.slice A n c):=by rw [kM.cell];rfl
 clear h hn gu ot mK nZ jT f Du qG;go_enter Tryz.func26,Tryz.ntmps26;obtain ⟨tp,qG⟩:∃ z,s=z:=⟨_,rfl⟩;have HTP:=ar qG;have HT2:Hid (0<=tp/\tp < n):=ar (by rw [<- qG];exact HT.out)
 rw [qG];clear qG
 go_upto_region 2 with fail
 generalize (w.alloc (.cells (lyC l) 34)).alloc (.cells #[.slice A n c] 37)=w2 at *;clear q0;have mU:(Instr.makeMap 114 none).run aw w2= .ok (.map (some w2.heap.size)) (w2.alloc (.map #[] 0)):=zK
 go_wp2_with (refine aL rfl 37 (.tmp 4) rfl (w.heap.size+1) rfl 37 #[.slice A n c] (0,0) _ (kM.alloc (.map #[] 0)) Tryz.underlying37 rfl zK ?_)
 clear mU;have kD:=uQ w2;replace k0:=k0.alloc (.map #[] 0);replace kM:=kM.alloc (.map #[] 0);have z2:w.heap.size<=w2.heap.size:=bz.size;replace bz:=aB bz (.map #[] 0);generalize w2.alloc (.map #[] 0)=w3 at *;generalize w2.heap.size=gD at *
 (try clear q0)
 have HGD:=ar z2;clear z2
 (with_reducible refine (jF A c zs n tp _ HS.out.2 (by have:=HS.out.1.below bz;exact this.more bz.size) HT2.out.1 HT2.out.2).mono ?_)
 rintro e w4 ⟨rfl,hb⟩;replace k0:=k0.ay hb;replace kM:=kM.ay hb;replace kD:=kD.ay hb;replace bz:=aF bz hb;clear hb;obtain ⟨fw,Cr⟩:∃ x,zs.getD tp.toNat 0=x:=⟨_,rfl⟩;rw [Cr]
 go_wp2_with fail
 (with_reducible refine (gV fw _).mono ?_)
 rintro e w5 ⟨rfl,hb⟩;replace k0:=k0.ay hb;replace kM:=kM.ay hb;replace kD:=kD.ay hb;replace bz:=aF bz hb;clear hb;have hx:fw % 65536=L.headD 0:=by rw [<- Cr,<- HTP.out];exact HP.out.2.2.2.2
 rw [hx];clear hx Cr;generalize (fw / 65536 % 2==1)=z1;generalize fw / 131072 % 268435456=z2;obtain ⟨hd,uN⟩:∃ x,L.headD 0=x:=⟨_,rfl⟩;rw [uN];have HHD:=ar uN;clear uN;have A6:∀ w:World,(uP 81 (.agg #[.int .i64 hd,.bool z1,.int .i64 z2]) 0).run aw w= .ok (.int .i64 hd) w:=fun w=>by kernel_rfl
 go_wp2_with fail
 clear A6
 go_loopw [7,9] (fun v8 v10 wr=>∃ k:Nat,k<=L.length/\v10= .int .i64 ((L.drop k).headD 0)/\Below w.heap.size w wr/\Bk wr w.heap.size 34 (lyC l)/\Bk wr (w.heap.size+1) 37 #[.slice A n c]/\dv wr gD k (L.take k)/\bd wr w.heap.size v8 (L.take k)) (fun v8 _ _=>L.length - lenOf v8)
 case atStart=>exact ⟨0,aY _,by rw [<- HHD.out];rfl,bz,k0,kM,kD,cZ _ _ _ _⟩
 case round=>
  obtain ⟨k,hk,rfl,hb,k1,pN,kD1,bn⟩:=hrel;clear k0 kM kD bz;obtain ⟨G,cg,rfl⟩:=cj bn
  by_cases dN:k < L.length
  ·obtain ⟨a,ha⟩:∃ a,L[k]? =some a:=⟨_,aO dN⟩;obtain ⟨gu,mK,nZ,jT,-⟩:=HP.out;have oV:L.drop k=a :: L.drop (k+1):=r9 ha;have Ke:=nZ a (bX ha);have rl:(fun a=>idxOf (zs.getD (nodeAt l a 0).toNat 0)) a=(L.drop (k+1)).headD 0:=by
    have:=mK.drop k;rw [oV] at this;exact this.1
   have yO:¬ a∈L.take k:=by
    intro hm;obtain ⟨j,hj⟩:=List.getElem?_of_mem hm;have hjl:=(a8.1 hj).1;rw [jM] at hjl;rw [List.getElem?_take_of_lt zO] at hj;have:=(List.getElem?_inj zO jT).1 (hj.trans ha.symm);omega
   have oG:(L.drop k).headD 0=a:=by rw [oV];rfl
   have jx:=gu a Ke;have oO:L.take (k+1)=L.take k++[a]:=by rw [j7,ha];rfl
   have tJ:(L.take k).length=k:=by rw [jM];omega
   rw [oG];obtain ⟨nx,lJ⟩:∃ c,nodeAt l a 0=c:=⟨_,rfl⟩;rw [lJ] at jx;have yT:0<=a/\a<=1000:=zO;have xV:=ar lJ;have vR:=ar (au ha (au rl (au oO (au tJ yO))));have HO:=ar bn;clear jT gu oV Ke rl yO oG oO lJ ha tJ mK nZ bn
   go_wp2_with (refine aL rfl 34 (.tmp 3) rfl w.heap.size rfl 34 (lyC l) (0,0) _ k1 aJ rfl zK ?_)
   (with_reducible refine (dt l a 0 _ F.out zO).mono ?_)
   rintro e w6 ⟨rfl,fz⟩;rw [xV.out];have g1:decide ((0:Int)<=nx)=true:=by simp;omega
   have k2:=k1.ay fz;have nA:=pN.ay fz;have L1:=kD1.ay fz;have cY:=aF hb fz;have cP:=bc HO.out fz;have wY:=L1.look yT.1 zO;rw [show decide (a∈L.take k)=false from decide_eq_false vR.out.2.2.2.2] at wY
   clear k1 pN kD1 hb fz HO;obtain ⟨D,hD,DC⟩:=L1;unfold bd at cP;rw [vR.out.2.2.2.1] at cP;obtain ⟨i0,pP,jG,mw,mI⟩:=xE jw
   go_wp2_with (at_mapUpdate;refine wpList_mapUpdate_own _ rfl _ _ _ 114 rfl 3 4 pR Tryz.underlying114 _ gD k D rfl hD (by simp only [nu];omega) _ _ (.int .i64 a) rfl rfl (uc yT.1 zO) (.lit (.bool true)) [] (plainElem_bool Tryz.underlying4 true) ?_)
   intro w7 hD7 hg7;have yP:some w.heap.size≠some gD/\some (w.heap.size+1)≠some gD:=by
    have h1:=mg (dv.of hD DC) k2;have h2:=mg (dv.of hD DC) nA;exact ⟨fun e=>h1 (by injection e),fun e=>h2 (by injection e)⟩
   have k3:Bk w7 w.heap.size 34 (lyC l):=(hg7.block _ k2.lt yP.1).trans k2;have K9:Bk w7 (w.heap.size+1) 37 #[.slice A n c]:=(hg7.block _ nA.lt yP.2).trans nA;have fH:=World.ownsRow.kept cP hg7 (kj (dv.of hD DC) cP);have jg:Below w.heap.size w w7:=cY.grown hg7 cY.size (fun k hk=>by injection hk with hk;have:=HGD.out;omega)
   have NH:dv w7 gD (k+1) (L.take (k+1)):=by
    rw [vR.out.2.2.1];exact dv.of hD7 (DC.put yT.1 zO)
   clear wY hg7 hD7 DC hD k2 nA cY cP yP;have sK:=World.ownsRow.alloc fH (.cells #[.int .i64 a] 3);have gS:=aB jg (.cells #[.int .i64 a] 3);have fq:=aB (Below.refl w7.heap.size w7) (.cells #[.int .i64 a] 3)
   go_upto_region 7 with (at_builtin;go_must (refine cM _ rfl (.tmp 28) (.tmp 30) _ rfl w.heap.size 3 i0 _ 1 8 su pP jG mw mI rfl zO (.slice G k cg) k (ints (L.take k)) rfl sK ⟨w7.heap.size,0,none⟩ 1 1 [.int .i64 a] rfl rfl (jC _) (by simp [aD]) (by simp only [nu];omega) zO (by simp;have:=jg.size;omega) ?_;intro v9 w8 eu hgrow4 _ _))
   have tU:=cI sK hgrow4;have k6:=(k3.ay fq).dh tU zD;have Df:=(K9.ay fq).dh tU zD;have NG:=(NH.ay fq).grown hgrow4 (fun e=>by
    have h:=kj (NH.ay fq) sK;rcases h with h | h
    ·rw [h] at e;cases e
    ·exact h e.symm)
   have fz:=bY gS sK hgrow4 gS.size (az _);obtain ⟨G9,c9,rfl⟩:=cj eu;clear k3 K9 NH jg fH sK gS fq hgrow4 tU;refine aP (S:=fun w'=>Below w8.drew.heap.size w8.drew w') (E:=fun _=>false) zK ?_
   have dD:=aU (Below.refl w8.heap.size w8);replace k6:=k6.ay dD;replace Df:=Df.ay dD;replace NG:=NG.ay dD;replace eu:=bc eu dD;replace fz:=aF fz dD;clear dD;generalize w8.drew=w9 at *;refine wTk 2 [(0,32,.agg #[.slice A n c]),(2,34,.int .i64 a)] ?_ (Below.refl _ _) ?_
   ·intro w' hS;have c0:=(Df.ay hS).cell 0;simp at c0
    (repeat' (first | exact aC | refine au ⟨_,rfl,.inl ⟨rfl,?_⟩⟩ ?_))
    all_goals exact zG
   simp only [aR,Act.put,aj,ak,al];refine wTk 1 [(1,33,lyV l)] ?_ (Below.refl _ _) ?_
   ·intro w' hS;have fg:(dr 34 ⟨w.heap.size,0,none⟩).run aw w'= .ok (lyV l) w':=be w' w.heap.size 34 34 (lyC l) (0,0) _ (k6.ay hS) aJ rfl zK
    (repeat' (first | exact aC | refine au ⟨_,rfl,.inl ⟨rfl,?_⟩⟩ ?_))
    all_goals exact list.bI rfl rfl fg
   simp only [aR,Act.put,aj,ak,al];refine aE (i:=3) (o:=_) zK rfl (fun K hK=>?_)
   (try simp only [aq,ao,an])
   go_simp
   (with_reducible refine (dt l a 0 _ F.out zO).mono ?_)
   rintro e wa ⟨rfl,fq⟩;rw [xV.out];refine hK.out _ _ (fun _=>fq) ?_
   clear hK K
   (try simp only [Act.put,aj,ak,al])
   refine aE (i:=4) (o:=_) zK rfl (fun K hK=>?_)
   (try simp only [aq,ao,an])
   go_simp
   (with_reducible refine (jF A c zs n nx _ HS.out.2 (by have:=HS.out.1.below (aF fz fq);exact this.more (aF fz fq).size) jx.1 jx.2).mono ?_)
   rintro e wb ⟨rfl,ey⟩;have jH:=aF fq ey;refine hK.out _ _ (fun _=>jH) ?_
   clear hK K
   (try simp only [Act.put,aj,ak,al])
   obtain ⟨fx,hfx⟩:∃ x,zs.getD nx.toNat 0=x:=⟨_,rfl⟩;rw [hfx];refine aE (i:=5) (o:=_) zK rfl (fun K hK=>?_)
   (try simp only [aq,ao,an])
   go_simp
   (with_reducible refine (gV fx _).mono ?_)
   rintro e wd ⟨rfl,dD⟩;replace jH:=aF jH dD;refine hK.out _ _ (fun _=>jH) ?_
   clear hK K
   (try simp only [Act.put,aj,ak,al])
   have hv:fx % 65536=(L.drop (k+1)).headD 0:=by rw [<- vR.out.2.1,<- hfx,<- xV.out];rfl
   rw [hv];generalize (fx / 65536 % 2==1)=z3;generalize fx / 131072 % 268435456=z4;obtain ⟨nn,Lh⟩:∃ y,(L.drop (k+1)).headD 0=y:=⟨_,rfl⟩;rw [Lh];have hf1:∀ w:World,(uP 81 (.agg #[.int .i64 nn,.bool z3,.int .i64 z4]) 0).run aw w= .ok (.int .i64 nn) w:=fun w=>by kernel_rfl
   refine wTk 2 [(6,38,.int .i64 nn),(7,9,.int .i64 nn)] ?_ jH ?_
   ·intro w' hS
    (repeat' (first | exact aC | refine au ⟨_,rfl,.inl ⟨rfl,?_⟩⟩ ?_))
    all_goals exact zG
   simp only [aR,Act.put,aj,ak,al];refine aN zK ?_ _
   go_wp2_with fail
   subst Lh;refine ⟨⟨k+1,dN,rfl,aF fz jH,k6.ay jH,Df.ay jH,NG.ay jH,?_⟩,by have:=vR.out.2.2.2.1;simp only [lenOf];omega⟩
   unfold bd;rw [vR.out.2.2.1,cJ,vR.out.2.2.2.1];have h:=bc eu jH
   simpa [ints] using h
  ·have hkL:k=L.length:=zO;subst hkL;have e0:(L.drop L.length).headD 0=0:=zS;rw [e0];rw [pL] at bn ⊢
   go_wp2_with (refine aL rfl 34 (.tmp 3) rfl w.heap.size rfl 34 (lyC l) (0,0) _ k1 aJ rfl zK ?_)
   (with_reducible refine (dt l 0 0 _ F.out zO).mono ?_)
   rintro e w6 ⟨rfl,fz⟩;rw [OV.out]
   go_wp2_with fail
   go_ret
   exact ⟨G,cg,rfl,bc bn fz,aF hb fz⟩
end Go.Proofs.YtikdaeddbkopeaaGreatR.list
