/- A part of the proof. -/
import Derived.Test.YtikdaeddbkopeaaGreatRV6
set_option linter.unusedVariables false
set_option linter.unusedSimpArgs false
set_option maxRecDepth 100000
set_option maxHeartbeats 16000000
open And renaming intro → au
open Array renaming getElem?_setIfInBounds_self_of_lt → bV
open Classical renaming byContradiction → Aw
open Go renaming execOp → Av, setRow_heap → Cm, Program → Cn, wpList_store_rowTo → aK, wpList_load_row → aL, wp_at_zero → aV, wp_at_succ → aW, bodyPost_ret → aX, TypeId → bR, run_loadVar_row → be, results_cell_row → cb, wp_store_row → dH, results_none → dY, loadVar → dr, Ending → lb, wpAnyH_ready → qw, results → qx
open Go.Ending renaming returned → ai
open Go.Instr renaming makeFunc → kZ, field → uP, sureAddr → xG
open Go.IntKind renaming i64 → ab
open Go.IntWalk renaming i64_in → cV
open Go.Lib renaming hid → ar
open Go.Obj renaming cells → ag
open Go.Proofs.Tryz renaming underlying70 → aI, underlying34 → aJ, prog → aw, underlying67 → bU
open Go.Result renaming andThen_ok → bQ
open Go.Sem renaming run_bind → di, run_pure → dx
open Go.Value renaming oneCell' → aD, bool → ah, int → aa, pointer → ae
open List renaming setIfInBounds_toArray → aj, set_cons_zero → ak, set_cons_succ → al, getElem_cons_zero → an, getElem_cons_succ → ao, getElem_toArray → aq, mem_cons → bD, not_mem_nil → cB, set_nil → iL
open Nat renaming le_trans → aQ, le_refl → az, lt_of_lt_of_le → bg
open Option renaming isSome_some → gQ
open Option.some renaming inj → aT
open Or renaming inl → jL
open True renaming intro → aC
namespace Go.Proofs.YtikdaeddbkopeaaGreatR.split
open Go.RowKit
attribute [local go_sem ↓] aV aW
theorem pW {P:Cn} {fn:Func} {p t:Tmp} {t1:bR} (h:fn.results=#[.tmp t,.cell p t1]) (tmps:Array Value) (w:World) (g1:Nat) (xS:Array Value) (Kg:Nat × Nat) (d1:TypeDesc) (v:Value)
  (hp:tmps.getD p undef=ae (some ⟨g1,0,none⟩)) (hv:tmps.getD t undef=v) (k1:w.heap[g1]? =some (ag xS t1 Kg))
  (Eh:P.underlying t1=some d1) (oV:(match d1 with | .struct _ | .array _ _=>true | _=>false)=true) (vu:(P.info? t1).map (·.size)=some xS.size):
  (qx fn tmps).run P w= .ok (.tuple #[v,.agg xS]) w:=by
 subst hv;have uK:tmps[p]?.getD undef=ae (some ⟨g1,0,none⟩):=by simpa using hp
 simp [qx,h,uK,asAddr,be w g1 t1 t1 xS Kg d1 k1 Eh oV vu]
section
variable {w:World} {k:Sk} {g:cG} {m:Nat} {log:Log} {q:An Out}
theorem come0 (b2 b6:Nat) (F:Int × Bool->Log->An Out) (h:fD w k g m log) (k2:Bk w b2 139 #[ptr k.gp]) (hq:q=doM ⟨1,.bucket 0,0,0⟩ F (log.drop m)) (hF:∀ r l,idxOf r.1=0->F r l= .stuck) (gq:q≠ .stuck):
  Calls aw 120 #[aa ab 0,ptr b2,ptr b6] w (mA k q w fun u w'=>∃ r,log[m]? =some r/\u= .tuple #[aa ab (idxOf r.1),.agg aZ]/\fD w' k g (m+1) log/\q=F r (log.drop (m+1))):=by
 have HF:=ar (au hF gq);clear hF gq;have tW:=ar (show b2≠k.gp by obtain ⟨_,hh,-⟩:=h.kp;exact (hh.typ k2 zD).symm)
 have kb:=Bk.made w 70 aZ;have aG:Stp k.gp w (w.alloc (ag aZ 70)):=(Stp.refl k.gp w).alloc _;have zp:=h.lt;have z2:=k2.lt;have ey:=aB (Below.refl w.heap.size w) (ag aZ 70);replace h:=h.ay ey;replace k2:=k2.ay ey;have HQ:=ar hq;clear hq ey;have Dw:∀ (a:Int) (b:Bool) (c:Int) (w:World),(uP 81 (.agg #[aa ab a,.bool b,aa ab c]) 0).run aw w= .ok (aa ab a) w:=fun _ _ _ _=>by kernel_rfl
 have A6:=mq;go_enter Tryz.func120,Tryz.ntmps120
 go_upto_region 1 with fail
 generalize w.alloc (ag aZ 70)=w0 at *;obtain ⟨b5,gS⟩:∃ g,w.heap.size=g:=⟨_,rfl⟩;rw [gS] at kb zp z2 ⊢;have HN:=ar (show k.gp < b5/\b2 < b5/\w.heap.size=b5 from ⟨zp,z2,gS⟩)
 clear gS zp z2;obtain ⟨gv,kp,hG⟩:=h.kp;refine aP (S:=fun w'=>Bk w' k.gp 141 (spC k gv m log.length)/\Bk w' b2 139 #[ptr k.gp]) (E:=fun _=>false) zK ?_
 have ey:=aU (Below.refl w0.heap.size w0);replace h:=h.ay ey;replace kp:=kp.drew;replace k2:=k2.drew;replace kb:=kb.drew;replace aG:=aG.drew;clear ey hG;generalize w0.drew=w1 at *;refine wTk 8 [(0,11,ptr k.gp),(1,12,ptr k.gp),(2,13,ptr k.gp),(4,15,ptr k.gp),(5,16,ptr k.gp),(6,17,ae (some ⟨k.gp,27,none⟩)),(7,18,aa ab 0),(8,19,aa ab 0)] ?_ ⟨kp,k2⟩ ?_
 ·intro w' hS;have zy:=hS.1.cell 27;have c2:=hS.2.cell 0;simp at zy c2
  (repeat' (first | exact aC | refine au ⟨_,rfl,.inl ⟨rfl,?_⟩⟩ ?_))
  all_goals exact zG
 simp only [aR,Act.put,aj,ak,al];refine wTk 1 [(3,14,lyV k.l)] ?_ ⟨kp,k2⟩ ?_
 ·intro w' hS;have fg:=Bl hS.1
  (repeat' (first | exact aC | refine au ⟨_,rfl,.inl ⟨rfl,?_⟩⟩ ?_))
  all_goals exact list.bI rfl rfl fg
 simp only [aR,Act.put,aj,ak,al];refine aE (i:=9) (o:=_) zK rfl (fun KK hK=>?_)
 (try simp only [aq,ao,an])
 go_simp
 (with_reducible refine (nP k.l 0 0 w1 h.f).mono ?_)
 rintro e w2 ⟨rfl,hb⟩;replace h:=h.ay hb;replace kp:=kp.ay hb;replace k2:=k2.ay hb;replace kb:=kb.ay hb;replace aG:=aG.trans (Stp.aS _ hb);refine hK.out _ _ (fun _=>⟨kp,k2⟩) ?_
 clear hK KK hb
 (try simp only [Act.put,aj,ak,al])
 refine wTk 1 [(10,6,aa ab (dE k.l 0 0))] ?_ ⟨kp,k2⟩ ?_
 ·intro w' hS
  (repeat' (first | exact aC | refine au ⟨_,rfl,.inl ⟨rfl,?_⟩⟩ ?_))
  all_goals exact zG
 simp only [aR,Act.put,aj,ak,al];refine aN zK ?_ _;clear kp;have c2:=k2.cell 0;have l2:=k2.lt;simp at c2
 go_wp2_with fail
 (with_reducible refine (sdo ⟨1,.bucket 0,0,0⟩ (dE k.l 0 0) _ h rfl HQ.out).mono ?_)
 rintro e w3 (⟨x,h1,rfl,h3⟩ | ⟨v,rfl,⟨⟨x1,x2⟩,hx,rfl,eP,ei⟩,cQ⟩)
 ·exact ⟨rfl,.inl ⟨x,h1,rfl,aG.trans h3⟩⟩
 replace aG:=aG.trans cQ;replace k2:=cQ.ay k2 tW.out;replace kb:=cQ.ay kb (by have:=HN.out;omega)
 have HX:=ar hx;have lh:=ar ei;clear h cQ hx ei HQ c2 l2;have h:=eP;clear eP
 go_wp2_with fail
 (with_reducible refine (gV x1 _).mono ?_)
 rintro e w4 ⟨rfl,hb⟩;replace h:=h.ay hb;replace k2:=k2.ay hb;replace kb:=kb.ay hb;replace aG:=aG.trans (Stp.aS _ hb);clear hb;obtain ⟨ix,jZ⟩:∃ z,x1 % 65536=z:=⟨_,rfl⟩;have lj:=ar (show idxOf x1=ix from jZ)
 rw [jZ];clear jZ;have L5:ix≠0:=by
  intro e;exact HF.out.2 (lh.out.trans (HF.out.1 _ _ (lj.out.trans e)))
 have sZ:(ix != 0)=true:=by simp [L5]
 clear L5
 go_wp2_with (refine aK rfl 70 (.tmp 5) (.tmp 31) rfl rfl b5 aZ rfl rfl 70 aZ kb zK rfl (by simp [aD]) ?_)
 have h9:=h.row kb (by have:=HN.out;have:=h.bp;omega) zD aZ
 replace kb:=kb.bL aZ;replace aG:=aG.row (b:=b5) (.inl (by have:=HN.out;omega)) aZ
 exact aX (v:=.tuple #[aa ab ix,.agg aZ]) (pW (p:=5) (t:=4) (t1:=70) rfl _ _ b5 aZ (0,0) _ _ rfl rfl kb aI rfl zK) rfl (.inr ⟨_,rfl,⟨(x1,x2),HX.out,by rw [lj.out],h9,lh.out⟩,aG⟩)
end
def c7T:Nat->Nat | 2=>38 | 3=>39 | 4=>35 | 5=>40 | 6=>41 | 7=>9 | 8=>8 | 9=>71 | _=>72
def c7P:Nat->List Nat | 3=>[2] | 4=>[3] | 5=>[4] | 6=>[4] | 8=>[5] | 9=>[6,7] | _=>[]
def c7R (k:Sk) (g:cG) (n:Nat) (log:Log) (q:An Out) (F:Int × Bool->Log->An Out) (B:Nat) (i:Nat) (v:Value) (w:World):Prop:=match i with
 | 2=>v=aa ab 0
 | 3=>∃ r,log[n]? =some r/\v= .tuple #[aa ab (idxOf r.1),.agg aZ]/\fD w k g (n+1) log/\q=F r (log.drop (n+1))
 | 4=>∃ r,log[n]? =some r/\v= .tuple #[aa ab (idxOf r.1),.agg aZ]
 | 5=>∃ r,log[n]? =some r/\v=aa ab (idxOf r.1)
 | 6=>v= .agg aZ
 | 7=>∃ g9,v=ptr g9/\B<=g9/\Bk w g9 70 aZ
 | 8=>∃ r,log[n]? =some r/\v=aa ab (idxOf r.1)
 | _=>True
def c7G (gp B:Nat) (i:Nat) (w1 w2:World):Prop:=match i with
 | 3=>Stp gp w1 w2
 | 9=>∃ g9,B<=g9/\Bk w1 g9 70 aZ/\w2=w1.setRow g9 aZ
 | _=>Below w1.heap.size w1 w2
def c7N (k:Sk) (g:cG) (n:Nat) (log:Log) (i:Nat) (w:World):Prop:=match i with
 | 3=>fD w k g n log
 | _=>True
def coT (gp b5 B:Nat) (w0 w:World):Prop:=Stp gp w0 w/\Bk w b5 70 aZ/\B<=w.heap.size
theorem vI {gp B i:Nat} {w1 w2:World} (h:c7G gp B i w1 w2):(i=3/\Stp gp w1 w2)\/(i=9/\∃ g9,B<=g9/\Bk w1 g9 70 aZ/\w2=w1.setRow g9 aZ)\/Below w1.heap.size w1 w2:=by
 unfold c7G at h;split at h
 ·exact .inl ⟨rfl,h⟩
 ·exact .inr (.inl ⟨rfl,h⟩)
 ·exact .inr (.inr h)
theorem uf (w:World) (g:Nat) (cs:Array Value):(w.setRow g cs).heap.size=w.heap.size:=by simp [World.setRow]
theorem Oy {gp b5 B:Nat} (hb:b5≠gp) (h5:b5 < B) {i:Nat} {w0 w1 w2:World} (hB:w0.heap.size<=B) (h:coT gp b5 B w0 w1) (hg:c7G gp B i w1 w2):coT gp b5 B w0 w2:=by
 obtain ⟨h1,h2,h3⟩:=h;rcases vI hg with ⟨rfl,hs⟩ | ⟨rfl,g9,h9,k9,rfl⟩ | hs
 ·exact ⟨h1.trans hs,hs.ay h2 hb,aQ h3 hs.size⟩
 ·exact ⟨h1.row (.inl zO) _,h2.a7 zO _,by rw [uf];exact h3⟩
 ·exact ⟨h1.trans (.aS _ hs),h2.ay hs,aQ h3 hs.size⟩
theorem CN {k:Sk} {g:cG} {n:Nat} {log:Log} {B j:Nat} (hB:k.gp < B) {w1 w2:World} (hj:j≠3) (h:fD w1 k g n log) (hg:c7G k.gp B j w1 w2):fD w2 k g n log:=by
 rcases vI hg with ⟨e,-⟩ | ⟨rfl,g9,h9,k9,rfl⟩ | hs
 ·exact absurd e hj
 ·exact h.row k9 (by have:=h.bp;omega) zD _
 ·exact h.ay hs
theorem OA {k:Sk} {g:cG} {n:Nat} {log:Log} {B i j:Nat} (hB:k.gp < B) {w1 w2:World} (oP:i≠j) (h:c7N k g n log i w1) (hg:c7G k.gp B j w1 w2):c7N k g n log i w2:=by
 unfold c7N at h ⊢;split
 ·exact CN hB (fun e=>oP e.symm) h hg
 ·trivial
theorem Oz {k:Sk} {g:cG} {n:Nat} {log:Log} {q:An Out} {F:Int × Bool->Log->An Out} {B i j:Nat} (hB:k.gp < B) {v:Value} {w1 w2:World} (oP:i≠j) (h:c7R k g n log q F B i v w1) (hg:c7G k.gp B j w1 w2):c7R k g n log q F B i v w2:=by
 unfold c7R at h ⊢;split
 ·exact h
 ·obtain ⟨r,h1,h2,h3,h4⟩:=h;exact ⟨r,h1,h2,CN hB (fun e=>oP e.symm) h3 hg,h4⟩
 ·exact h
 ·exact h
 ·exact h
 ·obtain ⟨g9,h1,h2,h3⟩:=h;refine ⟨g9,h1,h2,?_⟩;rcases vI hg with ⟨-,hs⟩ | ⟨-,g8,h9,k9,rfl⟩ | hs
  ·exact hs.ay h3 zO
  ·by_cases e:g9=g8
   ·subst e;exact h3.bL _
   ·exact h3.a7 e _
  ·exact h3.ay hs
 ·exact h
 ·trivial
def DW:Nat->Nat | 3=>50 | 4=>51 | 5=>46 | 6=>52 | 7=>53 | 8=>10 | 9=>71 | 10=>72 | _=>73
def sO:Nat->List Nat | 4=>[3] | 5=>[4] | 6=>[5] | 7=>[5] | 9=>[6] | 10=>[7,8] | _=>[]
def LV (k:Sk) (lo:LOp) (g:cG) (m:Nat) (log:Log) (q':An (dA × Pz)) (c1 c2:Array Value):Prop:=
 ∃ o z' gG gn gc a,q'= .fin (o,z')/\c1=br o.val o.is 0 ((m+o.aH:Nat):Int) (.slice gG gn gc)/\runN k lo g m log o.aH= .ask a/\c2=bj a.k (adr k.l a.c) a.o a.v
def c10R (k:Sk) (lo:LOp) (g:cG) (m:Nat) (log:Log) (q':An (dA × Pz)) (b9 B:Nat) (dW:Int) (i:Nat) (val:Nat->Option Value) (v:Value) (w:World):Prop:=match i with
 | 3=>v=aa ab dW
 | 4=>∃ c1 c2,v= .tuple #[.agg c1,.agg c2]/\LV k lo g m log q' c1 c2/\∀ o z',q'= .fin (o,z')->fD w k z'.gone (m+z'.made) log
 | 5=>∃ c1 c2,v= .tuple #[.agg c1,.agg c2]/\LV k lo g m log q' c1 c2
 | 6=>∃ c1 c2,v= .agg c1/\LV k lo g m log q' c1 c2
 | 7=>∃ c1 c2,v= .agg c2/\LV k lo g m log q' c1 c2
 | 8=>∃ uv,v=ptr uv/\B<=uv/\(val 10=none->Bk w uv 67 bW)
 | 9=>∃ c1 c2,LV k lo g m log q' c1 c2/\Bk w b9 70 c1
 | 10=>∃ uv c1 c2,val 8=some (ptr uv)/\B<=uv/\LV k lo g m log q' c1 c2/\Bk w uv 67 c2
 | _=>True
def Jw (gp b9 B:Nat) (i:Nat) (w1 w2:World):Prop:=match i with
 | 4=>Stp gp w1 w2
 | 9=>∃ r,Bk w1 b9 70 aZ/\w2=w1.setRow b9 r
 | 10=>∃ uv r,B<=uv/\Bk w1 uv 67 bW/\w2=w1.setRow uv r
 | _=>Below w1.heap.size w1 w2
def LJ (k:Sk) (g:cG) (m:Nat) (log:Log) (b9:Nat) (i:Nat) (w:World):Prop:=match i with
 | 4=>fD w k g m log
 | 9=>Bk w b9 70 aZ
 | _=>True
theorem my {gp b9 B i:Nat} {w1 w2:World} (h:Jw gp b9 B i w1 w2):(i=4/\Stp gp w1 w2)\/(i=9/\∃ r,Bk w1 b9 70 aZ/\w2=w1.setRow b9 r)\/(i=10/\∃ uv r,B<=uv/\Bk w1 uv 67 bW/\w2=w1.setRow uv r)\/Below w1.heap.size w1 w2:=by
 unfold Jw at h;split at h
 ·exact .inl ⟨rfl,h⟩
 ·exact .inr (.inl ⟨rfl,h⟩)
 ·exact .inr (.inr (.inl ⟨rfl,h⟩))
 ·exact .inr (.inr (.inr h))
theorem LG {gp b5 b9 B:Nat} (hb:b5≠gp) (h5:b5 < B) (h59:b5≠b9) {i:Nat} {w0 w1 w2:World} (hB:w0.heap.size<=B) (h9:w0.heap.size<=b9) (h:coT gp b5 B w0 w1) (hg:Jw gp b9 B i w1 w2):coT gp b5 B w0 w2:=by
 obtain ⟨h1,h2,h3⟩:=h;rcases my hg with ⟨rfl,hs⟩ | ⟨rfl,r,k9,rfl⟩ | ⟨rfl,uv,r,h10,ld,rfl⟩ | hs
 ·exact ⟨h1.trans hs,hs.ay h2 hb,aQ h3 hs.size⟩
 ·exact ⟨h1.row (.inl h9) _,h2.a7 h59 _,by rw [uf];exact h3⟩
 ·exact ⟨h1.row (.inl zO) _,h2.a7 zO _,by rw [uf];exact h3⟩
 ·exact ⟨h1.trans (.aS _ hs),h2.ay hs,aQ h3 hs.size⟩
theorem yh {k:Sk} {g:cG} {n:Nat} {log:Log} {b9 B j:Nat} (hB:k.gp < B) (h9:k.gp<=b9) {w1 w2:World} (hj:j≠4) (h:fD w1 k g n log) (hg:Jw k.gp b9 B j w1 w2):fD w2 k g n log:=by
 rcases my hg with ⟨e,-⟩ | ⟨rfl,r,k9,rfl⟩ | ⟨rfl,uv,r,h10,ld,rfl⟩ | hs
 ·exact absurd e hj
 ·exact h.row k9 (by have:=h.bp;omega) zD _
 ·exact h.row ld (by have:=h.bp;omega) zD _
 ·exact h.ay hs
theorem LI {k:Sk} {g:cG} {n:Nat} {log:Log} {b9 B i j:Nat} (hB:k.gp < B) (h9:k.gp < b9) (h9B:b9 < B) {w1 w2:World} (oP:i≠j) (h:LJ k g n log b9 i w1) (hg:Jw k.gp b9 B j w1 w2):LJ k g n log b9 i w2:=by
 unfold LJ at h ⊢;split
 ·exact yh hB (Nat.le_of_lt h9) (fun e=>oP e.symm) h hg
 ·rcases my hg with ⟨-,hs⟩ | ⟨e,r,k9,rfl⟩ | ⟨-,uv,r,h10,ld,rfl⟩ | hs
  ·exact hs.ay h zO
  ·exact absurd e.symm oP
  ·exact h.a7 zO _
  ·exact h.ay hs
 ·trivial
theorem qT {val:Nat->Option Value} {j:Nat} {u:Value} (hj:val j=none) {i:Nat} {v:Value} (h:val i=some v):upd val j u i=some v:=by
 simp only [upd];split
 ·rename_i e;subst e;rw [hj] at h;cases h
 ·exact h
theorem CD {val:Nat->Option Value} {j:Nat} {u:Value} {i:Nat} (h:upd val j u i=none):val i=none/\i≠j:=by
 simp only [upd] at h;split at h
 ·cases h
 ·rename_i e;exact ⟨h,e⟩
theorem LH {k:Sk} {lo:LOp} {g:cG} {m:Nat} {log:Log} {q':An (dA × Pz)} {b9 B:Nat} {dW:Int} {i j:Nat} (hB:k.gp < B) (h9:k.gp < b9) (h9B:b9 < B) {val:Nat->Option Value} {v u:Value} {w1 w2:World} (oP:i≠j) (hj:val j=none)
  (h:c10R k lo g m log q' b9 B dW i val v w1) (hg:Jw k.gp b9 B j w1 w2):c10R k lo g m log q' b9 B dW i (upd val j u) v w2:=by
 unfold c10R at h ⊢;split
 ·exact h
 ·obtain ⟨c1,c2,h1,h2,h3⟩:=h;exact ⟨c1,c2,h1,h2,fun o z' e=>yh hB (Nat.le_of_lt h9) (fun e=>oP e.symm) (h3 o z' e) hg⟩
 ·exact h
 ·exact h
 ·exact h
 ·obtain ⟨uv,h1,h2,h3⟩:=h;refine ⟨uv,h1,h2,fun e=>?_⟩
  obtain ⟨e1,e2⟩:=CD e;have ld:=h3 e1;rcases my hg with ⟨-,hs⟩ | ⟨-,r,k9,rfl⟩ | ⟨e,-⟩ | hs
  ·exact hs.ay ld zO
  ·exact ld.a7 zO _
  ·exact absurd e.symm e2
  ·exact ld.ay hs
 ·obtain ⟨c1,c2,h1,h2⟩:=h;refine ⟨c1,c2,h1,?_⟩;rcases my hg with ⟨-,hs⟩ | ⟨e,-⟩ | ⟨-,uv,r,h10,ld,rfl⟩ | hs
  ·exact hs.ay h2 zO
  ·exact absurd e.symm oP
  ·exact h2.a7 zO _
  ·exact h2.ay hs
 ·obtain ⟨uv,c1,c2,h1,h2,h3,h4⟩:=h;refine ⟨uv,c1,c2,qT hj h1,h2,h3,?_⟩;rcases my hg with ⟨-,hs⟩ | ⟨-,r,k9,rfl⟩ | ⟨e,-⟩ | hs
  ·exact hs.ay h4 zO
  ·exact h4.a7 zO _
  ·exact absurd e.symm oP
  ·exact h4.ay hs
 ·trivial
def Cj (k:Sk) (bk:Int) (op:MOp) (sz:Int) (log:Log) (q:An Out) (u:Value) (w':World):Prop:=
 ∃ n m' g',u= .tuple #[aa ab n,.agg aZ]/\fD w' k g' m' log/\g'.length<=1000/\q=eX (2 * k.l.c.aM) bk k.me op (ku op sz n m' g') (log.drop m')
structure MpS (k:Sk) (log:Log):Prop where
 se:1<=k.l.c.aM/\k.l.c.aM<=8
 cap:log.length<=k.cap
 nd:∀ n,1<=n->n<=40->0<=nodeAt k.l n 0/\nodeAt k.l n 0 < k.l.size
section
variable {w:World} {k:Sk} {g:cG} {m:Nat} {log:Log} {q:An Out}
theorem Lv (b2 b6:Nat) (bk:Int) (op:MOp) (sz:Int) (h:fD w k g m log) (k2:Bk w b2 139 #[ptr k.gp]) (k6:Bk w b6 150 #[.func (.func 120) #[] #[ptr b2,ptr b6]]) (hs:MpS k log) (hg:g.length<=1000)
  (hq0:q=pU (2 * k.l.c.aM) bk k.me op (.m2 sz 1) m g (log.drop m)) (gq:q≠ .stuck):
  Calls aw 120 #[aa ab 1,ptr b2,ptr b6] w (mA k q w (Cj k bk op sz log q)):=by
 have HS:=ar (au hs (au hg gq));have hq:=hq0.trans (ox _ _ _ _ _ _ _ _);have tW:=ar (show b2≠k.gp by obtain ⟨_,hh,-⟩:=h.kp;exact (hh.typ k2 zD).symm)
 have HNE6:=ar (show b6≠k.gp by obtain ⟨_,hh,-⟩:=h.kp;exact (hh.typ k6 zD).symm)
 have HK6:=ar (au k6 k2);clear hs hg gq hq0 k6;have kb:=Bk.made w 70 aZ;have aG:Stp k.gp w (w.alloc (ag aZ 70)):=(Stp.refl k.gp w).alloc _;have zp:=h.lt;have z2:=k2.lt;have ey:=aB (Below.refl w.heap.size w) (ag aZ 70);replace h:=h.ay ey;replace k2:=k2.ay ey;have HQ:=ar hq;clear hq ey;have Dw:∀ (a:Int) (b:Bool) (c:Int) (w:World),(uP 81 (.agg #[aa ab a,.bool b,aa ab c]) 0).run aw w= .ok (aa ab a) w:=fun _ _ _ _=>by kernel_rfl
 have A6:=mq;go_enter Tryz.func120,Tryz.ntmps120
 go_upto_region 1 with fail
 generalize w.alloc (ag aZ 70)=w0 at *;obtain ⟨b5,gS⟩:∃ g,w.heap.size=g:=⟨_,rfl⟩;rw [gS] at kb zp z2 ⊢;have HN:=ar (show k.gp < b5/\b2 < b5/\w.heap.size=b5 from ⟨zp,z2,gS⟩)
 clear gS zp z2;obtain ⟨gv,kp,hG⟩:=h.kp;refine aP (S:=fun w'=>Bk w' k.gp 141 (spC k gv m log.length)/\Bk w' b2 139 #[ptr k.gp]) (E:=fun _=>false) zK ?_
 have ey:=aU (Below.refl w0.heap.size w0);replace h:=h.ay ey;replace kp:=kp.drew;replace k2:=k2.drew;replace kb:=kb.drew;replace aG:=aG.drew;clear ey hG;generalize w0.drew=w1 at *;refine wTk 8 [(0,11,ptr k.gp),(1,12,ptr k.gp),(2,13,ptr k.gp),(4,15,ptr k.gp),(5,16,ptr k.gp),(6,17,ae (some ⟨k.gp,27,none⟩)),(7,18,aa ab 0),(8,19,aa ab 1)] ?_ ⟨kp,k2⟩ ?_
 ·intro w' hS;have zy:=hS.1.cell 27;have c2:=hS.2.cell 0;simp at zy c2
  (repeat' (first | exact aC | refine au ⟨_,rfl,.inl ⟨rfl,?_⟩⟩ ?_))
  all_goals exact zG
 simp only [aR,Act.put,aj,ak,al];refine wTk 1 [(3,14,lyV k.l)] ?_ ⟨kp,k2⟩ ?_
 ·intro w' hS;have fg:=Bl hS.1
  (repeat' (first | exact aC | refine au ⟨_,rfl,.inl ⟨rfl,?_⟩⟩ ?_))
  all_goals exact list.bI rfl rfl fg
 simp only [aR,Act.put,aj,ak,al];refine aE (i:=9) (o:=_) zK rfl (fun KK hK=>?_)
 (try simp only [aq,ao,an])
 go_simp
 (with_reducible refine (nP k.l 0 1 w1 h.f).mono ?_)
 rintro e w2 ⟨rfl,hb⟩;replace h:=h.ay hb;replace kp:=kp.ay hb;replace k2:=k2.ay hb;replace kb:=kb.ay hb;replace aG:=aG.trans (Stp.aS _ hb);refine hK.out _ _ (fun _=>⟨kp,k2⟩) ?_
 clear hK KK hb
 (try simp only [Act.put,aj,ak,al])
 refine wTk 1 [(10,6,aa ab (dE k.l 0 1))] ?_ ⟨kp,k2⟩ ?_
 ·intro w' hS
  (repeat' (first | exact aC | refine au ⟨_,rfl,.inl ⟨rfl,?_⟩⟩ ?_))
  all_goals exact zG
 simp only [aR,Act.put,aj,ak,al];refine aN zK ?_ _;clear kp;have c2:=k2.cell 0;have l2:=k2.lt;simp at c2
 go_wp2_with fail
 (with_reducible refine (sdo ⟨1,.bucket 1,0,0⟩ (dE k.l 0 1) _ h rfl HQ.out).mono ?_)
 rintro e w3 (⟨x,h1,rfl,h3⟩ | ⟨v,rfl,⟨⟨x1,x2⟩,hx,rfl,eP,ei⟩,cQ⟩)
 ·exact ⟨rfl,.inl ⟨x,h1,rfl,aG.trans h3⟩⟩
 replace aG:=aG.trans cQ;replace k2:=cQ.ay k2 tW.out;replace kb:=cQ.ay kb (by have:=HN.out;omega)
 have HX:=ar hx;have lh:=ar ei;clear h cQ hx ei HQ c2 l2;have h:=eP;clear eP
 go_wp2_with fail
 (with_reducible refine (gV x1 _).mono ?_)
 rintro e w4 ⟨rfl,hb⟩;replace h:=h.ay hb;replace k2:=k2.ay hb;replace kb:=kb.ay hb;replace aG:=aG.trans (Stp.aS _ hb);clear hb;obtain ⟨ix,jZ⟩:∃ z,x1 % 65536=z:=⟨_,rfl⟩;have lj:=ar (show idxOf x1=ix from jZ)
 rw [jZ];clear jZ
 by_cases L5:ix=0
 case neg=>
  have fR:=ar (show q=eX (2 * k.l.c.aM) bk k.me op (ku op sz ix (m+1) g) (log.drop (m+1)) from by
   rw [lh.out];show eX _ _ _ _ (if idxOf x1≠0 then _ else _) _=_
   rw [if_pos (by rw [lj.out];exact L5),lj.out])
  have sZ:(ix != 0)=true:=by simp [L5]
  clear L5 lh
  go_wp2_with (refine aK rfl 70 (.tmp 5) (.tmp 31) rfl rfl b5 aZ rfl rfl 70 aZ kb zK rfl (by simp [aD]) ?_)
  have h9:=h.row kb (by have:=HN.out;have:=h.bp;omega) zD aZ
  replace kb:=kb.bL aZ;replace aG:=aG.row (b:=b5) (.inl (by have:=HN.out;omega)) aZ
  exact aX (v:=.tuple #[aa ab ix,.agg aZ]) (pW (p:=5) (t:=4) (t1:=70) rfl _ _ b5 aZ (0,0) _ _ rfl rfl kb aI rfl zK) rfl (.inr ⟨_,rfl,⟨ix,m+1,g,rfl,h9,HS.out.2.1,fR.out⟩,aG⟩)
 have hY:=ar (show q=doM ⟨1,.bucket 0,0,0⟩ (fun r l'=>eX (2 * k.l.c.aM) bk k.me op ((MPh.m3 sz).stp (2 * k.l.c.aM) bk op (m+1) g r) l') (log.drop (m+1)) from by
  rw [lh.out];show eX _ _ _ _ (if idxOf x1≠0 then _ else if (1:Int)=1 then _ else _) _=_
  rw [if_neg (by rw [lj.out];exact fun e=>e L5),if_pos rfl]
  exact ox _ _ _ _ _ _ _ _)
 have sZ:(ix != 0)=false:=by simp [L5]
 clear L5 lh lj HX
 go_upto_region 7 with fail
 clear sZ;have k6:Bk w4 b6 150 #[.func (.func 120) #[] #[ptr b2,ptr b6]]:=aG.ay HK6.out.1 HNE6.out;refine aP (S:=fun w'=>Bk w' b6 150 #[.func (.func 120) #[] #[ptr b2,ptr b6]]) (E:=fun _=>false) zK ?_
 have ey:=aU (Below.refl w4.heap.size w4);replace h:=h.ay ey;replace k6:=k6.drew;replace kb:=kb.drew;replace aG:=aG.drew;clear ey k2;generalize w4.drew=w5 at *;refine wTk 2 [(0,36,.func (.func 120) #[] #[ptr b2,ptr b6]),(1,37,aa ab 1)] ?_ k6 ?_
 ·intro w' hS;have c6:=hS.cell 0;simp at c6
  (repeat' (first | exact aC | refine au ⟨_,rfl,.inl ⟨rfl,?_⟩⟩ ?_))
  all_goals exact zG
 simp only [aR,Act.put,aj,ak,al];have J9:k.gp < w5.heap.size:=h.lt;have h5B:b5 < w5.heap.size:=kb.lt;have h5g:b5≠k.gp:=by have:=HN.out;omega
 have L4:w.heap.size<=w5.heap.size:=aG.size;refine qR (QP:=fun c w'=>∃ x,q= .ask x/\c=[{ v:=np k.l x,recovered:=false }]/\Stp k.gp w w') (U:=[2,3,4,5,6,7,8,9]) (tmp:=c7T) (pre:=c7P) (T:=coT k.gp b5 w5.heap.size w) (N:=c7N k g (m+1) log) (G:=c7G k.gp w5.heap.size)
  (R:=fun i _ v w'=>c7R k g (m+1) log q (fun r l'=>eX (2 * k.l.c.aM) bk k.me op ((MPh.m3 sz).stp (2 * k.l.c.aM) bk op (m+1) g r) l') w5.heap.size i v w') zK (fun _ _=>rfl) (fun w2 hT=>hT.1.ay HK6.out.1 HNE6.out) ⟨aG,kb,az _⟩
  (fun i _ w1 w2 hT hg=>Oy h5g h5B L4 hT hg) (fun i hi=>?_) (fun i _ j _ oP w1 w2 _ hn hg=>OA J9 oP hn hg) (fun i _ j _ oP oZ v u w1 w2 _ _ _ _ hr hg=>Oz J9 oP hr hg) (fun i hi o ho oZ w1 K qD hT hN cd hK=>?_) (fun c a' w' hqp hd=>?_) 0 (fun oZ w6 bS hT=>?_)
 ·simp only [bD,cB,or_false] at hi;rcases hi with rfl | rfl | rfl | rfl | rfl | rfl | rfl | rfl
  ·trivial
  ·exact h
  all_goals trivial
 ·simp only [bD,cB,or_false] at hi;rcases hi with rfl | rfl | rfl | rfl | rfl | rfl | rfl | rfl
  ·obtain rfl:=aT ho;simp only [c7P,bq] at hK ⊢;go_simp
   (with_reducible refine (IN w1).mono ?_)
   rintro e w2 ⟨rfl,hb⟩;exact hK _ _ rfl hb
  ·obtain rfl:=aT ho;obtain ⟨v2,e2,rfl⟩:=cd 2 (by simp [c7P])
   simp only [c7P,bq,e2,c7T] at hK ⊢;go_simp;have Lg:=hT.1;have nB:=Lg.ay HK6.out.2 tW.out;have Lm:=hN;unfold c7N at Lm
   (with_reducible refine (come0 b2 b6 _ Lm nB hY.out (fun r l e=>by simp only [MPh.stp];rw [if_pos (.inl e)];simp [eX]) HS.out.2.2).mono ?_)
   rintro e w2 (⟨x,h1,rfl,h3⟩ | ⟨v,rfl,⟨r,hr,rfl,lG,NU⟩,cQ⟩)
   ·exact ⟨x,h1,rfl,Lg.trans h3⟩
   ·exact hK _ _ ⟨r,hr,rfl,lG,NU⟩ cQ
  ·obtain rfl:=aT ho;obtain ⟨v3,e3,r,hr,rfl,-⟩:=cd 3 (by simp [c7P])
   simp only [c7P,bq,e3,c7T] at hK ⊢;go_simp;exact hK _ _ ⟨r,hr,rfl⟩ (Below.refl _ _)
  ·obtain rfl:=aT ho;obtain ⟨v4,e4,r,hr,rfl⟩:=cd 4 (by simp [c7P])
   simp only [c7P,bq,e4,c7T] at hK ⊢;go_simp;exact hK _ _ ⟨r,hr,rfl⟩ (Below.refl _ _)
  ·obtain rfl:=aT ho;obtain ⟨v4,e4,r,hr,rfl⟩:=cd 4 (by simp [c7P])
   simp only [c7P,bq,e4,c7T] at hK ⊢;go_simp;exact hK _ _ rfl (Below.refl _ _)
  ·obtain rfl:=aT ho;simp only [c7P,bq] at hK ⊢;go_simp;exact hK _ _ ⟨_,rfl,hT.2.2,Bk.made _ _ _⟩ (aB (Below.refl _ _) _)
  ·obtain rfl:=aT ho;obtain ⟨v5,e5,r,hr,rfl⟩:=cd 5 (by simp [c7P])
   simp only [c7P,bq,e5,c7T] at hK ⊢;go_simp;exact hK _ _ ⟨r,hr,rfl⟩ (Below.refl _ _)
  ·obtain rfl:=aT ho;obtain ⟨v6,e6,rfl⟩:=cd 6 (by simp [c7P])
   obtain ⟨v7,e7,g9,rfl,h9,k9⟩:=cd 7 (by simp [c7P])
   simp only [c7P,bq,e6,e7,c7T] at hK ⊢
   (try simp only [aq,ao,an])
   refine dH 70 (.tmp 9) (.tmp 41) rfl g9 _ rfl rfl 70 aZ k9 zK rfl (by simp [aD]) ?_
   exact hK undef _ trivial ⟨g9,h9,k9,rfl⟩
 ·obtain ⟨x,h1,rfl,h3⟩:=hqp;exact ⟨hd,.inl ⟨x,h1,rfl,h3⟩⟩
 obtain ⟨v2,e2,rfl⟩:=bS 2 zS;obtain ⟨v3,e3,r,hr,rfl,lG,NU⟩:=bS 3 zS;obtain ⟨v4,e4,r4,hr4,rfl⟩:=bS 4 zS;obtain ⟨v5,e5,r5,hr5,rfl⟩:=bS 5 zS;obtain ⟨v6,e6,rfl⟩:=bS 6 zS;obtain ⟨v7,e7,b9,rfl,h9,k9⟩:=bS 7 zS;obtain ⟨v8,e8,r8,hr8,rfl⟩:=bS 8 zS;obtain ⟨v9,e9,-⟩:=bS 9 zS;obtain rfl:=aT (hr.symm.trans hr4);obtain rfl:=aT (hr.symm.trans hr5);obtain rfl:=aT (hr.symm.trans hr8);clear bS hr4 hr5 hr8;refine aN (by simp only [dC,e2,e3,e4,e5,e6,e7,e8,e9,gQ,if_true];kernel_rfl) ?_ _
 simp only [bq,e2,e3,e4,e5,e6,e7,e8,e9,c7T];clear e2 e3 e4 e5 e6 e7 e8 e9
 (try simp only [Act.put,aj,ak,al,iL])
 obtain ⟨na,hna⟩:∃ x,idxOf r.1=x:=⟨_,rfl⟩;have HNA:=ar hna;rw [hna];clear hna;have HB9:=ar (show b5 < b9/\k.gp < b9/\w.heap.size<=b9 from ⟨zO,zO,zO⟩)
 clear h k6 aG kb J9 h5B h5g L4 h9;have hnb:1<=na/\na<=40:=by
  have mx:=NN r.1;rw [HNA.out] at mx;refine Aw fun hc=>HS.out.2.2 (NU.trans ?_)
  simp only [MPh.stp];rw [HNA.out,if_pos zO];simp [eX]
 have HNB:=ar hnb;obtain ⟨lo,uM⟩:∃ lo:LOp,lo=⟨2,na,rA 1,0⟩:=⟨_,rfl⟩;have HLO:=ar uM;have nm:lo.kind=2:=by rw [uM]
 obtain ⟨q',Dr⟩:∃ q',q'=cS (2 * k.l.c.aM) k.me lo (dp lo g) (log.drop (m+1+1)):=⟨_,rfl⟩;have sH:q=DM (2 * k.l.c.aM) bk k.me op true sz (m+1+1) q' (log.drop (m+1+1)) 0:=by
  rw [NU,Dr];simp only [MPh.stp];rw [HNA.out,if_neg zO,<- uM];exact ym _ _ _ _ _ _ _ _ _ (.inr (.inl nm)) _ _
 have HQC:=ar sH;have HQ':=ar Dr;have HLS:=ar (show LiS k lo g (m+1+1) log q' from by
  refine ⟨HS.out.1.se,by rw [uM];show na<=_;omega,by rw [uM];exact HS.out.1.nd na hnb.1 hnb.2,.inr (.inl nm),Dr,fun e=>HS.out.2.2 (by rw [sH,e];rfl),fun o z' e=>J2 (N:=1000) (by have:=HS.out.1.se;omega) (.inr (.inl nm)) HS.out.2.1 (Dr.symm.trans e),HS.out.1.cap⟩)
 have fU:=ar nm;clear hnb uM sH Dr NU nm hY hr;have h:=lG;have aG:=hT.1;have kb:=hT.2.1;clear lG hT;have c9:=k9.cell 2;have l9:=k9.lt;simp at c9
 go_upto_region 10 with fail
 clear c9 l9;have k2:=aG.ay HK6.out.2 tW.out;refine aP (S:=fun w'=>Bk w' b2 139 #[ptr k.gp]) (E:=fun _=>false) zK ?_
 have ey:=aU (Below.refl w6.heap.size w6);replace h:=h.ay ey;replace k2:=k2.drew;replace kb:=kb.drew;replace k9:=k9.drew;replace aG:=aG.drew;clear ey;generalize w6.drew=w7 at *;refine wTk 3 [(0,47,ptr k.gp),(1,48,aa ab na),(2,49,aa ab 1)] ?_ k2 ?_
 ·intro w' hS;have c2:=hS.cell 0;simp at c2
  (repeat' (first | exact aC | refine au ⟨_,rfl,.inl ⟨rfl,?_⟩⟩ ?_))
  all_goals exact zG
 simp only [aR,Act.put,aj,ak,al];have J9:k.gp < w7.heap.size:=h.lt;have h5B:b5 < w7.heap.size:=kb.lt;have h9B:b9 < w7.heap.size:=k9.lt;have h5g:b5≠k.gp:=by have:=HN.out;omega
 have L4:w.heap.size<=w7.heap.size:=aG.size;have Li:k.gp < b9:=HB9.out.2.1;refine qR (QP:=fun c w'=>∃ x,q= .ask x/\c=[{ v:=np k.l x,recovered:=false }]/\Stp k.gp w w') (U:=[3,4,5,6,7,8,9,10]) (tmp:=DW) (pre:=sO) (T:=coT k.gp b5 w7.heap.size w) (N:=LJ k g (m+1+1) log b9) (G:=Jw k.gp b9 w7.heap.size)
  (R:=c10R k lo g (m+1+1) log q' b9 w7.heap.size (rA 1)) zK (fun _ _=>rfl) (fun w2 hT=>hT.1.ay HK6.out.2 tW.out) ⟨aG,kb,az _⟩
  (fun i _ w1 w2 hT hg=>LG h5g h5B (by have:=HB9.out;omega) L4 HB9.out.2.2 hT hg) (fun i hi=>?_) (fun i _ j _ oP w1 w2 _ hn hg=>LI J9 Li h9B oP hn hg) (fun i _ j _ oP oZ v u w1 w2 _ _ hj _ hr hg=>LH J9 Li h9B oP hj hr hg) (fun i hi o ho oZ w1 K qD hT hN cd hK=>?_) (fun c a' w' hqp hd=>?_) 0 (fun oZ w8 bS hT=>?_)
 ·simp only [bD,cB,or_false] at hi;rcases hi with rfl | rfl | rfl | rfl | rfl | rfl | rfl | rfl
  ·trivial
  ·exact h
  ·trivial
  ·trivial
  ·trivial
  ·trivial
  ·exact k9
  ·trivial
 ·simp only [bD,cB,or_false] at hi;rcases hi with rfl | rfl | rfl | rfl | rfl | rfl | rfl | rfl
  ·obtain rfl:=aT ho;simp only [sO,bq] at hK ⊢;go_simp
   (with_reducible refine (Ls 1 w1).mono ?_)
   rintro e w2 ⟨rfl,rfl⟩;exact hK _ _ rfl (Below.refl _ _)
  ·obtain rfl:=aT ho;obtain ⟨v3,e3,rfl⟩:=cd 3 (by simp [sO])
   simp only [sO,bq,e3,DW] at hK ⊢;go_simp;have Lg:=hT.1;have Lm:=hN;unfold LJ at Lm;have hd:=slist Lm HLS.out;rw [HLO.out] at hd
   (with_reducible refine hd.mono ?_)
   rw [<- HLO.out];rintro e w2 (⟨x,h1,rfl,h3⟩ | ⟨v,rfl,⟨o,z',gG,gn,gc,pk,pc,po,pv,xy,rfl,lG,a,xz,ha2⟩,cQ⟩)
   ·exact ⟨x,by rw [HQC.out,h1];rfl,rfl,Lg.trans h3⟩
   ·refine hK _ _ ⟨_,_,rfl,⟨o,z',gG,gn,gc,a,xy,rfl,xz,ha2⟩,fun o2 z2 e2=>?_⟩ cQ
    rw [xy] at e2;injection e2 with e2
    injection e2 with e2 e3
    subst e3;exact lG
  ·obtain rfl:=aT ho;obtain ⟨v4,e4,c1,c2,rfl,hl,-⟩:=cd 4 (by simp [sO])
   simp only [sO,bq,e4,DW] at hK ⊢;go_simp;exact hK _ _ ⟨c1,c2,rfl,hl⟩ (Below.refl _ _)
  ·obtain rfl:=aT ho;obtain ⟨v4,e4,c1,c2,rfl,hl⟩:=cd 5 (by simp [sO])
   simp only [sO,bq,e4,DW] at hK ⊢;go_simp;exact hK _ _ ⟨c1,c2,rfl,hl⟩ (Below.refl _ _)
  ·obtain rfl:=aT ho;obtain ⟨v4,e4,c1,c2,rfl,hl⟩:=cd 5 (by simp [sO])
   simp only [sO,bq,e4,DW] at hK ⊢;go_simp;exact hK _ _ ⟨c1,c2,rfl,hl⟩ (Below.refl _ _)
  ·obtain rfl:=aT ho;simp only [sO,bq] at hK ⊢;go_simp;exact hK _ _ ⟨_,rfl,hT.2.2,fun _=>Bk.made _ _ _⟩ (aB (Below.refl _ _) _)
  ·obtain rfl:=aT ho;obtain ⟨v6,e6,c1,c2,rfl,hl⟩:=cd 6 (by simp [sO])
   have Lm:=hN;unfold LJ at Lm;have hl0:=hl;obtain ⟨o,z',gG,gn,gc,a,xy,rfl,xz,rfl⟩:=hl;simp only [sO,bq,e6,DW] at hK ⊢
   (try simp only [aq,ao,an])
   refine dH 70 (.tmp 9) (.tmp 52) rfl b9 _ rfl rfl 70 aZ Lm zK rfl (by simp [aD]) ?_
   exact hK undef _ ⟨_,_,hl0,Bk.bL Lm _⟩ ⟨_,Lm,rfl⟩
  ·obtain rfl:=aT ho;obtain ⟨v7,e7,c1,c2,rfl,hl⟩:=cd 7 (by simp [sO])
   obtain ⟨v8,e8,uv,rfl,h10,ld⟩:=cd 8 (by simp [sO])
   have ld:=ld qD;have hl0:=hl;obtain ⟨o,z',gG,gn,gc,a,xy,rfl,xz,rfl⟩:=hl;simp only [sO,bq,e7,e8,DW] at hK ⊢
   (try simp only [aq,ao,an])
   refine dH 67 (.tmp 10) (.tmp 53) rfl uv _ rfl rfl 67 bW ld zK rfl (by simp [aD]) ?_
   exact hK undef _ ⟨uv,_,_,by simp only [upd];exact e8,h10,hl0,ld.bL _⟩ ⟨uv,_,h10,ld,rfl⟩
 ·obtain ⟨x,h1,rfl,h3⟩:=hqp;exact ⟨hd,.inl ⟨x,h1,rfl,h3⟩⟩
 obtain ⟨v3,e3,rfl⟩:=bS 3 zS;obtain ⟨v4,e4,c1,c2,rfl,hl,lG⟩:=bS 4 zS;obtain ⟨v5,e5,iR,iQ,rfl,-⟩:=bS 5 zS;obtain ⟨v6,e6,d1,d2,rfl,-⟩:=bS 6 zS;obtain ⟨v7,e7,f1,f2,rfl,-⟩:=bS 7 zS;obtain ⟨v8,e8,uv,rfl,hg10,-⟩:=bS 8 zS;obtain ⟨v9,e9,o1,o2,hl9,k9'⟩:=bS 9 zS;obtain ⟨v10,xh,g10',a1,a2,e8',-,hl10,ld⟩:=bS 10 zS;rw [e8] at e8';obtain rfl:=oz e8';clear bS e8' k9;refine aN (by simp only [dC,e3,e4,e5,e6,e7,e8,e9,xh,gQ,if_true];kernel_rfl) ?_ _
 simp only [bq,e3,e4,e5,e6,e7,e8,e9,xh,DW];clear e3 e4 e5 e6 e7 e8 e9 xh
 (try simp only [Act.put,aj,ak,al,iL])
 obtain ⟨o,z',gG,gn,gc,a,xy,rfl,xz,-⟩:=hl9;obtain ⟨o',z'',_,_,_,a',hqf',-,ha',rfl⟩:=hl10;have Ej:o'=o:=by
  rw [xy] at hqf';injection hqf' with e
  injection e with e1 e2
  exact e1.symm
 subst Ej;have haa:a'=a:=by
  rw [xz] at ha';injection ha' with e
  exact e.symm
 subst haa;have HFC:=ar (MV fU.out (HQ'.out.symm.trans xy));obtain ⟨pp,NW⟩:∃ x,((m+1+1+o'.aH:Nat):Int)=x:=⟨_,rfl⟩;rw [NW] at k9';have HPP:=ar NW;clear NW;have zJ:=ar xy;have HA1:=ar xz;have HG9:=ar (show z'.gone.length<=1000 from J2 (N:=1000) (by have:=HS.out.1.se;omega) (.inr (.inl fU.out)) HS.out.2.1 (HQ'.out.symm.trans xy))
 have gK:=ar (show q=doM ⟨3,.bucket 1,0,a9 o'.node⟩ (fun r l'=>eX (2 * k.l.c.aM) bk k.me op ((MPh.m4 sz o'.node).stp (2 * k.l.c.aM) bk op (m+1+1+z'.made) z'.gone r) l') (log.drop (m+1+1+z'.made)) from by
  rw [HQC.out,xy];show eX _ _ _ _ (MX.go (.m4 sz o'.node) (m+1+1+z'.made) z'.gone) ((log.drop (m+1+1)).drop z'.made)=_;rw [List.drop_drop];exact ox _ _ _ _ _ _ _ _)
 have h:=lG _ _ xy;have aG:=hT.1;have kb:=hT.2.1;have k2:=aG.ay HK6.out.2 tW.out;have Mc:b9 < w8.heap.size:=k9'.lt;clear lG hT hl xy hqf' xz ha' J9 h5B h9B h5g L4 Li hg10;have c9:=k9'.cell 2;have l9:=k9'.lt;simp at c9
 go_upto_region 13 with fail
 clear c9 l9;have c2:=k2.cell 0;have l2:=k2.lt;simp at c2
 go_wp2_with (first
  | (refine aL rfl 70 (.tmp 9) rfl b9 rfl 70 _ (0,0) _ k9' aI rfl zK ?_)
  | (refine aL rfl 67 (.tmp 10) rfl uv rfl 67 _ (0,0) _ ld bU rfl zK ?_))
 have jl:Calls aw 123 #[ptr k.gp,.agg (br o'.val o'.is 0 pp (.slice gG gn gc)),.agg (bj a'.k (adr k.l a'.c) a'.o a'.v)] w8 fun e w'=>e=ai (aa ab o'.node)/\Below w8.heap.size w8 w':=by
  rw [<- HPP.out];obtain ⟨f1,f2,f3⟩:=HFC.out;have jZ:idxOf (a9 o'.node)=o'.node:=iz _ _ _ f3.1 f3.2
  cases Ek:o'.is with
  | true=>
   obtain ⟨a2,h1,h2⟩:=f1 Ek;have:a2=a':=by
    have h3:An.ask a2=An.ask a':=h1.symm.trans HA1.out;injection h3
   subst this;refine (Mq _ _ _ _ _ _ _ _ _ _).mono ?_;rintro e w' ⟨rfl,hb⟩;exact ⟨by rw [h2,jZ],hb⟩
  | false=>
   obtain ⟨r2,h1,h2⟩:=f2 Ek;rw [List.getElem?_drop] at h1;refine (Mp _ _ _ _ _ _ _ _ r2 h (by rw [<- h1];congr 1)).mono ?_
   rintro e w' ⟨rfl,hb⟩;exact ⟨by rw [h2,jZ],hb⟩
 (with_reducible refine jl.mono ?_)
 rintro e w9 ⟨rfl,hb⟩;replace h:=h.ay hb;replace k2:=k2.ay hb;replace kb:=kb.ay hb;replace aG:=aG.trans (Stp.aS _ hb);clear jl hb c2 l2 k9' ld Mc;obtain ⟨nn,Lh⟩:∃ x,o'.node=x:=⟨_,rfl⟩;have JH:=ar Lh;rw [Lh];clear Lh
 go_upto_region 14 with fail
 refine aP (S:=fun w'=>Bk w' b2 139 #[ptr k.gp]) (E:=fun _=>false) zK ?_
 have ey:=aU (Below.refl w9.heap.size w9);replace h:=h.ay ey;replace k2:=k2.drew;replace kb:=kb.drew;replace aG:=aG.drew;clear ey;generalize w9.drew=wA at *;refine wTk 4 [(0,62,ptr k.gp),(1,63,aa ab (dE k.l 0 1)),(2,64,aa ab nn),(3,65,oL nn false 0)] ?_ k2 ?_
 ·intro w' hS;have c2:=hS.cell 0;simp at c2
  (repeat' (first | exact aC | refine au ⟨_,rfl,.inl ⟨rfl,?_⟩⟩ ?_))
  all_goals exact zG
 simp only [aR,Act.put,aj,ak,al];refine aE (i:=4) (o:=_) zK rfl (fun KK hK=>?_)
 (try simp only [aq,ao,an])
 go_simp
 (with_reducible refine (iy nn false 0 wA).mono ?_)
 rintro e wB ⟨rfl,hb⟩;replace h:=h.ay hb;replace k2:=k2.ay hb;replace kb:=kb.ay hb;replace aG:=aG.trans (Stp.aS _ hb);refine hK.out _ _ (fun _=>k2) ?_
 clear hK KK hb
 (try simp only [Act.put,aj,ak,al])
 rw [show dS nn false 0=a9 nn from rfl]
 refine wTk 1 [(5,67,.agg #[aa ab 3,aa ab (dE k.l 0 1),aa ab 0,aa ab (a9 nn)])] ?_ k2 ?_
 ·intro w' hS
  (repeat' (first | exact aC | refine au ⟨_,rfl,.inl ⟨rfl,?_⟩⟩ ?_))
  all_goals exact zG
 simp only [aR,Act.put,aj,ak,al];refine aE (i:=6) (o:=_) zK rfl (fun KK hK=>?_)
 (try simp only [aq,ao,an])
 go_simp
 (with_reducible refine (sdo ⟨3,.bucket 1,0,a9 nn⟩ (dE k.l 0 1) _ h rfl (JH.out ▸ gK.out)).mono ?_)
 rintro e wC (⟨x,h1,rfl,h3⟩ | ⟨v,rfl,⟨⟨y1,y2⟩,hy,rfl,eP,ei⟩,cQ⟩)
 ·exact ⟨rfl,.inl ⟨x,h1,rfl,aG.trans h3⟩⟩
 have oh:=ar (show q=eX (2 * k.l.c.aM) bk k.me op (ku op sz nn (m+1+1+z'.made+1) z'.gone) (log.drop (m+1+1+z'.made+1)) from by rw [ei,<- JH.out];rfl)
 replace aG:=aG.trans cQ;replace k2:=cQ.ay k2 tW.out;replace kb:=cQ.ay kb (by have:=HN.out;omega)
 clear h hy ei cQ gK;have h:=eP;clear eP;refine hK.out _ _ (fun _=>k2) ?_
 clear hK KK
 (try simp only [Act.put,aj,ak,al])
 refine aN zK ?_ _
 go_wp2_with (refine aK rfl 70 (.tmp 5) (.tmp 70) rfl rfl b5 aZ rfl rfl 70 aZ kb zK rfl (by simp [aD]) ?_)
 have h9:=h.row kb (by have:=HN.out;have:=h.bp;omega) zD aZ
 replace kb:=kb.bL aZ;replace aG:=aG.row (b:=b5) (.inl (by have:=HN.out;omega)) aZ
 exact aX (v:=.tuple #[aa ab nn,.agg aZ]) (pW (p:=5) (t:=4) (t1:=70) rfl _ _ b5 aZ (0,0) _ _ rfl rfl kb aI rfl zK) rfl (.inr ⟨_,rfl,⟨nn,_,_,rfl,h9,HG9.out,oh.out⟩,aG⟩)
end
section
variable {w:World} {k:Sk} {g:cG} {m:Nat} {log:Log} {q:An Out}
def JD (k:Sk) (w:World):Prop:=(∀ (j:Nat) (v:Value),(lyC k.l)[j]? =some v->w.cell? ⟨k.gp,0+j,none⟩=some v)/\w.cell? ⟨k.gp,27,none⟩=some (aa ab 0)
theorem fD.hd (h:fD w k g m log):JD k w:=by
 obtain ⟨gv,kp,-⟩:=h.kp;exact ⟨IA kp,kp.cell 27⟩
theorem JD.lay (h:JD k w):(dr 34 ⟨k.gp,0,none⟩).run aw w= .ok (lyV k.l) w:=dy w k.gp 0 34 (lyC k.l) _ h.1 aJ rfl zK
theorem mA.trans {β:Type} {q:An β} {w w1:World} {R:Value->World->Prop} {e:lb} {w':World} (h:mA k q w1 R e w') (hs:Stp k.gp w w1):mA k q w R e w':=by
 rcases h with ⟨a,h1,h2,h3⟩ | ⟨v,h1,h2,h3⟩
 ·exact .inl ⟨a,h1,h2,hs.trans h3⟩
 ·exact .inr ⟨v,h1,h2,hs.trans h3⟩
theorem Lw (b:Int) (hb:b=0\/b=1) (b2 b6:Nat) (bk:Int) (op:MOp) (sz:Int) (h:fD w k g m log) (k2:Bk w b2 139 #[ptr k.gp]) (k6:Bk w b6 150 #[.func (.func 120) #[] #[ptr b2,ptr b6]]) (hs:MpS k log) (hg:g.length<=1000)
  (hq:q=pU (2 * k.l.c.aM) bk k.me op (.m2 sz b) m g (log.drop m)) (gq:q≠ .stuck):
  Calls aw 120 #[aa ab b,ptr b2,ptr b6] w (mA k q w (Cj k bk op sz log q)):=by
 rcases hb with rfl | rfl
 ·have ei:=hq.trans (ox _ _ _ _ _ _ _ _);refine (come0 b2 b6 _ h k2 ei (fun r l e=>?_) gq).mono ?_
  ·simp only [MPh.stp];rw [if_neg (by simp [e]),if_neg zD]
   simp [eX]
  ·rintro e w' (⟨a,h1,rfl,h3⟩ | ⟨v,rfl,⟨r,hr,rfl,lG,NU⟩,cQ⟩)
   ·exact .inl ⟨a,h1,rfl,h3⟩
   ·refine .inr ⟨_,rfl,⟨_,_,_,rfl,lG,hg,?_⟩,cQ⟩
    by_cases hz:idxOf r.1=0
    ·exfalso
     refine gq (NU.trans ?_);simp only [MPh.stp];rw [if_neg (by simp [hz]),if_neg zD]
     simp [eX]
    ·rw [NU];simp only [MPh.stp];rw [if_pos hz]
 ·exact Lv b2 b6 bk op sz h k2 k6 hs hg hq gq
theorem Oq (b:Int) (hb:b=0\/b=1) (bk:Int) (op:MOp) (sz:Int) (h:fD w k g m log) (hs:MpS k log) (hg:g.length<=1000) (hq:q=pU (2 * k.l.c.aM) bk k.me op (.m2 sz b) m g (log.drop m)) (gq:q≠ .stuck):
  Calls aw 89 #[ptr k.gp,aa ab b] w (mA k q w (Cj k bk op sz log q)):=by
 have k2:=((Bk.made w 139 #[ptr k.gp]).alloc (ag aZ 70)).alloc (ag #[.nilFunc] 150);have k5:=(Bk.new (w.alloc (ag #[ptr k.gp] 139)) (g:=w.heap.size+1) zS 70 aZ).alloc (ag #[.nilFunc] 150);have k6:=Bk.new ((w.alloc (ag #[ptr k.gp] 139)).alloc (ag aZ 70)) (g:=w.heap.size+1+1) zS 150 #[.nilFunc];have bz:=aB (aB (aB (Below.refl w.heap.size w) (ag #[ptr k.gp] 139)) (ag aZ 70)) (ag #[.nilFunc] 150);have aG:=Stp.aS k.gp bz;have zp:=h.lt;replace h:=h.ay bz;have HS:=ar (au hb (au hs (au hg (au hq gq))));have Dv:∀ (fn:Fn) (first cap:Array Value) (w:World),(kZ fn first cap).run aw w= .ok (.func fn first cap) w:=fun _ _ _ _=>rfl
 clear hb hs hg hq gq bz;go_enter Tryz.func89,Tryz.ntmps89
 go_upto_region 2 with fail
 generalize ((w.alloc (ag #[ptr k.gp] 139)).alloc (ag aZ 70)).alloc (ag #[.nilFunc] 150)=w1 at *;obtain ⟨b2,h2⟩:∃ x,w.heap.size=x:=⟨_,rfl⟩;have HW:=ar h2;rw [h2] at k2 k5 k6 zp ⊢;clear h2;obtain ⟨b5,h5⟩:∃ x,b2+1=x:=⟨_,rfl⟩;obtain ⟨b6,h6⟩:∃ x,b5+1=x:=⟨_,rfl⟩;rw [h5] at k5;rw [h5,h6] at k6 ⊢;have HZ:=ar (show k.B<=k.gp/\k.gp < b2/\b2 < b5/\b5 < b6 from ⟨h.bp,zp,zO,zO⟩)
 clear h5 h6 zp;have c6:=k6.cell 0;have f6:=k6.free 0;have l6:=k6.lt;simp at c6
 go_upto_region 3 with fail
 clear c6 f6 l6;replace h:=h.rB k6 (by have:=HZ.out;omega) zD 0 (.func (.func 120) #[] #[ptr b2,ptr b6])
 replace k2:=k2.other (p:=⟨b6,0,none⟩) (by have:=HZ.out;dsimp only;omega) (.func (.func 120) #[] #[ptr b2,ptr b6])
 replace k5:=k5.other (p:=⟨b6,0,none⟩) (by have:=HZ.out;dsimp only;omega) (.func (.func 120) #[] #[ptr b2,ptr b6])
 replace aG:=aG.cell (p:=⟨b6,0,none⟩) (.inl (by have:=HZ.out;rw [HW.out];dsimp only;omega)) (.func (.func 120) #[] #[ptr b2,ptr b6])
 replace k6:Bk (w1.setCell ⟨b6,0,none⟩ (.func (.func 120) #[] #[ptr b2,ptr b6])) b6 150 #[.func (.func 120) #[] #[ptr b2,ptr b6]]:=k6.stored 0 _;generalize w1.setCell ⟨b6,0,none⟩ (.func (.func 120) #[] #[ptr b2,ptr b6])=w2 at *;have c6:=k6.cell 0;have l6:=k6.lt;simp at c6
 go_wp2_with fail
 have hd:=Lw b HS.out.1 b2 b6 bk op sz h k2 k6 HS.out.2.1 HS.out.2.2.1 HS.out.2.2.2.1 HS.out.2.2.2.2
 (with_reducible refine hd.mono ?_)
 rintro e w3 (⟨a,h1,rfl,h3⟩ | ⟨v,rfl,⟨n,m',g',rfl,lG,hg',NU⟩,cQ⟩)
 ·exact ⟨rfl,.inl ⟨a,h1,rfl,aG.trans h3⟩⟩
 replace aG:=aG.trans cQ;replace k5:=cQ.ay k5 (by have:=HZ.out;omega)
 have HR:=ar (au hg' NU);clear hd h k2 k6 c6 l6 hg' NU cQ
 go_wp2_with (refine aK rfl 70 (.tmp 5) (.tmp 12) rfl rfl b5 aZ rfl rfl 70 aZ k5 zK rfl (by simp [aD]) ?_)
 have h9:=lG.row k5 (by have:=HZ.out;omega) zD aZ
 replace k5:=k5.bL aZ;replace aG:=aG.row (b:=b5) (.inl (by have:=HZ.out;rw [HW.out];omega)) aZ
 exact aX (v:=.tuple #[aa ab n,.agg aZ]) (pW (p:=5) (t:=4) (t1:=70) rfl _ _ b5 aZ (0,0) _ _ rfl rfl k5 aI rfl zK) rfl (.inr ⟨_,rfl,⟨n,m',g',rfl,h9,HR.out.1,HR.out.2⟩,aG⟩)
def O0 (k:Sk) (o:dA) (g:cG) (log:Log) (q:An Out) (u:Value) (w':World):Prop:=∃ m',u= .tuple #[]/\fD w' k g m' log/\q= .fin ⟨o.val,o.is,o.aH,g⟩
theorem DZ (b1 b3:Nat) (sz:Int) (bk:Int) (op:MOp) (o:dA) (h:fD w k g m log) (k1:Bk w b1 139 #[ptr k.gp]) (k3:Bk w b3 3 #[aa ab (fP k.l 0 1)]) (hq:q=pU (2 * k.l.c.aM) bk k.me op (.m7 o) m g (log.drop m)):
  Calls aw 118 #[aa ab sz,ptr b1,ptr b3] w (mA k q w (O0 k o g log q)):=by
 have HQ:=ar (hq.trans (ox _ _ _ _ _ _ _ _));have c1:=k1.cell 0;have c3:=k3.cell 0;have l1:=k1.lt;have l3:=k3.lt;simp at c1 c3;clear hq;go_enter Tryz.func118,Tryz.ntmps118
 go_wp2_with fail
 (with_reducible refine (sdo ⟨4,.mcount,0,-1⟩ (fP k.l 0 1) _ h rfl HQ.out).mono ?_)
 rintro e w3 (⟨x,h1,rfl,h3⟩ | ⟨v,rfl,⟨⟨x1,x2⟩,hx,rfl,eP,ei⟩,cQ⟩)
 ·exact ⟨rfl,.inl ⟨x,h1,rfl,h3⟩⟩
 have HR:=ar (show q= .fin ⟨o.val,o.is,o.aH,g⟩ from by rw [ei];simp only [MPh.stp,Ab];simp [eX])
 clear h k1 k3 c1 c3 l1 l3 hx ei
 go_wp2_with fail
 exact bodyPost_end (dY rfl _ _ _) rfl (.inr ⟨_,rfl,⟨_,rfl,eP,HR.out⟩,cQ⟩)
theorem D0 (b1 b3:Nat) (sz:Int) (op:MOp) (o:dA) (nX:sz=1\/sz=2) (h:fD w k g m log) (k1:Bk w b1 139 #[ptr k.gp]) (k3:Bk w b3 3 #[aa ab (fP k.l 0 1)]) (hq:q=pU (2 * k.l.c.aM) k.l.c.buckets k.me op (.m5 sz o) m g (log.drop m)):
  Calls aw 117 #[aa ab sz,ptr b1,ptr b3] w (mA k q w (O0 k o g log q)):=by
 have HQ:=ar (hq.trans (ox _ _ _ _ _ _ _ _));have tW:=ar (show b1≠k.gp by obtain ⟨_,hh,-⟩:=h.kp;exact (hh.typ k1 zD).symm)
 have c1:=k1.cell 0;have c3:=k3.cell 0;have l1:=k1.lt;have l3:=k3.lt;have A6:=mq;have cQ:1<=sz/\sz<=2:=zO;simp at c1 c3;clear hq nX;go_enter Tryz.func117,Tryz.ntmps117
 go_wp2_with fail
 (with_reducible refine (sdo ⟨4,.mcount,0,1⟩ (fP k.l 0 1) _ h rfl HQ.out).mono ?_)
 rintro e w3 (⟨x,h1,rfl,h3⟩ | ⟨v,rfl,⟨⟨x1,x2⟩,hx,rfl,eP,ei⟩,hs1'⟩)
 ·exact ⟨rfl,.inl ⟨x,h1,rfl,h3⟩⟩
 have aG:=hs1';replace k1:=hs1'.ay k1 tW.out;have fR:=ar (show q=eX (2 * k.l.c.aM) k.l.c.buckets k.me op (if x1>=2 * sz/\sz < k.l.c.buckets then .go (.m6 sz o) (m+1) g else Ab o g) (log.drop (m+1)) from ei)
 clear h hx ei hs1' c1 c3 l1 l3 k3 HQ;have h:=eP;clear eP;obtain ⟨gv,kp,hG⟩:=h.kp;have c2:=kp.cell 2;have lp:=kp.lt;have c1:=k1.cell 0;have l1:=k1.lt;simp at c2 c1
 by_cases hd:x1>=2 * sz/\sz < k.l.c.buckets
 ·have hY:=ar (show q=doM ⟨3,.msize,sz,2 * sz⟩ (fun r l'=>eX (2 * k.l.c.aM) k.l.c.buckets k.me op ((MPh.m6 sz o).stp (2 * k.l.c.aM) k.l.c.buckets op (m+1) g r) l') (log.drop (m+1)) from by
   rw [fR.out,if_pos hd];exact ox _ _ _ _ _ _ _ _)
  have oV:decide (2 * sz<=x1)=true:=by simp;omega
  have hd1':decide (x1>=2 * sz)=true:=by simp;omega
  have hd2:decide (sz < k.l.c.buckets)=true:=by simp;omega
  clear hd fR
  go_upto_region 2 with fail
  clear c1 c2 l1 lp oV hd1' hd2;refine aP (S:=fun w'=>JD k w'/\Bk w' b1 139 #[ptr k.gp]) (E:=fun _=>false) zK ?_
  have ey:=aU (Below.refl w3.heap.size w3);replace h:=h.ay ey;replace kp:=kp.drew;replace k1:=k1.drew;replace aG:=aG.drew;clear ey hG;generalize w3.drew=w4 at *;refine wTk 11 [(0,24,ptr k.gp),(1,25,ptr k.gp),(2,26,ptr k.gp),(3,27,ptr k.gp),(5,29,ptr k.gp),(6,30,ptr k.gp),(7,31,ae (some ⟨k.gp,27,none⟩)),(8,32,aa ab 0),(10,34,aa ab sz),(11,35,aa ab sz),(12,36,aa ab (2 * sz))] ?_ ⟨h.hd,k1⟩ ?_
  ·intro w' hS;have zy:=hS.1.2;have c1:=hS.2.cell 0;have hwr:IntKind.i64.wrap (2 * sz)=2 * sz:=cV _ zO;simp at zy c1
   (repeat' (first | exact aC | refine au ⟨_,rfl,.inl ⟨rfl,?_⟩⟩ ?_))
   all_goals exact zG
  simp only [aR,Act.put,aj,ak,al];refine wTk 1 [(4,28,lyV k.l)] ?_ ⟨h.hd,k1⟩ ?_
  ·intro w' hS;have fg:=hS.1.lay
   (repeat' (first | exact aC | refine au ⟨_,rfl,.inl ⟨rfl,?_⟩⟩ ?_))
   all_goals exact list.bI rfl rfl fg
  simp only [aR,Act.put,aj,ak,al];refine aE (i:=9) (o:=_) zK rfl (fun KK hK=>?_)
  (try simp only [aq,ao,an])
  go_simp
  (with_reducible refine (rW k.l 0 0 w4 h.f).mono ?_)
  rintro e w5 ⟨rfl,hb⟩;replace h:=h.ay hb;replace kp:=kp.ay hb;replace k1:=k1.ay hb;replace aG:=aG.trans (Stp.aS _ hb);refine hK.out _ _ (fun _=>⟨h.hd,k1⟩) ?_
  clear hK KK hb
  (try simp only [Act.put,aj,ak,al])
  refine wTk 1 [(13,37,.agg #[aa ab 3,aa ab (fP k.l 0 0),aa ab sz,aa ab (2 * sz)])] ?_ ⟨h.hd,k1⟩ ?_
  ·intro w' hS
   (repeat' (first | exact aC | refine au ⟨_,rfl,.inl ⟨rfl,?_⟩⟩ ?_))
   all_goals exact zG
  simp only [aR,Act.put,aj,ak,al];refine aE (i:=14) (o:=_) zK rfl (fun KK hK=>?_)
  (try simp only [aq,ao,an])
  go_simp
  (with_reducible refine (sdo ⟨3,.msize,sz,2 * sz⟩ (fP k.l 0 0) _ h rfl hY.out).mono ?_)
  rintro e w6 (⟨x,h1,rfl,h3⟩ | ⟨v,rfl,⟨⟨y1,y2⟩,hy,rfl,eP,ei⟩,dB⟩)
  ·exact ⟨rfl,.inl ⟨x,h1,rfl,aG.trans h3⟩⟩
  have HR:=ar (show q= .fin ⟨o.val,o.is,o.aH,g⟩ from by rw [ei];simp only [MPh.stp,Ab];simp [eX])
  replace aG:=aG.trans dB;replace k1:=dB.ay k1 tW.out;refine hK.out _ _ (fun _=>⟨eP.hd,k1⟩) ?_
  clear hK KK
  (try simp only [Act.put,aj,ak,al])
  refine aN zK ?_ _
  go_wp2_with fail
  exact bodyPost_end (dY rfl _ _ _) rfl (.inr ⟨_,rfl,⟨_,rfl,eP,HR.out⟩,aG⟩)
 ·have HR:=ar (show q= .fin ⟨o.val,o.is,o.aH,g⟩ from by rw [fR.out,if_neg hd];simp [eX,Ab])
  have HP:=ar h;clear hG fR
  by_cases hd3:2 * sz<=x1
  ·have oV:decide (2 * sz<=x1)=true:=by simp;omega
   have hd1':decide (x1>=2 * sz)=true:=by simp;omega
   have hd2:decide (sz < k.l.c.buckets)=false:=by simp;omega
   clear hd hd3
   go_wp2_with fail
   exact bodyPost_end (dY rfl _ _ _) rfl (.inr ⟨_,rfl,⟨_,rfl,HP.out,HR.out⟩,aG⟩)
  ·have oV:decide (2 * sz<=x1)=false:=by simp;omega
   have hd1':decide (x1>=2 * sz)=false:=by simp;omega
   clear hd hd3
   go_wp2_with fail
   exact bodyPost_end (dY rfl _ _ _) rfl (.inr ⟨_,rfl,⟨_,rfl,HP.out,HR.out⟩,aG⟩)
end
def c4T:Nat->Nat | 5=>41 | 6=>35 | 7=>42 | 8=>43 | 9=>7 | 10=>6 | 11=>67 | _=>68
def c4P:Nat->List Nat | 6=>[5] | 7=>[6] | 8=>[6] | 10=>[7] | 11=>[8,9] | _=>[]
def c4R (k:Sk) (bk:Int) (op:MOp) (sz:Int) (log:Log) (q:An Out) (B:Nat) (i:Nat) (val:Nat->Option Value) (v:Value) (w:World):Prop:=match i with
 | 5=>Cj k bk op sz log q v w
 | 6=>val 5=some v/\∃ n,v= .tuple #[aa ab n,.agg aZ]
 | 7=>∃ n,v=aa ab n/\val 5=some (.tuple #[aa ab n,.agg aZ])
 | 8=>v= .agg aZ
 | 9=>∃ g9,v=ptr g9/\B<=g9/\Bk w g9 70 aZ
 | 10=>∃ n,v=aa ab n/\val 5=some (.tuple #[aa ab n,.agg aZ])
 | _=>True
def c4G (gp B:Nat) (i:Nat) (w1 w2:World):Prop:=match i with
 | 5=>Stp gp w1 w2
 | 11=>∃ g9,B<=g9/\Bk w1 g9 70 aZ/\w2=w1.setRow g9 aZ
 | _=>Below w1.heap.size w1 w2
def c4N (k:Sk) (g:cG) (n:Nat) (log:Log) (i:Nat) (w:World):Prop:=match i with
 | 5=>fD w k g n log
 | _=>True
theorem vJ {gp B i:Nat} {w1 w2:World} (h:c4G gp B i w1 w2):(i=5/\Stp gp w1 w2)\/(i=11/\∃ g9,B<=g9/\Bk w1 g9 70 aZ/\w2=w1.setRow g9 aZ)\/Below w1.heap.size w1 w2:=by
 unfold c4G at h;split at h
 ·exact .inl ⟨rfl,h⟩
 ·exact .inr (.inl ⟨rfl,h⟩)
 ·exact .inr (.inr h)
theorem OB {gp b5 B:Nat} (hb:b5≠gp) (h5:b5 < B) {i:Nat} {w0 w1 w2:World} (hB:w0.heap.size<=B) (h:coT gp b5 B w0 w1) (hg:c4G gp B i w1 w2):coT gp b5 B w0 w2:=by
 obtain ⟨h1,h2,h3⟩:=h;rcases vJ hg with ⟨rfl,hs⟩ | ⟨rfl,g9,h9,k9,rfl⟩ | hs
 ·exact ⟨h1.trans hs,hs.ay h2 hb,aQ h3 hs.size⟩
 ·exact ⟨h1.row (.inl zO) _,h2.a7 zO _,by rw [uf];exact h3⟩
 ·exact ⟨h1.trans (.aS _ hs),h2.ay hs,aQ h3 hs.size⟩
theorem AD {k:Sk} {g:cG} {n:Nat} {log:Log} {B j:Nat} (hB:k.gp < B) {w1 w2:World} (hj:j≠5) (h:fD w1 k g n log) (hg:c4G k.gp B j w1 w2):fD w2 k g n log:=by
 rcases vJ hg with ⟨e,-⟩ | ⟨rfl,g9,h9,k9,rfl⟩ | hs
 ·exact absurd e hj
 ·exact h.row k9 (by have:=h.bp;omega) zD _
 ·exact h.ay hs
theorem OE {k:Sk} {g:cG} {n:Nat} {log:Log} {B i j:Nat} (hB:k.gp < B) {w1 w2:World} (oP:i≠j) (h:c4N k g n log i w1) (hg:c4G k.gp B j w1 w2):c4N k g n log i w2:=by
 unfold c4N at h ⊢;split
 ·exact AD hB (fun e=>oP e.symm) h hg
 ·trivial
theorem OC {k:Sk} {bk:Int} {op:MOp} {sz:Int} {log:Log} {q:An Out} {B i j:Nat} (hB:k.gp < B) {val:Nat->Option Value} {v u:Value} {w1 w2:World} (oP:i≠j) (hj:val j=none) (h:c4R k bk op sz log q B i val v w1) (hg:c4G k.gp B j w1 w2):c4R k bk op sz log q B i (upd val j u) v w2:=by
 unfold c4R at h ⊢;split
 ·obtain ⟨n,m',g',h1,h2,h3,h4⟩:=h;exact ⟨n,m',g',h1,AD hB (fun e=>oP e.symm) h2 hg,h3,h4⟩
 ·exact ⟨qT hj h.1,h.2⟩
 ·obtain ⟨n,h1,h2⟩:=h;exact ⟨n,h1,qT hj h2⟩
 ·exact h
 ·obtain ⟨g9,h1,h2,h3⟩:=h;refine ⟨g9,h1,h2,?_⟩;rcases vJ hg with ⟨-,hs⟩ | ⟨-,g8,h9,k9,rfl⟩ | hs
  ·exact hs.ay h3 zO
  ·by_cases e:g9=g8
   ·subst e;exact h3.bL _
   ·exact h3.a7 e _
  ·exact h3.ay hs
 ·obtain ⟨n,h1,h2⟩:=h;exact ⟨n,h1,qT hj h2⟩
 ·trivial
theorem yc {n n':Int} {c:Value} (h:some (Value.tuple #[aa ab n,c])=some (Value.tuple #[aa ab n',c])):n=n':=by
 injection h with h
 injection h with h
 have h1:=congrArg (fun x=>x.toList) h
 simp only [List.cons.injEq,Value.int.injEq,true_and,and_true] at h1;exact h1
def bhV (kind:Int) (b1 b3:Nat):Value:=if kind=1 then .func (.func 116) #[] #[] else if kind=2 then .func (.func 117) #[] #[ptr b1,ptr b3] else .func (.func 118) #[] #[ptr b1,ptr b3]
section
variable {w:World} {k:Sk} {g:cG} {log:Log} {q:An Out}
theorem D1 (sz:Int) (w:World):Calls aw 116 #[aa ab sz] w fun e w'=>e=ai (.tuple #[])/\w=w':=by
 go_enter Tryz.func116,Tryz.ntmps116
 go_wp2_with fail
 exact bodyPost_end (dY rfl _ _ _) rfl ⟨rfl,rfl⟩
theorem fD.hd2 {w:World} {m:Nat} (h:fD w k g m log):JD k w:=h.hd
theorem vn (op:Opr) (jJ b5 b8 oW e1 e3:Nat) (h:fD w k g 0 log) (ep:Bk w jJ 139 #[ptr k.gp]) (k5:Bk w b5 34 (lyC k.l)) (k8:Bk w b8 54 (eg op)) (iT:Bk w oW 142 #[bhV op.kind e1 e3]) (ke1:Bk w e1 139 #[ptr k.gp]) (ke3:Bk w e3 3 #[aa ab (fP k.l 0 1)])
  (hs:MpS k log) (Dz:1<=k.l.c.buckets) (hk:op.kind=1\/op.kind=2\/op.kind=3) (ha:0<=op.a/\op.a < 65536) (hg:g.length<=1000) (hq:q=pU (2 * k.l.c.aM) k.l.c.buckets k.me ⟨op.kind,op.a,op.b⟩ .m1 0 g (log.drop 0)) (gq:q≠ .stuck):
  Calls aw 87 #[ptr jJ,ptr b5,ptr b8,ptr oW] w (mA k q w fun v w'=>∃ val is aH g' m' gG gn gc,q= .fin ⟨val,is,aH,g'⟩/\g'.length<=1000/\v= .agg (br val is 0 aH (.slice gG gn gc))/\fD w' k g' m' log):=by
 have HS:=ar (au hs (au Dz (au hk (au ha (au hg gq)))));have tW:=ar (show jJ≠k.gp/\b5≠k.gp/\b8≠k.gp/\oW≠k.gp/\e1≠k.gp/\e3≠k.gp by
  obtain ⟨_,hh,-⟩:=h.kp;exact ⟨(hh.typ ep zD).symm,(hh.typ k5 zD).symm,(hh.typ k8 zD).symm,(hh.typ iT zD).symm,(hh.typ ke1 zD).symm,(hh.typ ke3 zD).symm⟩)
 have HK:=ar (au ep (au k5 (au k8 (au iT (au ke1 ke3)))));have HQ:=ar (hq.trans (ox _ _ _ _ _ _ _ _));have kb:=Bk.made w 70 aZ;have aG:Stp k.gp w (w.alloc (ag aZ 70)):=(Stp.refl k.gp w).alloc _;have zp:=h.lt;have ey:=aB (Below.refl w.heap.size w) (ag aZ 70);replace h:=h.ay ey;clear ep k5 k8 iT ke1 ke3 hs Dz hk ha hg hq gq ey;have A6:=mq;go_enter Tryz.func87,Tryz.ntmps87
 go_upto_region 1 with fail
 generalize w.alloc (ag aZ 70)=w0 at *;obtain ⟨b4,jR⟩:∃ g,w.heap.size=g:=⟨_,rfl⟩;rw [jR] at kb zp ⊢;have HN:=ar (show k.gp < b4/\w.heap.size=b4 from ⟨zp,jR⟩)
 clear jR zp;refine aP (S:=fun w'=>JD k w'/\Bk w' jJ 139 #[ptr k.gp]/\Bk w' b5 34 (lyC k.l)) (E:=fun _=>false) zK ?_
 have ey:=aU (Below.refl w0.heap.size w0);replace h:=h.ay ey;replace kb:=kb.drew;replace aG:=aG.drew;clear ey;generalize w0.drew=w1 at *;have ep:=aG.ay HK.out.1 tW.out.1;have k5:=aG.ay HK.out.2.1 tW.out.2.1;refine wTk 5 [(0,8,ptr k.gp),(2,10,ptr k.gp),(3,11,ptr k.gp),(4,12,ae (some ⟨k.gp,27,none⟩)),(5,13,aa ab 0)] ?_ ⟨h.hd,ep,k5⟩ ?_
 ·intro w' hS;have zy:=hS.1.2;have pF:=hS.2.1.cell 0;simp at zy pF
  (repeat' (first | exact aC | refine au ⟨_,rfl,.inl ⟨rfl,?_⟩⟩ ?_))
  all_goals exact zG
 simp only [aR,Act.put,aj,ak,al];refine wTk 1 [(1,9,lyV k.l)] ?_ ⟨h.hd,ep,k5⟩ ?_
 ·intro w' hS;have fg:(dr 34 ⟨b5,0,none⟩).run aw w'= .ok (lyV k.l) w':=be w' b5 34 34 (lyC k.l) (0,0) _ hS.2.2 aJ rfl zK
  (repeat' (first | exact aC | refine au ⟨_,rfl,.inl ⟨rfl,?_⟩⟩ ?_))
  all_goals exact list.bI rfl rfl fg
 simp only [aR,Act.put,aj,ak,al];refine aE (i:=6) (o:=_) zK rfl (fun KK hK=>?_)
 (try simp only [aq,ao,an])
 go_simp
 (with_reducible refine (rW k.l 0 0 w1 h.f).mono ?_)
 rintro e w2 ⟨rfl,hb⟩;replace h:=h.ay hb;replace ep:=ep.ay hb;replace k5:=k5.ay hb;replace kb:=kb.ay hb;replace aG:=aG.trans (Stp.aS _ hb);refine hK.out _ _ (fun _=>⟨h.hd,ep,k5⟩) ?_
 clear hK KK hb
 (try simp only [Act.put,aj,ak,al])
 refine wTk 1 [(7,15,.agg #[aa ab 1,aa ab (fP k.l 0 0),aa ab 0,aa ab 0])] ?_ ⟨h.hd,ep,k5⟩ ?_
 ·intro w' hS
  (repeat' (first | exact aC | refine au ⟨_,rfl,.inl ⟨rfl,?_⟩⟩ ?_))
  all_goals exact zG
 simp only [aR,Act.put,aj,ak,al];refine aE (i:=8) (o:=_) zK rfl (fun KK hK=>?_)
 (try simp only [aq,ao,an])
 go_simp
 (with_reducible refine (sdo ⟨1,.msize,0,0⟩ (fP k.l 0 0) _ h rfl HQ.out).mono ?_)
 rintro e w3 (⟨x,h1,rfl,h3⟩ | ⟨v,rfl,⟨⟨sz,s2⟩,hx,rfl,eP,ei⟩,cQ⟩)
 ·exact ⟨rfl,.inl ⟨x,h1,rfl,aG.trans h3⟩⟩
 replace aG:=aG.trans cQ;replace ep:=cQ.ay ep tW.out.1;replace k5:=cQ.ay k5 tW.out.2.1;replace kb:=cQ.ay kb (by have:=HN.out;omega)
 have lh:=ar ei;clear h cQ hx ei HQ;have h:=eP;clear eP;refine hK.out _ _ (fun _=>⟨h.hd,ep,k5⟩) ?_
 clear hK KK
 (try simp only [Act.put,aj,ak,al])
 refine wTk 1 [(9,17,aa ab sz)] ?_ ⟨h.hd,ep,k5⟩ ?_
 ·intro w' hS
  (repeat' (first | exact aC | refine au ⟨_,rfl,.inl ⟨rfl,?_⟩⟩ ?_))
  all_goals exact zG
 simp only [aR,Act.put,aj,ak,al];refine wTk 1 [(10,5,aa ab sz)] ?_ ⟨h.hd,ep,k5⟩ ?_
 ·intro w' hS
  (repeat' (first | exact aC | refine au ⟨_,rfl,.inl ⟨rfl,?_⟩⟩ ?_))
  all_goals exact zG
 simp only [aR,Act.put,aj,ak,al];refine aN zK ?_ _;have hszc:(sz=1\/sz=2)/\sz<=k.l.c.buckets:=by
  refine Aw fun hc=>HS.out.2.2.2.2.2 (lh.out.trans ?_)
  simp only [MPh.stp];rw [if_neg (by have:=HS.out.2.1;omega)]
  simp [eX]
 have HSZ:=ar hszc;obtain ⟨bb,ey⟩:∃ x,op.a % sz=x:=⟨_,rfl⟩;have HBB:=ar (au ey (show bb=0\/bb=1 by rcases hszc.1 with rfl | rfl <;> omega))
 have fR:=ar (show q=pU (2 * k.l.c.aM) k.l.c.buckets k.me ⟨op.kind,op.a,op.b⟩ (.m2 sz bb) 1 g (log.drop 1) from by
  refine Aw fun hc=>?_
  by_cases L9:sz=1\/sz=2/\k.l.c.buckets=2
  ·apply hc;rw [lh.out];simp only [MPh.stp];rw [if_pos L9,<- ey];rfl
  ·refine HS.out.2.2.2.2.2 (lh.out.trans ?_);simp only [MPh.stp];rw [if_neg L9];simp [eX])
 clear lh ey;have c2:=k5.cell 2;have l5:=k5.lt;simp at c2;have mw:decide (sz < 1)=false:=by simp;omega
 have mI:decide (k.l.c.buckets < sz)=false:=by simp;omega
 have hz2':decide (sz > k.l.c.buckets)=false:=by simp;omega
 have hz3':(bits BinOp.and IntKind.i64 sz (sz - 1) != 0)=false:=by rcases hszc.1 with rfl | rfl <;> decide
 have cQ:1<=sz/\sz<=2:=zO;clear hszc
 go_upto_region 4 with fail
 clear c2 l5 mw mI hz2' hz3';have k8:=aG.ay HK.out.2.2.1 tW.out.2.2.1;refine aP (S:=fun w'=>Bk w' jJ 139 #[ptr k.gp]/\Bk w' b8 54 (eg op)) (E:=fun _=>false) zK ?_
 have ey:=aU (Below.refl w3.heap.size w3);replace h:=h.ay ey;replace ep:=ep.drew;replace k8:=k8.drew;replace kb:=kb.drew;replace aG:=aG.drew;clear ey k5;generalize w3.drew=w4 at *;refine wTk 5 [(0,36,ptr k.gp),(1,37,ae (some ⟨b8,2,none⟩)),(2,38,aa ab op.a),(3,39,aa ab sz),(4,40,aa ab bb)] ?_ ⟨ep,k8⟩ ?_
 ·intro w' hS;have pF:=hS.1.cell 0;have c8:=hS.2.cell 2;simp at pF c8;have hsz0:¬sz=0:=zO;have hrm:op.a.tmod sz=bb:=by rw [Int.tmod_eq_emod_of_nonneg HS.out.2.2.2.1.1];exact HBB.out.1
  (repeat' (first | exact aC | refine au ⟨_,rfl,.inl ⟨rfl,?_⟩⟩ ?_))
  all_goals exact zG
 simp only [aR,Act.put,aj,ak,al];have J9:k.gp < w4.heap.size:=h.lt;have h5B:b4 < w4.heap.size:=kb.lt;have h5g:b4≠k.gp:=by have:=HN.out;omega
 have L4:w.heap.size<=w4.heap.size:=aG.size;refine qR (QP:=fun c w'=>∃ x,q= .ask x/\c=[{ v:=np k.l x,recovered:=false }]/\Stp k.gp w w') (U:=[5,6,7,8,9,10,11]) (tmp:=c4T) (pre:=c4P) (T:=coT k.gp b4 w4.heap.size w) (N:=c4N k g (0+1) log) (G:=c4G k.gp w4.heap.size)
  (R:=c4R k k.l.c.buckets ⟨op.kind,op.a,op.b⟩ sz log q w4.heap.size) zK (fun _ _=>rfl) (fun w2 hT=>⟨hT.1.ay HK.out.1 tW.out.1,hT.1.ay HK.out.2.2.1 tW.out.2.2.1⟩) ⟨aG,kb,az _⟩
  (fun i _ w1 w2 hT hg=>OB h5g h5B L4 hT hg) (fun i hi=>?_) (fun i _ j _ oP w1 w2 _ hn hg=>OE J9 oP hn hg) (fun i _ j _ oP oZ v u w1 w2 _ _ hj _ hr hg=>OC J9 oP hj hr hg) (fun i hi o ho oZ w1 K qD hT hN cd hK=>?_) (fun c a' w' hqp hd=>?_) 0 (fun oZ w5 bS hT=>?_)
 ·simp only [bD,cB,or_false] at hi;rcases hi with rfl | rfl | rfl | rfl | rfl | rfl | rfl
  ·exact h
  all_goals trivial
 ·simp only [bD,cB,or_false] at hi;rcases hi with rfl | rfl | rfl | rfl | rfl | rfl | rfl
  ·obtain rfl:=aT ho;simp only [c4P,bq] at hK ⊢;go_simp;have Lm:=hN;unfold c4N at Lm;have Lg:=hT.1
   (with_reducible refine (Oq bb HBB.out.2 k.l.c.buckets ⟨op.kind,op.a,op.b⟩ sz Lm HS.out.1 HS.out.2.2.2.2.1 fR.out HS.out.2.2.2.2.2).mono ?_)
   rintro e w2 (⟨x,h1,rfl,h3⟩ | ⟨v,rfl,hco,cQ⟩)
   ·exact ⟨x,h1,rfl,Lg.trans h3⟩
   ·obtain ⟨n,m',g',rfl,h2,h3,h4⟩:=hco;exact hK _ _ ⟨n,m',g',rfl,h2,h3,h4⟩ cQ
  ·obtain rfl:=aT ho;obtain ⟨v5,e5,n,m',g',rfl,-⟩:=cd 5 (by simp [c4P])
   simp only [c4P,bq,e5,c4T] at hK ⊢;go_simp;exact hK _ _ ⟨by simp only [upd];exact e5,n,rfl⟩ (Below.refl _ _)
  ·obtain rfl:=aT ho;obtain ⟨v6,e6,e5,n,rfl⟩:=cd 6 (by simp [c4P])
   simp only [c4P,bq,e6,c4T] at hK ⊢;go_simp;exact hK _ _ ⟨n,rfl,by simp only [upd];exact e5⟩ (Below.refl _ _)
  ·obtain rfl:=aT ho;obtain ⟨v6,e6,e5,n,rfl⟩:=cd 6 (by simp [c4P])
   simp only [c4P,bq,e6,c4T] at hK ⊢;go_simp;exact hK _ _ rfl (Below.refl _ _)
  ·obtain rfl:=aT ho;simp only [c4P,bq] at hK ⊢;go_simp;exact hK _ _ ⟨_,rfl,hT.2.2,Bk.made _ _ _⟩ (aB (Below.refl _ _) _)
  ·obtain rfl:=aT ho;obtain ⟨v7,e7,n,rfl,e5⟩:=cd 7 (by simp [c4P])
   simp only [c4P,bq,e7,c4T] at hK ⊢;go_simp;exact hK _ _ ⟨n,rfl,by simp only [upd];exact e5⟩ (Below.refl _ _)
  ·obtain rfl:=aT ho;obtain ⟨v8,e8,rfl⟩:=cd 8 (by simp [c4P])
   obtain ⟨v9,e9,g9,rfl,h9,k9⟩:=cd 9 (by simp [c4P])
   simp only [c4P,bq,e8,e9,c4T] at hK ⊢
   (try simp only [aq,ao,an])
   refine dH 70 (.tmp 7) (.tmp 43) rfl g9 _ rfl rfl 70 aZ k9 zK rfl (by simp [aD]) ?_
   exact hK undef _ trivial ⟨g9,h9,k9,rfl⟩
 ·obtain ⟨x,h1,rfl,h3⟩:=hqp;exact ⟨hd,.inl ⟨x,h1,rfl,h3⟩⟩
 obtain ⟨v5,e5,n,m',g',rfl,lG,oe,hqn⟩:=bS 5 zS;obtain ⟨v6,e6,e6',n6,rfl⟩:=bS 6 zS;obtain ⟨v7,e7,n7,rfl,e7'⟩:=bS 7 zS;obtain ⟨v8,e8,rfl⟩:=bS 8 zS;obtain ⟨v9,e9,b7,rfl,h9,k9⟩:=bS 9 zS;obtain ⟨v10,xh,n10,rfl,e10'⟩:=bS 10 zS;obtain ⟨v11,Jn,-⟩:=bS 11 zS;rw [e5] at e6' e7' e10';obtain rfl:=yc e6';obtain rfl:=yc e7';obtain rfl:=yc e10';clear bS e6' e7' e10';refine aN (by simp only [dC,e5,e6,e7,e8,e9,xh,Jn,gQ,if_true];kernel_rfl) ?_ _
 simp only [bq,e5,e6,e7,e8,e9,xh,Jn,c4T];clear e5 e6 e7 e8 e9 xh Jn
 (try simp only [Act.put,aj,ak,al,iL])
 have h:=lG;have aG:=hT.1;have kb:=hT.2.1;have JJ:=ar (show b4 < b7/\k.gp < b7/\w.heap.size<=b7 from ⟨zO,zO,zO⟩)
 clear lG hT ep k8 J9 h5B h5g L4 h9;have L6:1<=n/\n<=40:=by
  refine Aw fun hc=>HS.out.2.2.2.2.2 (hqn.trans ?_)
  unfold ku;rw [if_neg hc];simp [eX]
 obtain ⟨lo,uM⟩:∃ lo:LOp,lo=⟨op.kind,n,jr op.a,op.b⟩:=⟨_,rfl⟩;have HLO:=ar uM;have nm:lo.kind=1\/lo.kind=2\/lo.kind=3:=by rw [uM];exact HS.out.2.2.1
 obtain ⟨q',Dr⟩:∃ q',q'=cS (2 * k.l.c.aM) k.me lo (dp lo g') (log.drop m'):=⟨_,rfl⟩;have sH:q=DM (2 * k.l.c.aM) k.l.c.buckets k.me ⟨op.kind,op.a,op.b⟩ false sz m' q' (log.drop m') 0:=by
  rw [hqn,Dr];unfold ku;rw [if_pos L6];show eX _ _ _ _ ((dp ⟨op.kind,n,jr op.a,op.b⟩ g').inM false sz m' ⟨op.kind,n,jr op.a,op.b⟩ _) _=_;rw [<- uM];exact ym _ _ _ _ _ _ _ _ _ nm _ _
 have HQC:=ar sH;have HQ':=ar Dr;have HLS:=ar (show LiS k lo g' m' log q' from by
  refine ⟨HS.out.1.se,by rw [uM];show n<=_;omega,by rw [uM];exact HS.out.1.nd n L6.1 L6.2,nm,Dr,fun e=>HS.out.2.2.2.2.2 (by rw [sH,e];rfl),fun o z' e=>J2 (N:=1000) (by have:=HS.out.1.se;omega) nm oe (Dr.symm.trans e),HS.out.1.cap⟩)
 have fU:=ar (au nm oe);clear L6 uM sH Dr hqn nm fR oe;have c7:=k9.cell 2;have l7:=k9.lt;simp at c7
 go_upto_region 7 with fail
 clear c7 l7;have ep:=aG.ay HK.out.1 tW.out.1;have k8:=aG.ay HK.out.2.2.1 tW.out.2.2.1;refine aP (S:=fun w'=>Bk w' jJ 139 #[ptr k.gp]/\Bk w' b8 54 (eg op)) (E:=fun _=>false) zK ?_
 have ey:=aU (Below.refl w5.heap.size w5);replace h:=h.ay ey;replace ep:=ep.drew;replace k8:=k8.drew;replace kb:=kb.drew;replace k9:=k9.drew;replace aG:=aG.drew;clear ey;generalize w5.drew=w6 at *;refine wTk 8 [(0,49,ptr k.gp),(1,50,ae (some ⟨b8,0,none⟩)),(2,51,aa ab op.kind),(3,52,aa ab n),(4,53,ae (some ⟨b8,2,none⟩)),(5,54,aa ab op.a),(7,56,ae (some ⟨b8,3,none⟩)),(8,57,aa ab op.b)] ?_ ⟨ep,k8⟩ ?_
 ·intro w' hS;have pF:=hS.1.cell 0;have c80:=hS.2.cell 0;have c82:=hS.2.cell 2;have c83:=hS.2.cell 3;simp at pF c80 c82 c83
  (repeat' (first | exact aC | refine au ⟨_,rfl,.inl ⟨rfl,?_⟩⟩ ?_))
  all_goals exact zG
 simp only [aR,Act.put,aj,ak,al];refine aE (i:=6) (o:=_) zK rfl (fun KK hK=>?_)
 (try simp only [aq,ao,an])
 go_simp
 (with_reducible refine (MS op.a w6).mono ?_)
 rintro e w7 ⟨rfl,rfl⟩;refine hK.out _ _ (fun _=>⟨ep,k8⟩) ?_
 clear hK KK
 (try simp only [Act.put,aj,ak,al])
 refine aE (i:=9) (o:=_) zK rfl (fun KK hK=>?_)
 (try simp only [aq,ao,an])
 go_simp;have hd:=slist h HLS.out;rw [HLO.out] at hd
 (with_reducible refine hd.mono ?_)
 rw [<- HLO.out];rintro e w8 (⟨x,h1,rfl,h3⟩ | ⟨v,rfl,⟨o,z',gG,gn,gc,pk,pc,po,pv,xy,rfl,lG,-⟩,cQ⟩)
 ·exact ⟨rfl,.inl ⟨x,by rw [HQC.out,h1];rfl,rfl,aG.trans h3⟩⟩
 replace aG:=aG.trans cQ;replace ep:=cQ.ay ep tW.out.1;replace k8:=cQ.ay k8 tW.out.2.2.1;replace kb:=cQ.ay kb (by have:=HN.out;omega)
 replace k9:=cQ.ay k9 (by have:=JJ.out;omega)
 have zJ:=ar xy;clear h hd cQ xy;have h:=lG;clear lG;obtain ⟨pp,NW⟩:∃ x,((m'+o.aH:Nat):Int)=x:=⟨_,rfl⟩;have HPP:=ar NW;rw [NW];clear NW;refine hK.out _ _ (fun _=>⟨ep,k8⟩) ?_
 clear hK KK
 (try simp only [Act.put,aj,ak,al])
 refine wTk 1 [(10,48,.tuple #[.agg (br o.val o.is 0 pp (.slice gG gn gc)),.agg (bj pk pc po pv)])] ?_ ⟨ep,k8⟩ ?_
 ·intro w' hS
  (repeat' (first | exact aC | refine au ⟨_,rfl,.inl ⟨rfl,?_⟩⟩ ?_))
  all_goals exact zG
 simp only [aR,Act.put,aj,ak,al];refine wTk 2 [(11,59,.agg (br o.val o.is 0 pp (.slice gG gn gc))),(12,60,.agg (bj pk pc po pv))] ?_ ⟨ep,k8⟩ ?_
 ·intro w' hS
  (repeat' (first | exact aC | refine au ⟨_,rfl,.inl ⟨rfl,?_⟩⟩ ?_))
  all_goals exact zG
 simp only [aR,Act.put,aj,ak,al];refine aE (i:=13) (o:=_) zK rfl (fun KK hK=>?_)
 (try simp only [aq,ao,an])
 rw [if_pos (by rfl)]
 refine dH 70 (.tmp 7) (.tmp 59) rfl b7 (br o.val o.is 0 pp (.slice gG gn gc)) rfl rfl 70 aZ k9 zK rfl (by simp [aD]) ?_
 replace h:=h.row k9 (by have:=JJ.out;have:=h.bp;omega) zD (br o.val o.is 0 pp (.slice gG gn gc))
 replace kb:=kb.a7 (b:=b7) (by have:=JJ.out;omega) (br o.val o.is 0 pp (.slice gG gn gc))
 replace aG:=aG.row (b:=b7) (.inl JJ.out.2.2) (br o.val o.is 0 pp (.slice gG gn gc));replace ep:=aG.ay HK.out.1 tW.out.1;replace k8:=aG.ay HK.out.2.2.1 tW.out.2.2.1;replace k9:=k9.bL (br o.val o.is 0 pp (.slice gG gn gc));generalize w8.setRow b7 (br o.val o.is 0 pp (.slice gG gn gc))=w9 at *;refine hK.out _ _ (fun _=>⟨ep,k8⟩) ?_
 clear hK KK
 (try simp only [aq,ao,an,Act.put])
 refine aN zK ?_ _;have HG9:=ar (show z'.gone.length<=1000 from J2 (N:=1000) (by have:=HS.out.1.se;omega) fU.out.1 fU.out.2 (HQ'.out.symm.trans zJ.out))
 have hY:=ar (show q=eX (2 * k.l.c.aM) k.l.c.buckets k.me ⟨op.kind,op.a,op.b⟩ (jf ⟨op.kind,op.a,op.b⟩ sz { o with aH:=m'+o.aH } (m'+z'.made) z'.gone) (log.drop (m'+z'.made)) from by
  rw [HQC.out,zJ.out];show eX _ _ _ _ _ ((log.drop m').drop z'.made)=_;rw [List.drop_drop];rfl)
 obtain ⟨isb,hisb⟩:∃ b,o.is=b:=⟨_,rfl⟩;have HIS:=ar hisb;rw [hisb] at k9;clear hisb;have c1:=k9.cell 1;have l9:=k9.lt;simp at c1
 cases isb with
 | false=>
  have HF:=ar (show q= .fin ⟨o.val,false,pp,z'.gone⟩ from by
   rw [hY.out];unfold jf;rw [if_pos HIS.out];show eX _ _ _ _ (MX.out ⟨o.val,o.is,((m'+o.aH:Nat):Int),z'.gone⟩) _=_;rw [HIS.out,HPP.out];simp [eX])
  clear hY
  go_wp2_with (first
   | (refine aL rfl 70 (.tmp 7) rfl b7 rfl 70 (br o.val false 0 pp (.slice gG gn gc)) (0,0) _ k9 aI rfl zK ?_)
   | (refine aK rfl 70 (.tmp 4) (.tmp 66) rfl rfl b4 (br o.val false 0 pp (.slice gG gn gc)) rfl rfl 70 aZ kb zK rfl (by simp [aD]) ?_))
  have h9:=h.row kb (by have:=HN.out;have:=h.bp;omega) zD (br o.val false 0 pp (.slice gG gn gc))
  replace kb:=kb.bL (br o.val false 0 pp (.slice gG gn gc));replace aG:=aG.row (b:=b4) (.inl (by have:=HN.out;omega)) (br o.val false 0 pp (.slice gG gn gc))
  exact aX (v:=.agg (br o.val false 0 pp (.slice gG gn gc))) (cb (p:=4) (ty:=70) rfl _ _ b4 70 _ (0,0) _ rfl kb aI rfl zK) rfl (.inr ⟨_,rfl,⟨_,_,_,_,_,_,_,_,HF.out,HG9.out,rfl,h9⟩,aG⟩)
 | true=>
  have iT:=aG.ay HK.out.2.2.2.1 tW.out.2.2.2.1;have vK:=iT.cell 0;have BG:=iT.lt;simp at vK;rcases HS.out.2.2.1 with hk1 | nY | El
  ·have HF:=ar (show q= .fin ⟨o.val,true,pp,z'.gone⟩ from by
    rw [hY.out];unfold jf;rw [if_neg (by show ¬(o.is=false);rw [HIS.out];decide),if_neg (by show ¬(op.kind=2);omega),if_neg (by show ¬(op.kind=3);omega)]
    show eX _ _ _ _ (MX.out ⟨o.val,o.is,((m'+o.aH:Nat):Int),z'.gone⟩) _=_;rw [HIS.out,HPP.out];simp [eX])
   have Kc:bhV op.kind e1 e3= .func (.func 116) #[] #[]:=by unfold bhV;rw [if_pos hk1]
   rw [Kc] at vK;clear hY hk1 Kc iT
   go_upto_region 9 with fail
   go_wp2_with fail
   (with_reducible refine (D1 sz _).mono ?_)
   rintro e wA ⟨rfl,rfl⟩;clear vK BG c1 l9
   go_wp2_with (first
    | (refine aL rfl 70 (.tmp 7) rfl b7 rfl 70 (br o.val true 0 pp (.slice gG gn gc)) (0,0) _ k9 aI rfl zK ?_)
    | (refine aK rfl 70 (.tmp 4) (.tmp 66) rfl rfl b4 (br o.val true 0 pp (.slice gG gn gc)) rfl rfl 70 aZ kb zK rfl (by simp [aD]) ?_))
   have h9:=h.row kb (by have:=HN.out;have:=h.bp;omega) zD (br o.val true 0 pp (.slice gG gn gc))
   replace kb:=kb.bL (br o.val true 0 pp (.slice gG gn gc));replace aG:=aG.row (b:=b4) (.inl (by have:=HN.out;omega)) (br o.val true 0 pp (.slice gG gn gc))
   exact aX (v:=.agg (br o.val true 0 pp (.slice gG gn gc))) (cb (p:=4) (ty:=70) rfl _ _ b4 70 _ (0,0) _ rfl kb aI rfl zK) rfl (.inr ⟨_,rfl,⟨_,_,_,_,_,_,_,_,HF.out,HG9.out,rfl,h9⟩,aG⟩)
  ·have Kc:bhV op.kind e1 e3= .func (.func 117) #[] #[ptr e1,ptr e3]:=by unfold bhV;rw [if_neg zO,if_pos nY]
   have gK:=ar (show q=pU (2 * k.l.c.aM) k.l.c.buckets k.me ⟨op.kind,op.a,op.b⟩ (.m5 sz { o with aH:=m'+o.aH }) (m'+z'.made) z'.gone (log.drop (m'+z'.made)) from by
    rw [hY.out];unfold jf;rw [if_neg (by show ¬(o.is=false);rw [HIS.out];decide),if_pos (show op.kind=2 from nY)]
    rfl)
   rw [Kc] at vK;have ke1:=aG.ay HK.out.2.2.2.2.1 tW.out.2.2.2.2.1;have ke3:=aG.ay HK.out.2.2.2.2.2 tW.out.2.2.2.2.2;clear hY nY Kc iT
   go_upto_region 9 with fail
   go_wp2_with fail
   (with_reducible refine (D0 e1 e3 sz _ _ HSZ.out.1 h ke1 ke3 gK.out).mono ?_)
   rintro e wA (⟨x,h1,rfl,h3⟩ | ⟨v,rfl,⟨m9,rfl,eP,xy⟩,cQ⟩)
   ·exact ⟨rfl,.inl ⟨x,h1,rfl,aG.trans h3⟩⟩
   replace aG:=aG.trans cQ;replace kb:=cQ.ay kb (by have:=HN.out;omega)
   replace k9:=cQ.ay k9 (by have:=JJ.out;omega)
   clear h ke1 ke3 cQ gK vK BG c1 l9;have h:=eP;clear eP;have HF:=ar (show q= .fin ⟨o.val,true,pp,z'.gone⟩ from by rw [xy];show An.fin (⟨o.val,o.is,((m'+o.aH:Nat):Int),z'.gone⟩:Go.Proofs.YtikdaeddbkopeaaGreatR.Out)=_;rw [HIS.out,HPP.out])
   clear xy
   go_wp2_with (first
    | (refine aL rfl 70 (.tmp 7) rfl b7 rfl 70 (br o.val true 0 pp (.slice gG gn gc)) (0,0) _ k9 aI rfl zK ?_)
    | (refine aK rfl 70 (.tmp 4) (.tmp 66) rfl rfl b4 (br o.val true 0 pp (.slice gG gn gc)) rfl rfl 70 aZ kb zK rfl (by simp [aD]) ?_))
   have h9:=h.row kb (by have:=HN.out;have:=h.bp;omega) zD (br o.val true 0 pp (.slice gG gn gc))
   replace kb:=kb.bL (br o.val true 0 pp (.slice gG gn gc));replace aG:=aG.row (b:=b4) (.inl (by have:=HN.out;omega)) (br o.val true 0 pp (.slice gG gn gc))
   exact aX (v:=.agg (br o.val true 0 pp (.slice gG gn gc))) (cb (p:=4) (ty:=70) rfl _ _ b4 70 _ (0,0) _ rfl kb aI rfl zK) rfl (.inr ⟨_,rfl,⟨_,_,_,_,_,_,_,_,HF.out,HG9.out,rfl,h9⟩,aG⟩)
  ·have Kc:bhV op.kind e1 e3= .func (.func 118) #[] #[ptr e1,ptr e3]:=by unfold bhV;rw [if_neg zO,if_neg zO]
   have gK:=ar (show q=pU (2 * k.l.c.aM) k.l.c.buckets k.me ⟨op.kind,op.a,op.b⟩ (.m7 { o with aH:=m'+o.aH }) (m'+z'.made) z'.gone (log.drop (m'+z'.made)) from by
    rw [hY.out];unfold jf;rw [if_neg (by show ¬(o.is=false);rw [HIS.out];decide),if_neg (by show ¬(op.kind=2);omega),if_pos (show op.kind=3 from El)]
    rfl)
   rw [Kc] at vK;have ke1:=aG.ay HK.out.2.2.2.2.1 tW.out.2.2.2.2.1;have ke3:=aG.ay HK.out.2.2.2.2.2 tW.out.2.2.2.2.2;clear hY El Kc iT
   go_upto_region 9 with fail
   go_wp2_with fail
   (with_reducible refine (DZ e1 e3 sz _ _ _ h ke1 ke3 gK.out).mono ?_)
   rintro e wA (⟨x,h1,rfl,h3⟩ | ⟨v,rfl,⟨m9,rfl,eP,xy⟩,cQ⟩)
   ·exact ⟨rfl,.inl ⟨x,h1,rfl,aG.trans h3⟩⟩
   replace aG:=aG.trans cQ;replace kb:=cQ.ay kb (by have:=HN.out;omega)
   replace k9:=cQ.ay k9 (by have:=JJ.out;omega)
   clear h ke1 ke3 cQ gK vK BG c1 l9;have h:=eP;clear eP;have HF:=ar (show q= .fin ⟨o.val,true,pp,z'.gone⟩ from by rw [xy];show An.fin (⟨o.val,o.is,((m'+o.aH:Nat):Int),z'.gone⟩:Go.Proofs.YtikdaeddbkopeaaGreatR.Out)=_;rw [HIS.out,HPP.out])
   clear xy
   go_wp2_with (first
    | (refine aL rfl 70 (.tmp 7) rfl b7 rfl 70 (br o.val true 0 pp (.slice gG gn gc)) (0,0) _ k9 aI rfl zK ?_)
    | (refine aK rfl 70 (.tmp 4) (.tmp 66) rfl rfl b4 (br o.val true 0 pp (.slice gG gn gc)) rfl rfl 70 aZ kb zK rfl (by simp [aD]) ?_))
   have h9:=h.row kb (by have:=HN.out;have:=h.bp;omega) zD (br o.val true 0 pp (.slice gG gn gc))
   replace kb:=kb.bL (br o.val true 0 pp (.slice gG gn gc));replace aG:=aG.row (b:=b4) (.inl (by have:=HN.out;omega)) (br o.val true 0 pp (.slice gG gn gc))
   exact aX (v:=.agg (br o.val true 0 pp (.slice gG gn gc))) (cb (p:=4) (ty:=70) rfl _ _ b4 70 _ (0,0) _ rfl kb aI rfl zK) rfl (.inr ⟨_,rfl,⟨_,_,_,_,_,_,_,_,HF.out,HG9.out,rfl,h9⟩,aG⟩)
end
theorem jz (l:Ly) (x:LAc) (ga g7 go gb:Nat) (w:World) (ka:Bk w ga 67 bW):
  CallsD aw 119 #[ptr ga,ptr g7,ptr go,ptr gb] (.panicking [{ v:=np l x,recovered:=false }]) w fun e u' w'=>
   e=ai (.tuple #[])/\u'= .panicking [{ v:=np l x,recovered:=true }]/\Bk w' ga 67 (bj x.k (adr l x.c) x.o x.v)/\Stp ga w w':=by
 obtain ⟨k,c,o,v⟩:=x;generalize Ka:adr l c=ci;have e0:np l ⟨k,c,o,v⟩= .iface 170 (.agg (bj k ci o v)):=by unfold np;rw [Ka]
 rw [e0];clear e0 Ka;refine callsD_of_wpS Tryz.func119 rfl fun c₀ cs hu=>?_
 apply wpS_seq;apply wpS_region;simp [wpOpsS,go_sem,recoverD,hu,Tryz.ntmps119,Exit.thenS];refine wpS_of_wp ?_;have hn:∀ w:World,(binOp .eql 20 (.iface 170 (.agg (bj k ci o v))) .nilIface).run aw w= .ok (ah false) w:=fun _=>by kernel_rfl
 have heq:∀ w:World,(eqGuard .eql 20 (.tmp 7) (.const .nilIface) (.iface 170 (.agg (bj k ci o v))) .nilIface).run aw w= .ok () w:=fun _=>by kernel_rfl
 have rp:(#[ptr ga,ptr g7,ptr go,ptr gb]++(Array.replicate 19 undef).setIfInBounds 3 (.iface 170 (.agg (bj k ci o v))))=#[ptr ga,ptr g7,ptr go,ptr gb,undef,undef,undef,.iface 170 (.agg (bj k ci o v)),undef,undef,undef,undef,undef,undef,undef,undef,undef,undef,undef,undef,undef,undef,undef]:=zK;rw [rp];clear rp;have hta:∀ w:World,(Instr.typeAssert (.iface 170 (.agg (bj k ci o v))) 20 170 true).run aw w= .ok (.tuple #[.agg (bj k ci o v),ah true]) w:=fun _=>by kernel_rfl
 have l0:=ka.lt;have kx:=Bk.made w 170 (bj k ci o v);have NF:=ka.alloc (ag (bj k ci o v) 170);have aG:Stp ga w (w.alloc (ag (bj k ci o v) 170)):=(Stp.refl ga w).alloc _
 go_wp2_with (first
  | (refine dJ rfl 170 (.tmp 5) (.tmp 20) rfl rfl w.heap.size _ _ (bj k ci o v) rfl rfl rfl rfl zK rfl (by simp [aD]) ?_)
  | (refine aL rfl 67 (.tmp 21) rfl w.heap.size rfl 170 (bj k ci o v) (0,0) _ kx bU rfl zK ?_)
  | (refine aK rfl 67 (.tmp 0) (.tmp 22) rfl rfl ga (bj k ci o v) rfl rfl 67 bW NF zK rfl (by simp [aD]) ?_))
 have h1:Bk ((w.alloc (ag (bj k ci o v) 170)).setRow ga (bj k ci o v)) ga 67 (bj k ci o v):=Cm _ _ bW (bj k ci o v) 67 (0,0) NF;have h2:Stp ga w ((w.alloc (ag (bj k ci o v) 170)).setRow ga (bj k ci o v)):=
  ⟨aG.os,aG.tape,aG.output,by simp [World.setRow],fun b hb hn=>(setRow_other _ ga b _ hn).trans (aG.block b hb hn)⟩
 exact ⟨rfl,_,rfl,_,dY rfl _ _ _,rfl,rfl,h1,h2⟩
theorem j9 (ga g7 go gb:Nat) (w:World):
  CallsD aw 119 #[ptr ga,ptr g7,ptr go,ptr gb] .returning w fun e u' w'=>e=ai (.tuple #[])/\u'= .returning/\w'=w:=by
 refine callsD_of_wpS Tryz.func119 rfl fun c₀ cs hu=>?_
 apply wpS_seq;apply wpS_region;simp [wpOpsS,go_sem,recoverD,hu,Tryz.ntmps119,Exit.thenS];refine wpS_of_wp ?_;have hn:∀ w:World,(binOp .eql 20 .nilIface .nilIface).run aw w= .ok (ah true) w:=fun _=>by kernel_rfl
 have heq:∀ w:World,(eqGuard .eql 20 (.tmp 7) (.const .nilIface) .nilIface .nilIface).run aw w= .ok () w:=fun _=>by kernel_rfl
 have rp:(#[ptr ga,ptr g7,ptr go,ptr gb]++(Array.replicate 19 undef).setIfInBounds 3 .nilIface)=#[ptr ga,ptr g7,ptr go,ptr gb,undef,undef,undef,.nilIface,undef,undef,undef,undef,undef,undef,undef,undef,undef,undef,undef,undef,undef,undef,undef]:=zK;rw [rp];clear rp
 go_wp2
 cases c₀
 simp only at hu;subst hu;exact ⟨rfl,_,rfl,_,dY rfl _ _ _,rfl,rfl,rfl⟩
def tO {β:Type} (l:Ly) (q:An β) (T:Int->Bool->Int->cG->Prop) (gp bm:Nat) (w:World) (e:lb) (w':World):Prop:=
 ((∃ a,q= .ask a/\e=ai (.tuple #[.agg (bj a.k (adr l a.c) a.o a.v),.agg aZ,ah false]))\/
  (∃ val is aH g' gv,T val is aH g'/\e=ai (.tuple #[.agg bW,.agg (br val is 0 aH gv),ah true])/\bN w' gv g'))/\cL gp bm w w'
theorem q9 {β:Type} {k:Sk} {g:cG} {m:Nat} {log:Log} (q:An β) (T:Int->Bool->Int->cG->Prop) (BV:Nat) (qg:Array Value) (bm:Nat) (w:World) (hbm:bm < w.heap.size) (h:fD w k g m log) (hcf:∀ w:World,(callFunc BV qg).run aw w= .ok (.enter BV qg) w)
  (hT:∀ val is aH g',T val is aH g'->g'.length<=1000)
  (hc:∀ w2,Below w.heap.size w w2->Calls aw BV qg w2 (mA k q w2 fun v w3=>∃ val is aH g' m' Mf Me Ct,T val is aH g'/\v= .agg (br val is 0 aH (.slice Mf Me Ct))/\fD w3 k g' m' log)):
  Calls aw 86 #[ptr k.gp,.func (.func BV) #[] qg] w (tO k.l q T k.gp bm w):=by
 have k0:=(((Bk.made w 139 #[ptr k.gp]).alloc (ag bW 67)).alloc (ag aZ 70)).alloc (ag #[ah false] 4);have k1:=((Bk.new (w.alloc (ag #[ptr k.gp] 139)) (g:=w.heap.size+1) zS 67 bW).alloc (ag aZ 70)).alloc (ag #[ah false] 4);have k2:=(Bk.new ((w.alloc (ag #[ptr k.gp] 139)).alloc (ag bW 67)) (g:=w.heap.size+1+1) zS 70 aZ).alloc (ag #[ah false] 4);have k3:=Bk.new (((w.alloc (ag #[ptr k.gp] 139)).alloc (ag bW 67)).alloc (ag aZ 70)) (g:=w.heap.size+1+1+1) zS 4 #[ah false];have bz:=aB (aB (aB (aB (Below.refl w.heap.size w) (ag #[ptr k.gp] 139)) (ag bW 67)) (ag aZ 70)) (ag #[ah false] 4);have zp:=h.lt;have HH:=ar h;have HT:=ar hT;have HC:=ar hc;clear h hT hc;have Dv:∀ (fn:Fn) (first cap:Array Value) (w:World),(kZ fn first cap).run aw w= .ok (.func fn first cap) w:=fun _ _ _ _=>rfl
 go_enter_defers Tryz.func86,Tryz.ntmps86
 go_upto_region 2 with fail
 generalize ((((w.alloc (ag #[ptr k.gp] 139)).alloc (ag bW 67)).alloc (ag aZ 70)).alloc (ag #[ah false] 4))=w4 at *;obtain ⟨b0,h0⟩:∃ x,w.heap.size=x:=⟨_,rfl⟩;have HW:=ar h0;rw [h0] at k0 k1 k2 k3 bz zp hbm ⊢;clear h0;obtain ⟨b1,h1⟩:∃ x,b0+1=x:=⟨_,rfl⟩;obtain ⟨b2,h2⟩:∃ x,b1+1=x:=⟨_,rfl⟩;obtain ⟨b3,h3⟩:∃ x,b2+1=x:=⟨_,rfl⟩;rw [h1] at k1;rw [h1,h2] at k2;rw [h1,h2,h3] at k3 ⊢;have z1:b0 < b1:=zO;have z2:b1 < b2:=zO;have z3:b2 < b3:=zO;clear h1 h2 h3;have y0:=k0.lt;have y1:=k1.lt;have y2:=k2.lt;have y3:=k3.lt
 go_wp2_with fail
 (with_reducible refine (HC.out w4 (by rw [HW.out];exact bz)).mono ?_)
 rintro e w5 (⟨a,hq,rfl,hs⟩ | ⟨v,rfl,⟨val,is,aH,g',m',Mf,Me,Ct,hT,rfl,hp⟩,hs⟩)
 all_goals replace hs:cL k.gp bm w4 w5:=hs.two
 ·have HQ:=ar hq;clear hq;replace k1:=hs.ay k1 zO zO;replace k2:=hs.ay k2 zO zO;replace k3:=hs.ay k3 zO zO;have fa:=(cL.aS k.gp bm (by rw [HW.out];exact bz:Below w.heap.size w w4)).trans hs
  refine leaves_cons (f:=119) (args:=#[ptr b1,ptr b0,ptr b2,ptr b3]) zS (by simp [go_sem]) ?_
  refine (jz k.l a b1 b0 b2 b3 _ k1).mono ?_;rintro e u' w6 ⟨rfl,rfl,ka,dB⟩;replace k2:=dB.ay k2 zO;replace k3:=dB.ay k3 zO;refine ⟨_,iH (p:=4) (q:=5) (t:=6) (t1:=67) (t2:=70) (t3:=4) rfl _ _ b1 b2 b3 (bj a.k (adr k.l a.c) a.o a.v) aZ (0,0) (0,0) _ _ _ rfl rfl rfl ka k2 bU rfl zK aI rfl zK (ky _ b3 false k3),?_⟩;refine ⟨.inl ⟨a,HQ.out,rfl⟩,?_⟩;exact ⟨dB.os.trans fa.os,dB.tape.trans fa.tape,dB.output.trans fa.output,aQ fa.size dB.size,fun b hb hn uL=>(dB.block b (bg hb fa.size) (by rw [HW.out] at hb;omega)).trans (fa.block b hb hn uL)⟩
 ·have HP:=ar (au hT hp);have hg:=HT.out _ _ _ _ hT;obtain ⟨gv,kp,kg⟩:=hp.kp;clear hT hp;replace k0:=hs.ay k0 zO zO;replace k1:=hs.ay k1 zO zO;replace k2:=hs.ay k2 zO zO;replace k3:=hs.ay k3 zO zO;have fa:=(cL.aS k.gp bm (by rw [HW.out];exact bz:Below w.heap.size w w4)).trans hs
  clear hs bz;obtain ⟨v,hv⟩:∃ v,v=Value.agg (br val is 0 aH (.slice Mf Me Ct)):=⟨_,rfl⟩
  go_upto_region 3 with (refine aK rfl 70 (.tmp 5) (.tmp 9) rfl rfl b2 (br val is 0 aH (.slice Mf Me Ct)) rfl rfl 70 aZ k2 zK rfl (by simp [aD]) ?_)
  clear hv v;have NC:=kg.row k2 zD (br val is 0 aH (.slice Mf Me Ct));replace kp:=Bk.a7 kp (b:=b2) zO (br val is 0 aH (.slice Mf Me Ct));replace k0:=k0.a7 (b:=b2) zO (br val is 0 aH (.slice Mf Me Ct));replace k1:=k1.a7 (b:=b2) zO (br val is 0 aH (.slice Mf Me Ct));replace k3:=k3.a7 (b:=b2) zO (br val is 0 aH (.slice Mf Me Ct));replace k2:=k2.bL (br val is 0 aH (.slice Mf Me Ct));replace fa:=fa.row (b:=b2) (.inl (by rw [HW.out];omega)) (br val is 0 aH (.slice Mf Me Ct))
  clear kg;generalize w5.setRow b2 (br val is 0 aH (.slice Mf Me Ct))=w6 at *;have c0:=k0.cell 0;have jI:=Bk.cell kp 26;simp at c0 jI;have lp6:=Bk.lt kp
  go_wp2_with fail
  (with_reducible refine (GnV.clone NC hg).mono ?_)
  rintro e w7 ⟨G,n,c,rfl,hn,yU,bn,hb⟩;subst hn;have HG:=ar (show bN w7 (.slice G g'.length c) g' from ⟨G,c,rfl,yU,nK bn rfl⟩)
  replace kp:=Bk.ay kp hb;replace k0:=Bk.ay k0 hb;replace k1:=Bk.ay k1 hb;replace k2:=Bk.ay k2 hb;replace k3:=Bk.ay k3 hb;replace fa:=fa.trans (.aS k.gp bm hb);clear hb c0 jI NC bn yU lp6;have q4:=k2.cell 4;have f4:=k2.free 4;have l4:=k2.lt;simp at q4
  go_upto_region 4 with fail
  clear q4 f4 l4;have qt:=HG.out.cell k2 zD 4 (.slice G g'.length c);replace k2:Bk (w7.setCell ⟨b2,4,none⟩ (.slice G g'.length c)) b2 70 (br val is 0 aH (.slice G g'.length c)):=k2.stored 4 (.slice G g'.length c);replace k1:=k1.other (p:=⟨b2,4,none⟩) (by dsimp only;omega) (.slice G g'.length c)
  replace k3:=k3.other (p:=⟨b2,4,none⟩) (by dsimp only;omega) (.slice G g'.length c)
  replace fa:=fa.cell (p:=⟨b2,4,none⟩) (.inl (by rw [HW.out];dsimp only;omega)) (.slice G g'.length c)
  clear HG kp k0;obtain ⟨gv2,hgv2⟩:∃ v,v=Value.slice G g'.length c:=⟨_,rfl⟩;generalize w7.setCell ⟨b2,4,none⟩ (.slice G g'.length c)=Co at *;refine wp_region_held_drew (S:=fun w'=>Bk w' b2 70 (br val is 0 aH (.slice G g'.length c))) zK k2.drew (fun uu=>?_)
  clear uu;replace k1:=k1.drew;replace k2:=k2.drew;replace k3:=k3.drew;replace fa:=fa.drew;replace qt:bN Co.drew (.slice G g'.length c) g':=qt;generalize Co.drew=w17 at *;have lJ:∀ (d:Nat),d≠4/\d≠5/\d≠6->∀ (v:Value) {R:lb->World->Prop} {K:Act->World->Prop} {c:List PanicEntry} {a:Act} {w:World},Exit.then K (bodyPostD aw Tryz.f86 R) (Exit.panic c) (a.put (some d) v) w->Exit.then K (bodyPostD aw Tryz.f86 R) (Exit.panic c) a w:=fun d hd v _ _ _ _ _ h=>uj (p:=4) (q:=5) (t:=6) (t1:=67) (t2:=70) (t3:=4) Tryz.results86 hd h
  refine wpAnyH_take (i:=0) (oi:=_) (v:=.agg bW) rfl zK zK zK (fun _ _ _ h=>lJ 16 zO _ h) (jL ⟨by rfl,?_⟩) k2 ?_
  ·intro w' hSw
   (try simp only [aq,an])
   go_simp
  (try simp only [aq,an,Act.put,aj,ak,al])
  refine wpAnyH_take (i:=1) (oi:=_) (v:=.agg (br val is 0 aH (.slice G g'.length c))) rfl zK zK zK (fun _ _ _ h=>lJ 17 zO _ h) (jL ⟨by rfl,?_⟩) k2 ?_
  ·intro w' hSw
   (try simp only [aq,ao,an])
   simp only [Av,Instr.loadAt,xG,di,dx];rw [show (Act.eval _ (Operand.tmp 5))=Value.pointer (some ⟨b2,0,none⟩) from rfl]
   simp only [dx,bQ,be w' b2 70 70 (br val is 0 aH (.slice G g'.length c)) (0,0) _ hSw aI rfl zK]
  (try simp only [aq,ao,an,Act.put,aj,ak,al])
  refine qw (rs:=[2]) zK zS ?_;refine AllReadyH.cons (o:=_) rfl (fun K hK=>?_) AllReadyH.nil
  rw [if_pos (by rfl)]
  refine dH 67 (.tmp 4) (.tmp 16) rfl b1 bW rfl rfl 67 bW k1 zK rfl (by simp [aD]) ?_
  replace qt:=qt.row k1 zD bW;replace k2:=k2.a7 (b:=b1) zO bW;replace k3:=k3.a7 (b:=b1) zO bW;replace k1:=k1.bL bW;replace fa:=fa.row (b:=b1) (.inl (by rw [HW.out];omega)) bW
  refine hK.out _ _ k2 (fun ru=>?_)
  clear ru hK K
  (try simp only [aq,ao,an,Act.put])
  generalize w17.setRow b1 bW=Mi at *;refine qw (rs:=[3]) zK zS ?_;refine AllReadyH.cons (o:=_) rfl (fun K hK=>?_) AllReadyH.nil
  rw [if_pos (by rfl)]
  refine dH 70 (.tmp 5) (.tmp 17) rfl b2 (br val is 0 aH (.slice G g'.length c)) rfl rfl 70 (br val is 0 aH (.slice G g'.length c)) k2 zK rfl (by simp [aD]) ?_
  replace qt:=qt.row k2 zD (br val is 0 aH (.slice G g'.length c));replace k1:=k1.a7 (b:=b2) zO (br val is 0 aH (.slice G g'.length c));replace k3:=k3.a7 (b:=b2) zO (br val is 0 aH (.slice G g'.length c));replace k2:=k2.bL (br val is 0 aH (.slice G g'.length c));replace fa:=fa.row (b:=b2) (.inl (by rw [HW.out];omega)) (br val is 0 aH (.slice G g'.length c))
  refine hK.out _ _ k2 (fun ru=>?_)
  clear ru hK K
  (try simp only [aq,ao,an,Act.put])
  generalize Mi.setRow b2 (br val is 0 aH (.slice G g'.length c))=JM at *;have q6:=k3.cell 0;have f6:=k3.free 0;have l6:=k3.lt;simp at q6;refine qw (rs:=[4]) zK zS ?_;refine AllReadyH.cons (o:=_) rfl (fun K hK=>?_) AllReadyH.nil
  (try simp only [aq,ao,an])
  go_simp;clear q6 f6 l6;replace qt:=qt.cell k3 zD 0 (ah true);replace k3:Bk (JM.setCell ⟨b3,0,none⟩ (ah true)) b3 4 #[ah true]:=k3.stored 0 (ah true);replace k1:=k1.other (p:=⟨b3,0,none⟩) (by dsimp only;omega) (ah true)
  replace k2:=k2.other (p:=⟨b3,0,none⟩) (by dsimp only;omega) (ah true)
  replace fa:=fa.cell (p:=⟨b3,0,none⟩) (.inl (by rw [HW.out];dsimp only;omega)) (ah true)
  refine hK.out _ _ k2 (fun ru=>?_)
  clear ru hK K
  (try simp only [aq,ao,an,Act.put,aj,ak,al])
  generalize JM.setCell ⟨b3,0,none⟩ (ah true)=w20 at *;refine wpAnyH_done zK ?_ _
  go_wp2
  refine leaves_cons (f:=119) (args:=#[ptr b1,ptr b0,ptr b2,ptr b3]) zS (by simp [go_sem]) ?_
  refine (j9 b1 b0 b2 b3 _).mono ?_;rintro e u' w21 ⟨rfl,rfl,rfl⟩;refine ⟨_,iH (p:=4) (q:=5) (t:=6) (t1:=67) (t2:=70) (t3:=4) rfl _ _ b1 b2 b3 bW (br val is 0 aH (.slice G g'.length c)) (0,0) (0,0) _ _ _ rfl rfl rfl k1 k2 bU rfl zK aI rfl zK (ky _ b3 true k3),?_⟩;exact ⟨.inr ⟨val,is,aH,g',_,HP.out.1,rfl,qt⟩,fa⟩
theorem tE (w0:World) (es:Array MapEntry) (ck:Nat) (k:Int) (v:Value) (hn:Instr.findNow (.int .i64) (aa ab k) es.toList 0=some none):
  (Instr.mapUpdate 144 (.map (some w0.heap.size)) (aa ab k) v).run aw (w0.alloc (.map es ck))= .ok () (w0.alloc (.map (es.push { key:=aa ab k,val:=v,born:=ck }) (ck+1))):=by
 have hg:(getObj w0.heap.size).run aw (w0.alloc (.map es ck))= .ok (.map es ck) (w0.alloc (.map es ck)):=by
  have h:=heap_alloc_new w0 (.map es ck);simp only [getObj,Sem.run];rw [h]
 have hs:∀ o',(setObj w0.heap.size o').run aw (w0.alloc (.map es ck))= .ok () (w0.alloc o'):=fun o'=>by
  have h:=heap_alloc_new w0 (.map es ck);simp only [setObj,Sem.run];rw [h];have e:(w0.alloc (.map es ck)).heap.setIfInBounds w0.heap.size o'=(w0.alloc o').heap:=by
   apply Array.ext_getElem?;intro i
   by_cases hi:w0.heap.size=i
   ·subst hi;rw [heap_alloc_new,bV zS]
   ·rw [Array.getElem?_setIfInBounds_ne hi]
    by_cases h2:i < w0.heap.size
    ·rw [heap_alloc_old (h:=h2),heap_alloc_old (h:=h2)]
    ·rw [Array.getElem?_eq_none zP,Array.getElem?_eq_none zP]
  show Result.ok () (⟨(w0.alloc (.map es ck)).heap.setIfInBounds w0.heap.size o',_,_,_,_⟩:World)=_;rw [e];rfl
 have hck:(Instr.checkKey false 10000 3 (aa ab k)).run aw (w0.alloc (.map es ck))= .ok () (w0.alloc (.map es ck)):=by
  show (Instr.checkKey false (9999+1) 3 (aa ab k)).run aw _=_;unfold Instr.checkKey;simp only [di,run_underlying Tryz.underlying3,bQ,dx]
 have hf:(Instr.findKey 3 (aa ab k) es.toList).run aw (w0.alloc (.map es ck))= .ok none (w0.alloc (.map es ck)):=by
  unfold Instr.findKey;simp only [di,run_underlying Tryz.underlying3,bQ,hn,dx]
 unfold Instr.mapUpdate;simp only [di,run_underlying Tryz.underlying144,bQ,hg,hck,hf,hs]
theorem MF (w:World) (r:Nat) (es:Array MapEntry) (ck:Nat) (k:Int) (res:Option (Nat × Value)) (hr:w.heap[r]? =some (.map es ck)) (hn:Instr.findNow (.int .i64) (aa ab k) es.toList 0=some res):
  (Instr.lookup 144 (.map (some r)) (aa ab k) true).run aw w= .ok (.tuple #[(res.map (·.2)).getD .nilFunc,.bool res.isSome]) w:=by
 have hg:(getObj r).run aw w= .ok (.map es ck) w:=by
  simp only [getObj,Sem.run];rw [hr]
 have hck:∀ b,(Instr.checkKey b 10000 3 (aa ab k)).run aw w= .ok () w:=fun b=>by
  show (Instr.checkKey b (9999+1) 3 (aa ab k)).run aw _=_;unfold Instr.checkKey;simp only [di,run_underlying Tryz.underlying3,bQ,dx]
 have hf:(Instr.findKey 3 (aa ab k) es.toList).run aw w= .ok res w:=by
  unfold Instr.findKey;simp only [di,run_underlying Tryz.underlying3,bQ,hn,dx]
 have hz:(zeroValue 142).run aw w= .ok .nilFunc w:=zK;unfold Instr.lookup;simp only [di,run_underlying Tryz.underlying144,bQ,hg,hck,dx,hf]
 cases res with
 | none=>simp only [di,hz,bQ,dx];rfl
 | some x=>simp only [di,bQ,dx];rfl
abbrev ent (k:Int) (v:Value) (n:Nat):MapEntry:={ key:=aa ab k,val:=v,born:=n }
abbrev tu (e1 e3:Nat):Array MapEntry:=#[ent 1 (.func (.func 116) #[] #[]) 0,ent 2 (.func (.func 117) #[] #[ptr e1,ptr e3]) 1,ent 3 (.func (.func 118) #[] #[ptr e1,ptr e3]) 2]
def bdT:Nat->Nat | 8=>12 | _=>3
def bdP:Nat->List Nat | _=>[]
def bdR (k:Sk) (B:Nat) (i:Nat) (_:Nat->Option Value) (v:Value) (w:World):Prop:=match i with
 | 8=>v=aa ab (fP k.l 0 1)
 | 9=>∃ g3,v=ptr g3/\B<=g3/\Bk w g3 3 #[aa ab 0]
 | _=>True
theorem OG {k:Sk} {B:Nat} (i:Nat) (val dV:Nat->Option Value) (v:Value) (w1 w2:World) (_:∀ j u,val j=some u->dV j=some u) (hb:Below w1.heap.size w1 w2) (h:bdR k B i val v w1):bdR k B i dV v w2:=by
 unfold bdR at h ⊢;split
 ·exact h
 ·obtain ⟨g3,h1,h2,h3⟩:=h;exact ⟨g3,h1,h2,h3.ay hb⟩
 ·trivial
section
variable {w:World} {k:Sk} {g:cG} {m:Nat} {log:Log} {q:An Out}
theorem Jx (h:fD w k g m log):Calls aw 84 #[ptr k.gp] w fun e w'=>∃ r e1 e3,e=ai (.map (some r))/\w.heap.size<=e1/\w.heap.size<=e3/\Bk w' e1 139 #[ptr k.gp]/\Bk w' e3 3 #[aa ab (fP k.l 0 1)]/\w'.heap[r]? =some (.map (tu e1 e3) 3)/\Below w.heap.size w w':=by
 have Dv:∀ (fn:Fn) (first cap:Array Value) (w:World),(kZ fn first cap).run aw w= .ok (.func fn first cap) w:=fun _ _ _ _=>rfl
 have mU:∀ w,(Instr.makeMap 144 none).run aw w= .ok (.map (some w.heap.size)) (w.alloc (.map #[] 0)):=fun w=>rfl
 have k1:=Bk.made w 139 #[ptr k.gp];have bz:=aB (Below.refl w.heap.size w) (ag #[ptr k.gp] 139);have dN:=h.lt;replace h:=h.ay bz;go_enter Tryz.func84,Tryz.ntmps84
 go_upto_region 1 with fail
 generalize w.alloc (ag #[ptr k.gp] 139)=w0 at *;obtain ⟨e1,Oa⟩:∃ g,w.heap.size=g:=⟨_,rfl⟩;have HW:=ar Oa;rw [Oa] at k1 dN ⊢;clear Oa;refine aP (S:=fun w'=>JD k w'/\Bk w' e1 139 #[ptr k.gp]) (E:=fun _=>false) zK ?_
 have ey:=aU (Below.refl w0.heap.size w0);replace h:=h.ay ey;replace k1:=k1.drew;replace bz:=bz.drew;clear ey;generalize w0.drew=w1 at *;refine wTk 7 [(0,4,ptr k.gp),(1,5,ptr k.gp),(2,6,ptr k.gp),(4,8,ptr k.gp),(5,9,ptr k.gp),(6,10,ae (some ⟨k.gp,27,none⟩)),(7,11,aa ab 0)] ?_ ⟨h.hd,k1⟩ ?_
 ·intro w' hS;have zy:=hS.1.2;have c1:=hS.2.cell 0;simp at zy c1
  (repeat' (first | exact aC | refine au ⟨_,rfl,.inl ⟨rfl,?_⟩⟩ ?_))
  all_goals exact zG
 simp only [aR,Act.put,aj,ak,al];refine wTk 1 [(3,7,lyV k.l)] ?_ ⟨h.hd,k1⟩ ?_
 ·intro w' hS;have fg:=hS.1.lay
  (repeat' (first | exact aC | refine au ⟨_,rfl,.inl ⟨rfl,?_⟩⟩ ?_))
  all_goals exact list.bI rfl rfl fg
 simp only [aR,Act.put,aj,ak,al];refine gF (U:=[8,9]) (tmp:=bdT) (pre:=bdP) (R:=bdR k w1.heap.size) zK (fun _ _=>rfl) (fun w2 hb=>⟨(h.ay hb).hd,k1.ay hb⟩) OG (fun i hi=>?_) 1 (fun val w2 bS cY=>?_)
 ·simp only [bD,cB,or_false] at hi;rcases hi with rfl | rfl
  ·refine ⟨_,rfl,fun val w3 K jg cd hK=>?_⟩
   simp only [bdP,bq] at hK ⊢;go_simp
   (with_reducible refine (rW k.l 0 1 w3 h.f).mono ?_)
   rintro e w4 ⟨rfl,jR⟩;exact hK _ _ rfl jR
  ·refine ⟨_,rfl,fun val w3 K jg cd hK=>?_⟩
   simp only [bdP,bq] at hK ⊢;go_simp;exact hK _ _ ⟨_,rfl,jg.size,Bk.made _ _ _⟩ (aB (Below.refl _ _) _)
 obtain ⟨v8,e8,rfl⟩:=bS 8 zS;obtain ⟨v9,e9,g3,rfl,hg3,k3⟩:=bS 9 zS;simp only [bdT,bq,dC,e8,e9,gQ,if_true];clear bS e8 e9
 (try simp only [Act.put,aj,ak,al])
 have hw1:w.heap.size<=w1.heap.size:=bz.size;have h13:e1 < w1.heap.size:=k1.lt;replace h:=h.ay cY;replace k1:=k1.ay cY;replace bz:=aF bz cY;clear cY;have c3:=k3.cell 0;have f3:=k3.free 0;have l3:=k3.lt;simp at c3;refine aE (i:=10) (o:=_) zK rfl (fun KK hK=>?_)
 (try simp only [aq,ao,an])
 go_simp;clear c3 f3 l3;replace h:=h.rB k3 (by have:=h.bp;omega) zD 0 (aa ab (fP k.l 0 1))
 replace k1:=k1.other (p:=⟨g3,0,none⟩) (by dsimp only;omega) (aa ab (fP k.l 0 1))
 replace bz:=bK bz (p:=⟨g3,0,none⟩) (by dsimp only;omega) (aa ab (fP k.l 0 1))
 replace k3:Bk (w2.setCell ⟨g3,0,none⟩ (aa ab (fP k.l 0 1))) g3 3 #[aa ab (fP k.l 0 1)]:=k3.stored 0 _;generalize w2.setCell ⟨g3,0,none⟩ (aa ab (fP k.l 0 1))=w3 at *;refine hK.out _ _ (fun _=>⟨h.hd,k1⟩) ?_
 clear hK KK
 (try simp only [Act.put,aj,ak,al])
 refine aN zK ?_ _;have i1:=tE w3 #[] 0 1 (.func (.func 116) #[] #[]) rfl;have i2:=tE w3 #[ent 1 (.func (.func 116) #[] #[]) 0] 1 2 (.func (.func 117) #[] #[ptr e1,ptr g3]) rfl;have i3:=tE w3 #[ent 1 (.func (.func 116) #[] #[]) 0,ent 2 (.func (.func 117) #[] #[ptr e1,ptr g3]) 1] 2 3 (.func (.func 118) #[] #[ptr e1,ptr g3]) rfl;simp only [List.push_toArray,List.nil_append,List.cons_append] at i1 i2 i3;have hr:(w3.alloc (.map (tu e1 g3) 3)).heap[w3.heap.size]? =some (.map (tu e1 g3) 3):=heap_alloc_new w3 _;have HP:=ar (au (k1.alloc (.map (tu e1 g3) 3)) (au (k3.alloc (.map (tu e1 g3) 3)) (au hr (au (aB bz (.map (tu e1 g3) 3)) (show w.heap.size<=e1/\w.heap.size<=g3 from ⟨by rw [HW.out];exact az _,zO⟩)))))
 clear k1 k3 hr bz h hw1 h13 hg3 dN
 go_wp2
 go_ret
 obtain ⟨p1,p2,p3,p4,p5,p6⟩:=HP.out;exact ⟨w3.heap.size,e1,g3,rfl,p5,p6,p1,p2,p3,p4⟩
end
end Go.Proofs.YtikdaeddbkopeaaGreatR.split
