/- A part of the proof. -/
import Derived.OwnWalk
import Derived.Great.BuildSlice
import Derived.Deep.AppendLies
import Derived.Defers
import Derived.Recover
import Derived.Laws.EntriesVeiled
import Derived.Test.YtikdaeddbkopeaaGreatRV2
import Derived.Test.YtikdaeddbkopeaaGreatRV1
set_option linter.unusedVariables false
set_option linter.unusedSimpArgs false
set_option maxRecDepth 100000
set_option maxHeartbeats 16000000
open And renaming intro → au
open Array renaming getElem?_eq_some_iff → bE
open Go renaming execOp → Av, setRow_heap → Cm, Program → Cn, wp_at_zero → aV, wp_at_succ → aW, bodyPost_ret → aX, TypeId → bR, run_loadVar_row → be, wpList_append_own_at → cM, results_cell_row → cb, wp_store_row → dH, rounds_succ → dI, results_none → dY, loadVar → dr, Ending → lb, maxLen → nu, results → qx, info_parts → xE
open Go.Ending renaming returned → ai
open Go.Instr renaming sureAddr → xG
open Go.IntKind renaming i64 → ab
open Go.IntWalk renaming i64_in → cV
open Go.Lib renaming hid → ar
open Go.Obj renaming cells → ag
open Go.Proofs.Tryz renaming underlying34 → aJ, prog → aw
open Go.Result renaming andThen_ok → bQ
open Go.RowKit.Below renaming heap_setCell → pM
open Go.Sem renaming run_bind → di, run_pure → dx
open Go.Value renaming oneCell' → aD, int → sj, bool → ah, int → aa, pointer → ae, slice → af
open Go.WideShapes renaming add_plain → fV
open Go.World renaming ownsRow_nil → cZ
open List renaming getElem?_eq_some_iff → a8, setIfInBounds_toArray → aj, set_cons_zero → ak, set_cons_succ → al, getElem_cons_zero → an, getElem_cons_succ → ao, getElem_toArray → aq, mem_cons → bD, mem_of_getElem? → bX, not_mem_nil → cB, length_append → cJ
open Nat renaming le_trans → aQ, le_refl → az, lt_of_lt_of_le → bg, zero_add → eE, le_add_left → fu
open True renaming intro → aC
namespace Go.Proofs.YtikdaeddbkopeaaGreatR
open Go.RowKit
attribute [local go_sem ↓] aV aW
def vN (w:World) (B:Nat) (A:Option Addr) (l:cG):Prop:=
 0 < l.length->∃ b o cs,A=some ⟨b,o,none⟩/\b < B/\Bk w b 52 cs/\∀ k r,l[k]? =some r->w.cell? ⟨b,o+k * 2,none⟩=some (aa ab r.1)/\w.cell? ⟨b,o+k * 2+1,none⟩=some (aa ab r.2)
theorem vN.below {w w':World} {B:Nat} {A:Option Addr} {l:cG} (h:vN w B A l) (hb:Below B w w'):vN w' B A l:=by
 intro hl;obtain ⟨b,o,cs,e,ey,hk,hc⟩:=h hl;refine ⟨b,o,cs,e,ey,(hb.block b ey).trans hk,fun k a ha=>?_⟩
 obtain ⟨h1,h2⟩:=hc k a ha;exact ⟨(hb.cell (p:=⟨b,_,none⟩) ey).trans h1,(hb.cell (p:=⟨b,_,none⟩) ey).trans h2⟩
def Ky (G:Option Addr) (n c:Nat):Prop:=G=none->n=0/\c=0
def cN (l:cG):List Value:=l.flatMap fun r=>[aa ab r.1,aa ab r.2]
def iq (w:World) (base:Nat) (v:Value) (l:cG):Prop:=w.ownsRow base 52 2 v l.length (cN l)
theorem pa:(Tryz.prog.info? 52).map (fun i=>(i.zero,i.size,i.bytes))=some (some (.agg #[aa ab 0,aa ab 0]),2,16):=zK
theorem AK:∃ i,rI aw 44 52 i (.agg #[aa ab 0,aa ab 0]) 2 16:=rI.of Tryz.underlying44 pa zK zD
theorem sT (l:cG):∀ (k:Nat) (r:Int × Int),l[k]? =some r->(cN l)[k * 2]? =some (aa ab r.1)/\(cN l)[k * 2+1]? =some (aa ab r.2):=by
 induction l with
 | nil=>intro k r h;simp at h
 | cons a l ih=>
  intro k r h;have e:cN (a :: l)=[aa ab a.1,aa ab a.2]++cN l:=rfl
  cases k with
  | zero=>simp at h;subst h;simp [e]
  | succ k=>
   obtain ⟨h1,h2⟩:=ih k r (by simpa using h)
   rw [e,show (k+1) * 2=2+k * 2 by omega]
   refine ⟨?_,?_⟩
   ·rw [List.getElem?_append_right zS];simpa using h1
   ·rw [show 2+k * 2+1=2+(k * 2+1) by omega,List.getElem?_append_right zS];simpa using h2
theorem Bv (l:cG):∀ (j:Nat) (u:Value),(cN l)[j]? =some u->∃ (k:Nat) (r:Int × Int),l[k]? =some r/\((j=k * 2/\u=aa ab r.1)\/(j=k * 2+1/\u=aa ab r.2)):=by
 induction l with
 | nil=>intro j u h;simp [cN] at h
 | cons a l ih=>
  intro j u h;have e:cN (a :: l)=aa ab a.1 :: aa ab a.2 :: cN l:=rfl;rw [e] at h
  match j,h with
  | 0,h=>exact ⟨0,a,rfl,.inl ⟨rfl,by simpa using h.symm⟩⟩
  | 1,h=>exact ⟨0,a,rfl,.inr ⟨rfl,by simpa using h.symm⟩⟩
  | j+2,h=>
   obtain ⟨k,r,h1,h2⟩:=ih j u (by simpa using h)
   refine ⟨k+1,r,by simpa using h1,?_⟩
   rcases h2 with ⟨h2,h3⟩ | ⟨h2,h3⟩
   ·exact .inl ⟨zO,h3⟩
   ·exact .inr ⟨zO,h3⟩
theorem sS (l:cG):(cN l).length=2 * l.length:=by
 induction l with
 | nil=>rfl
 | cons a l ih=>show ([sj .i64 a.1,aa ab a.2]++cN l).length=_;rw [cJ,ih];simp;omega
theorem Aa (l:cG):∀ v∈cN l,v.oneCell'=true:=by
 intro v hv;simp only [cN,List.mem_flatMap] at hv;obtain ⟨r,_,hr⟩:=hv;simp at hr;rcases hr with rfl | rfl <;> rfl
theorem ju (l:cG) (r:Int × Int):cN (l++[r])=cN l++[aa ab r.1,aa ab r.2]:=by simp [cN]
theorem nK {w:World} {base cap n:Nat} {G:Option Addr} {log:cG} (h:iq w base (.slice G n cap) log) (hn:n=log.length):vN w w.heap.size G log:=by
 subst hn;intro hl;obtain ⟨hl1,hs⟩:=Src.own h (az w.heap.size);rcases hs with ⟨_,h0,_⟩ | ⟨g,of,rfl,hg,hc⟩
 ·omega
 ·rcases h.2 with ⟨h1,h2⟩ | ⟨g',Jv,cur,h1,_,Dz,_⟩
  ·cases h1
  have hgg:g=g':=by injection h1 with h1 _ _;injection h1 with h1;injection h1
  subst hgg;refine ⟨g,of,cur,rfl,hg,Dz,fun k r hk=>?_⟩
  obtain ⟨h1,h2⟩:=sT log k r hk;have q1:=hc _ _ h1;have q2:=hc _ _ h2
  first
   | exact ⟨q1,q2⟩
   | (rw [fV] at q1 q2;exact ⟨q1,q2⟩)
theorem Bw {w:World} {base cap n gp:Nat} {G:Option Addr} {log:cG} (h:iq w base (.slice G n cap) log) (hn:n=log.length) (hb:gp < base):GnV w gp (.slice G n cap) log:=by
 refine ⟨G,n,cap,rfl,hn,fun hG=>?_,fun hl=>?_⟩
 ·rcases h.2 with ⟨h1,h2⟩ | ⟨g',Jv,cur,h1,_⟩
  ·injection h1 with _ h1 h3;exact ⟨zO,h3⟩
  ·subst hG;cases h1
 ·obtain ⟨b,o,cs,e,dN,Dz,hc⟩:=nK h hn hl;refine ⟨b,o,cs,e,Dz,?_,hc⟩;rcases h.2 with ⟨h1,h2⟩ | ⟨g',Jv,cur,h1,h2,_⟩
  ·rw [e] at h1;cases h1
  ·rw [e] at h1;injection h1 with h1 _ _
   injection h1 with h1
   injection h1 with h1 _
   omega
def KB (g:cG) (w:World) (e:lb) (w':World):Prop:=∃ G n c,e=ai (.slice G n c)/\n=g.length/\Ky G n c/\iq w' w.heap.size (.slice G n c) g/\Below w.heap.size w w'
theorem Jt (A:Option Addr) (n c:Nat) (g:cG) (w:World) (hn:n=g.length) (hA:Ky A n c) (h:vN w w.heap.size A g) (hm:g.length<=1000):
  Calls aw 46 #[.slice A n c] w (KB g w):=by
 subst hn;obtain ⟨i0,pP,jG,mw,mI⟩:=xE pa
 cases A with
 | none=>
  obtain ⟨h0,rfl⟩:=hA rfl;have hg:g=[]:=List.eq_nil_of_length_eq_zero h0;subst hg;have hq0:=fun (W:World)=>Lib.run_eql_slice_nil (P:=aw) W 44 52 none 0 0 0 0 Tryz.underlying44
  go_enter Tryz.func46,Tryz.ntmps46
  go_wp2
  go_ret
  exact ⟨none,0,0,rfl,rfl,fun _=>⟨rfl,rfl⟩,cZ _ _ _ _,Below.refl _ _⟩
 | some ad=>
  have hq:=fun (W:World)=>Lib.run_eql_slice_nil (P:=aw) W 44 52 (some ad) g.length c 0 0 Tryz.underlying44
  have NY:(w.alloc (ag #[] 52)).ownsRow w.heap.size 52 2 (af (some ⟨w.heap.size,0,none⟩) 0 0) 0 []:=
   ⟨rfl,.inr ⟨w.heap.size,0,#[],rfl,az _,Bk.made w 52 #[],az _,by simp [nu],rfl,rfl⟩⟩
  have lg:=h.below (aB (Below.refl w.heap.size w) (ag #[] 52));have N1:∀ j u,(cN g)[j]? =some u->(w.alloc (ag #[] 52)).cell? (ad.add j)=some u:=by
   intro j u hu;have hj:=(a8.1 hu).1;rw [sS] at hj;obtain ⟨b,o,cs,he,hb,-,hc⟩:=lg zO;injection he with he
   subst he;rw [fV];obtain ⟨k,r,h1,h2⟩:=Bv g j u hu;rcases h2 with ⟨rfl,rfl⟩ | ⟨rfl,rfl⟩
   ·exact (hc k r h1).1
   ·exact (hc k r h1).2
  go_enter Tryz.func46,Tryz.ntmps46
  go_wp2_with (at_builtin;refine cM _ rfl (.tmp 5) (.tmp 6) _ rfl w.heap.size 52 i0 _ 2 16 Tryz.underlying44 pP jG mw mI rfl zO (af (some ⟨w.heap.size,0,none⟩) 0 0) 0 [] rfl NY ad g.length c (cN g) rfl (by rw [sS];omega) N1 (Aa g) (by simp only [nu];omega) zO (by simp [];try omega) ?_;intro v' w' bn de _ xO)
  go_ret
  rw [eE] at bn;have hv:∃ G c',v'= .slice G g.length c'/\Ky G g.length c':=by
   rcases bn.2 with ⟨h1,h2⟩ | ⟨g',cap,cur,h1,_⟩
   ·exact ⟨none,0,by rw [h1,h2],fun _=>⟨h2,rfl⟩⟩
   ·exact ⟨_,_,h1,fun h=>by cases h⟩
  obtain ⟨G,c',rfl,sM⟩:=hv;refine ⟨G,g.length,c',rfl,rfl,sM,by simpa [iq] using bn,(aB (Below.refl _ _) _).grown de zS ?_⟩
  intro k hk;simp [Value.ownBlock] at hk;omega
theorem GnV.clone {w:World} {gp:Nat} {v:Value} {g:cG} (h:GnV w gp v g) (hm:g.length<=1000):Calls aw 46 #[v] w (KB g w):=by
 obtain ⟨G,n,c,rfl,hn,hG,hc⟩:=h;exact Jt G n c g w hn hG (fun hl=>by obtain ⟨b,o,cs,e,h1,_,h2⟩:=hc hl;exact ⟨b,o,cs,e,h1.lt,h1,h2⟩) hm
end Go.Proofs.YtikdaeddbkopeaaGreatR
namespace Go.Proofs.YtikdaeddbkopeaaGreatR
open Go.RowKit
abbrev bj (k c o v:Int):Array Value:=#[aa ab k,aa ab c,aa ab o,aa ab v]
abbrev bW:Array Value:=bj 0 0 0 0
abbrev br (val:Int) (is:Bool) (err aH:Int) (g:Value):Array Value:=#[aa ab val,.bool is,aa ab err,aa ab aH,g]
abbrev bu (val:Int) (is:Bool) (err aH:Int):Array Value:=br val is err aH (af none 0 0)
abbrev aZ:Array Value:=bu 0 false 0 0
theorem iH {P:Cn} {fn:Func} {p q t:Tmp} {t1 t2 t3:bR} (h:fn.results=#[.cell p t1,.cell q t2,.cell t t3]) (tmps:Array Value) (w:World) (g1 g2 g3:Nat) (xS DL:Array Value) (Kg fr2:Nat × Nat) (d1 d2:TypeDesc) (v:Value)
  (hp:tmps.getD p undef=ae (some ⟨g1,0,none⟩)) (hq:tmps.getD q undef=ae (some ⟨g2,0,none⟩)) (hv:tmps.getD t undef=ae (some ⟨g3,0,none⟩)) (k1:w.heap[g1]? =some (ag xS t1 Kg)) (k2:w.heap[g2]? =some (ag DL t2 fr2))
  (Eh:P.underlying t1=some d1) (oV:(match d1 with | .struct _ | .array _ _=>true | _=>false)=true) (vu:(P.info? t1).map (·.size)=some xS.size)
  (xN:P.underlying t2=some d2) (hd2:(match d2 with | .struct _ | .array _ _=>true | _=>false)=true) (hi2:(P.info? t2).map (·.size)=some DL.size) (hl:(dr t3 ⟨g3,0,none⟩).run P w= .ok v w):
  (qx fn tmps).run P w= .ok (.tuple #[.agg xS,.agg DL,v]) w:=by
 have uK:tmps[p]?.getD undef=ae (some ⟨g1,0,none⟩):=by simpa using hp
 have Dr:tmps[q]?.getD undef=ae (some ⟨g2,0,none⟩):=by simpa using hq
 have hv':tmps[t]?.getD undef=ae (some ⟨g3,0,none⟩):=by simpa using hv
 simp [qx,h,uK,Dr,hv',asAddr,be w g1 t1 t1 xS Kg d1 k1 Eh oV vu,be w g2 t2 t2 DL fr2 d2 k2 xN hd2 hi2,hl]
theorem ky (w:World) (g:Nat) (b:Bool) (k:Bk w g 4 #[.bool b]):(dr 4 ⟨g,0,none⟩).run aw w= .ok (.bool b) w:=by
 have c:=k.cell 0;simp at c;simp [go_sem,c]
theorem BD {P:Cn} {fn:Func} {t t':Array Value} {R:lb->World->Prop} (h:qx fn t=qx fn t'):∀ (ds:List Deferred) (u:FrameMode) (w:World),Leaves P fn t R ds u w->Leaves P fn t' R ds u w:=by
 intro ds
 induction ds with
 | nil=>
  intro u w hl
  cases u with
  | returning=>
   obtain ⟨v,h1,h2⟩:=hl;exact ⟨v,by rw [<- h];exact h1,h2⟩
  | panicking c=>exact hl
  | run=>exact hl.elim
 | cons d ds ih=>
  intro u w hl;obtain ⟨hu,fv,cap,f,args,h1,h2,h3⟩:=hl;refine ⟨hu,fv,cap,f,args,h1,h2,h3.mono (fun e u' w' hq=>?_)⟩
  cases e with
  | returned v=>exact ih _ _ hq
  | panicked c=>exact ih _ _ hq
  | outgrown=>exact hq
theorem uj {fn:Func} {p q t:Tmp} {t1 t2 t3:bR} (hr:fn.results=#[.cell p t1,.cell q t2,.cell t t3]) {R:lb->World->Prop} {K:Act->World->Prop} {c:List PanicEntry} {a:Act} {w:World} {d:Nat} {v:Value} (hd:d≠p/\d≠q/\d≠t) (h:Exit.then K (bodyPostD aw fn R) (Exit.panic c) (a.put (some d) v) w):Exit.then K (bodyPostD aw fn R) (Exit.panic c) a w:=by
 have Aj:qx fn (a.put (some d) v).tmps=qx fn a.tmps:=by
  simp [qx,hr,Act.put,Array.getElem?_setIfInBounds,hd.1,hd.2.1,hd.2.2]
 exact BD Aj _ _ _ h
def bN (w:World) (v:Value) (g:cG):Prop:=∃ G c,v= .slice G g.length c/\Ky G g.length c/\vN w w.heap.size G g
theorem bN.ay {w w':World} {v:Value} {g:cG} (h:bN w v g) (hb:Below w.heap.size w w'):bN w' v g:=by
 obtain ⟨G,c,h1,h2,h3⟩:=h;refine ⟨G,c,h1,h2,?_⟩;intro hl;obtain ⟨b,o,cs,e,ey,hk,hc⟩:=h3.below hb hl;exact ⟨b,o,cs,e,bg ey hb.size,hk,hc⟩
theorem bN.gnV {w:World} {v:Value} {g:cG} (h:bN w v g) {gp:Nat} (hp:w.heap.size<=gp):GnV w gp v g:=by
 obtain ⟨G,c,h1,h2,h3⟩:=h;refine ⟨G,_,c,h1,rfl,h2,fun hl=>?_⟩
 obtain ⟨b,o,cs,e,ey,hk,hc⟩:=h3 hl;exact ⟨b,o,cs,e,hk,zO,hc⟩
theorem mN (w:World) (g b o:Nat) (cs:Array Value) (hn:b≠g):(w.setRow g cs).cell? ⟨b,o,none⟩=w.cell? ⟨b,o,none⟩:=by
 unfold World.cell?;rw [setRow_other w g b cs hn]
section
variable {w w':World} {g b gp:Nat} {t u:bR} {cs cs':Array Value}
theorem Bk.a7 (h:Bk w g t cs) (hn:g≠b) (r:Array Value):Bk (w.setRow b r) g t cs:=(setRow_other w b g r hn).trans h
theorem Bk.bL (h:Bk w g t cs) (r:Array Value):Bk (w.setRow g r) g t r:=Cm w g cs r t (0,0) h
theorem Bk.typ (h:Bk w g t cs) (h':Bk w b u cs') (hn:t≠u):g≠b:=by
 rintro rfl;have:=h.symm.trans h';simp at this;exact hn this.2
theorem Stp.row {w0:World} (h:Stp gp w0 w) (hb:w0.heap.size<=b\/b=gp) (r:Array Value):Stp gp w0 (w.setRow b r):=
 ⟨h.os,h.tape,h.output,by have:=h.size;simpa [World.setRow] using this,fun x hx hn=>(setRow_other w b x r zO).trans (h.block x hx hn)⟩
theorem Stp.cell {w0:World} (h:Stp gp w0 w) {p:Addr} (hb:w0.heap.size<=p.block\/p.block=gp) (v:Value):Stp gp w0 (w.setCell p v):=
 ⟨h.os,h.tape,h.output,by have:=h.size;simpa using this,fun x hx hn=>(pM w p v x zO).trans (h.block x hx hn)⟩
theorem jV (w:World) (p:Addr) (b o:Nat) (v:Value) (hn:b≠p.block):(w.setCell p v).cell? ⟨b,o,none⟩=w.cell? ⟨b,o,none⟩:=by
 unfold World.cell?;rw [pM w p v b hn]
theorem GnV.row {v:Value} {l:cG} (h:GnV w gp v l) (hb:Bk w b t cs) (ht:52≠t) (r:Array Value):GnV (w.setRow b r) gp v l:=by
 obtain ⟨G,n,c,q1,q2,q3,q4⟩:=h;refine ⟨G,n,c,q1,q2,q3,fun hl=>?_⟩
 obtain ⟨x,o,ds,r1,r2,r3,r4⟩:=q4 hl;have hn:x≠b:=r2.typ hb ht;exact ⟨x,o,ds,r1,r2.a7 hn r,r3,fun j y hy=>⟨(mN w b x _ _ hn).trans (r4 j y hy).1,(mN w b x _ _ hn).trans (r4 j y hy).2⟩⟩
theorem bN.row {v:Value} {l:cG} (h:bN w v l) (hb:Bk w b t cs) (ht:52≠t) (r:Array Value):bN (w.setRow b r) v l:=by
 obtain ⟨G,c,q1,q2,q4⟩:=h;refine ⟨G,c,q1,q2,fun hl=>?_⟩
 obtain ⟨x,o,ds,r1,r2,r3,r4⟩:=q4 hl;have hn:x≠b:=r3.typ hb ht;exact ⟨x,o,ds,r1,by simpa [World.setRow] using r2,r3.a7 hn r,fun j y hy=>⟨(mN w b x _ _ hn).trans (r4 j y hy).1,(mN w b x _ _ hn).trans (r4 j y hy).2⟩⟩
theorem bN.cell {v:Value} {l:cG} (h:bN w v l) (hb:Bk w b t cs) (ht:52≠t) (i:Nat) (u:Value):bN (w.setCell ⟨b,i,none⟩ u) v l:=by
 obtain ⟨G,c,q1,q2,q4⟩:=h;refine ⟨G,c,q1,q2,fun hl=>?_⟩
 obtain ⟨x,o,ds,r1,r2,r3,r4⟩:=q4 hl;have hn:x≠b:=r3.typ hb ht;exact ⟨x,o,ds,r1,by simpa using r2,r3.other (p:=⟨b,i,none⟩) hn u,fun j y hy=>⟨(jV w ⟨b,i,none⟩ x _ _ hn).trans (r4 j y hy).1,(jV w ⟨b,i,none⟩ x _ _ hn).trans (r4 j y hy).2⟩⟩
end
structure cL (gm b2:Nat) (w w':World):Prop where
 os:w'.os=w.os
 tape:w'.tape=w.tape
 output:w'.output=w.output
 size:w.heap.size<=w'.heap.size
 block:∀ b,b < w.heap.size->b≠gm->b≠b2->w'.heap[b]? =w.heap[b]?
section
variable {gm b2:Nat} {w w' w2:World}
theorem Stp.two (h:Stp gm w w'):cL gm b2 w w':=⟨h.os,h.tape,h.output,h.size,fun b h1 h2 _=>h.block b h1 h2⟩
theorem cL.one (h:cL gm gm w w'):Stp gm w w':=⟨h.os,h.tape,h.output,h.size,fun b h1 h2=>h.block b h1 h2 h2⟩
theorem cL.refl (gm b2:Nat) (w:World):cL gm b2 w w:=(Stp.refl gm w).two
theorem cL.trans (h:cL gm b2 w w') (k:cL gm b2 w' w2):cL gm b2 w w2:=
 ⟨k.os.trans h.os,k.tape.trans h.tape,k.output.trans h.output,aQ h.size k.size,fun b hb h1 h2=>(k.block b (bg hb h.size) h1 h2).trans (h.block b hb h1 h2)⟩
theorem cL.aS (gm b2:Nat) (h:Below w.heap.size w w'):cL gm b2 w w':=(Stp.aS gm h).two
theorem cL.ay (h:cL gm b2 w w') {g:Nat} {t:bR} {cs:Array Value} (k:Bk w g t cs) (h1:g≠gm) (h2:g≠b2):Bk w' g t cs:=(h.block g k.lt h1 h2).trans k
theorem cL.drew (h:cL gm b2 w w'):cL gm b2 w w'.drew:=⟨h.os,h.tape,h.output,h.size,h.block⟩
theorem cL.alloc (h:cL gm b2 w w') (o:Obj):cL gm b2 w (w'.alloc o):=h.trans (.aS gm b2 (aB (Below.refl _ _) o))
theorem cL.row (h:cL gm b2 w w') {b:Nat} (hb:w.heap.size<=b\/b=gm\/b=b2) (r:Array Value):cL gm b2 w (w'.setRow b r):=
 ⟨h.os,h.tape,h.output,by have:=h.size;simpa [World.setRow] using this,fun x hx h1 h2=>(setRow_other w' b x r zO).trans (h.block x hx h1 h2)⟩
theorem cL.cell (h:cL gm b2 w w') {p:Addr} (hb:w.heap.size<=p.block\/p.block=gm\/p.block=b2) (v:Value):cL gm b2 w (w'.setCell p v):=
 ⟨h.os,h.tape,h.output,by have:=h.size;simpa using this,fun x hx h1 h2=>(pM w' p v x zO).trans (h.block x hx h1 h2)⟩
theorem cL.part (h:cL gm b2 w w') {B:Nat} (hB:B<=gm) (hB2:B<=b2) (hs:B<=w.heap.size):Below B w w':=
 ⟨h.os,h.tape,h.output,h.size,fun b hb=>h.block b zO zO zO⟩
end
def Bks (w:World) (gp:Nat) (L:List (Nat × bR × Array Value)):Prop:=∀ x∈L,Bk w x.1 x.2.1 x.2.2/\x.1≠gp
section
variable {w w':World} {gp:Nat} {L:List (Nat × bR × Array Value)}
theorem Bks.stp (h:Bks w gp L) (s:Stp gp w w'):Bks w' gp L:=fun x hx=>⟨s.ay (h x hx).1 (h x hx).2,(h x hx).2⟩
theorem Bks.ay (h:Bks w gp L) (s:Below w.heap.size w w'):Bks w' gp L:=h.stp (.aS gp s)
theorem Bks.drew (h:Bks w gp L):Bks w.drew gp L:=h
theorem Bks.at_ (h:Bks w gp L) (i:Nat) {x:Nat × bR × Array Value} (hx:L[i]? =some x):Bk w x.1 x.2.1 x.2.2:=(h x (bX hx)).1
theorem Bks.nil:Bks w gp []:=fun _ h=>by cases h
theorem Bks.cons {b:Nat} {t:bR} {cs:Array Value} (k:Bk w b t cs) (hn:b≠gp) (h:Bks w gp L):Bks w gp ((b,t,cs) :: L):=by
 intro x hx;rcases bD.1 hx with rfl | hx
 ·exact ⟨k,hn⟩
 ·exact h x hx
end
theorem gT {P:Cn} {fn:Func} {p t:Tmp} {t1:bR} (h:fn.results=#[.cell p t1,.tmp t]) (tmps:Array Value) (w:World) (g1:Nat) (xS:Array Value) (Kg:Nat × Nat) (d1:TypeDesc) (v:Value)
  (hp:tmps.getD p undef=ae (some ⟨g1,0,none⟩)) (hv:tmps.getD t undef=v) (k1:w.heap[g1]? =some (ag xS t1 Kg))
  (Eh:P.underlying t1=some d1) (oV:(match d1 with | .struct _ | .array _ _=>true | _=>false)=true) (vu:(P.info? t1).map (·.size)=some xS.size):
  (qx fn tmps).run P w= .ok (.tuple #[.agg xS,v]) w:=by
 subst hv;have uK:tmps[p]?.getD undef=ae (some ⟨g1,0,none⟩):=by simpa using hp
 simp [qx,h,uK,asAddr,be w g1 t1 t1 xS Kg d1 k1 Eh oV vu]
end Go.Proofs.YtikdaeddbkopeaaGreatR
namespace Go.Proofs.YtikdaeddbkopeaaGreatR
open Go.RowKit
attribute [local go_sem ↓] aV aW
theorem rv_lt (n:Nat):∀ k,rv n k < 2 ^ n:=by
 induction n with
 | zero=>intro k;simp [rv]
 | succ n ih=>
  intro k;have h1:=ih (k / 2);have h2:k % 2 < 2:=Nat.mod_lt _ zO;have h3:k % 2 * 2 ^ n<=1 * 2 ^ n:=Nat.mul_le_mul_right _ zO;rw [rv,Nat.pow_succ];omega
theorem rv_snoc (n:Nat):∀ k,rv (n+1) k=2 * rv n k+k / 2 ^ n % 2:=by
 induction n with
 | zero=>intro k;simp [rv]
 | succ n ih=>
  intro k;rw [rv,ih,rv,Nat.div_div_eq_div_mul,<- Nat.pow_succ',Nat.pow_succ 2 n];have:k % 2 * (2 ^ n * 2)=2 * (k % 2 * 2 ^ n):=by rw [<- Nat.mul_assoc,Nat.mul_comm]
  omega
def vV (n:Int):Nat->Int
 | 0=>0
 | k+1=>bits .or .i64 (vV n k) (n / 2 ^ k % 2 * 2 ^ (15 - k))
theorem bit_of (n:Int) (k:Nat) (hk:k < 16):n / 2 ^ k % 2=(((n % 65536).toNat / 2 ^ k % 2:Nat):Int):=by
 have e:((n % 65536).toNat:Int)=n % 65536:=Int.toNat_of_nonneg zO;rw [Int.natCast_emod,Int.natCast_ediv,e]
 push_cast
 have h2:(65536:Int)=2 ^ k * (2 * 2 ^ (15 - k)):=by
  rw [<- Int.pow_succ',<- Int.pow_add,show k+(15 - k+1)=16 by omega];rfl
 have h3:n=n % 65536+2 ^ k * (2 * (2 ^ (15 - k) * (n / 65536))):=by
  have:=Int.emod_add_mul_ediv n 65536;rw [h2] at this ⊢;rw [Int.mul_assoc,Int.mul_assoc] at this;exact this.symm
 have hp:(2:Int) ^ k≠0:=Int.ne_of_gt (Int.pow_pos zO);rw [h3];generalize hX:n % 65536=X;have hm:(X+2 ^ k * (2 * (2 ^ (15 - k) * (n / 65536)))) % 65536=X:=by
  rw [<- hX,<- h3]
 rw [hm,Int.add_mul_ediv_left _ _ hp,Int.add_mul_emod_self_left]
theorem MN (n:Int) (k:Nat) (hk:k<=16):vV n k=((rv k (n % 65536).toNat * 2 ^ (16 - k):Nat):Int):=by
 induction k with
 | zero=>simp [vV,rv]
 | succ k ih=>
  have hl:=rv_lt k (n % 65536).toNat;have e16:(2:Nat) ^ (16 - k)=2 * 2 ^ (15 - k):=by rw [show 16 - k=15 - k+1 by omega,Nat.pow_succ,Nat.mul_comm]
  have hprod:2 ^ k * 2 ^ (16 - k)=65536:=by rw [<- Nat.pow_add,show k+(16 - k)=16 by omega]
  have hbit:(n % 65536).toNat / 2 ^ k % 2 < 2:=Nat.mod_lt _ zO;have dN:rv k (n % 65536).toNat * 2 ^ (16 - k) < 65536:=by
   rw [<- hprod];exact Nat.mul_lt_mul_of_pos_right hl (Nat.two_pow_pos _)
  rw [vV,ih zO,bit_of n k zO];have eb:(((n % 65536).toNat / 2 ^ k % 2:Nat):Int) * 2 ^ (15 - k)=(((n % 65536).toNat / 2 ^ k % 2 * 2 ^ (15 - k):Nat):Int):=by push_cast;rfl
  have cY:(n % 65536).toNat / 2 ^ k % 2 * 2 ^ (15 - k) < 2 ^ (16 - k):=by
   rw [e16];exact Nat.mul_lt_mul_of_pos_right hbit (Nat.two_pow_pos _)
  have Dy:((2 ^ (16 - k):Nat):Int)=2 ^ (16 - k):=by push_cast;rfl
  have hm:(((rv k (n % 65536).toNat * 2 ^ (16 - k):Nat):Int)) % 2 ^ (16 - k)=0:=by
   rw [<- Dy,<- Int.natCast_emod,Nat.mul_mod_left];rfl
  have jg:(((n % 65536).toNat / 2 ^ k % 2 * 2 ^ (15 - k):Nat):Int) < 2 ^ (16 - k):=by rw [<- Dy];exact Int.ofNat_lt.2 cY
  rw [eb,JY _ _ (16 - k) zO zO zO hm zO jg,rv_snoc,show 16 - (k+1)=15 - k by omega,e16]
  push_cast
  rw [Int.add_mul,Int.mul_assoc,Int.mul_left_comm]
theorem IJ (n:Int) (k:Nat) (hk:k < 16):bits .or .i64 (vV n k) (wrap64 (n / 2 ^ k % 2 * 2 ^ (15 - k)))=vV n (k+1):=by
 have h2:(2:Int) ^ (15 - k)<=2 ^ 15:=by exact_mod_cast Nat.pow_le_pow_right (n:=2) (i:=15 - k) (j:=15) zO zO
 have h0:(0:Int) < 2 ^ (15 - k):=Int.pow_pos zO;have hb:n / 2 ^ k % 2=0\/n / 2 ^ k % 2=1:=zO;rw [IntWalk.wrap64_in]
 ·rfl
 ·rcases hb with h | h <;> rw [h] <;> omega
theorem MO (n:Int):vV n 16=qY n:=by rw [MN n 16 zO];simp [qY]
theorem JV (n:Int):0<=qY n/\qY n < 65536:=by
 have:=rv_lt 16 (n % 65536).toNat;unfold qY;omega
theorem BF (n0 n1 n2:Int):bits .or .i64 (bits .or .i64 (bits .or .i64 0 (n0 % 4294967296)) (n1 % 4 * 4294967296)) (n2 % 268435456 * 17179869184)=
  n0 % 4294967296+n1 % 4 * 4294967296+n2 % 268435456 * 17179869184:=by
 rw [rT 0 (n0 % 4294967296) 0 zO zO zO zO zO zO];rw [rT _ (n1 % 4 * 4294967296) 32 zO zO zO zO zO zO];rw [rT _ (n2 % 268435456 * 17179869184) 34 zO zO zO zO zO zO];omega
theorem K5 (g:Nat) (n0 n1 n2:Int) (w:World) (hg:g < w.heap.size) (c0:w.cell? ⟨g,0,none⟩=some (aa ab n0)) (c1:w.cell? ⟨g,1,none⟩=some (aa ab 32))
  (c2:w.cell? ⟨g,2,none⟩=some (aa ab n1)) (c3:w.cell? ⟨g,3,none⟩=some (aa ab 2)) (c4:w.cell? ⟨g,4,none⟩=some (aa ab n2)) (c5:w.cell? ⟨g,5,none⟩=some (aa ab 28)):
  Calls aw 115 #[af (some ⟨g,0,none⟩) 3 3] w fun e w'=>e=ai (aa ab (n0 % 4294967296+n1 % 4 * 4294967296+n2 % 268435456 * 17179869184))/\Below w.heap.size w w':=by
 go_enter Tryz.func115,Tryz.ntmps115
 go_wp2
 refine wp_loop_rounds 4 ?_;rw [dI]
 go_wp2_with (go_at_call 51;refine (lE _ _ _ zO zO).mono ?_;rintro e w' ⟨rfl,rfl⟩)
 rw [dI]
 go_wp2_with (go_at_call 51;refine (lE _ _ _ zO zO).mono ?_;rintro e w' ⟨rfl,rfl⟩)
 rw [dI]
 go_wp2_with (go_at_call 51;refine (lE _ _ _ zO zO).mono ?_;rintro e w' ⟨rfl,rfl⟩)
 rw [dI]
 go_wp2
 go_ret
 refine ⟨mC (BF n0 n1 n2),?_⟩;exact aB (aB (aB (Below.refl _ _) _) _) _
theorem Ae (g:Nat) (n0 n1 n2:Int) (W:World) (hg:W.heap.size=g):
  Calls aw 115 #[af (some ⟨g,0,none⟩) 3 3] (W.alloc (ag #[aa ab n0,aa ab 32,aa ab n1,aa ab 2,aa ab n2,aa ab 28] 168)) fun e w'=>
   e=ai (aa ab (n0 % 4294967296+n1 % 4 * 4294967296+n2 % 268435456 * 17179869184))/\Below W.heap.size W w':=by
 subst hg;refine (K5 W.heap.size n0 n1 n2 _ zS zS zS zS zS zS zS).mono ?_;rintro e w' ⟨rfl,hb⟩;exact ⟨rfl,aF (aB (Below.refl _ _) _) hb⟩
theorem vk (v k c:Int) (w:World):
  Calls aw 136 #[aa ab v,aa ab k,aa ab c] w fun e w'=>e=ai (aa ab (pY v k c))/\Below w.heap.size w w':=by
 go_enter Tryz.func136,Tryz.ntmps136
 go_wp2_with fail
 refine (Ae _ _ _ _ _ zS).mono ?_;rintro e w' ⟨rfl,hb⟩
 go_wp2
 go_ret
 exact ⟨mC rfl,hb⟩
theorem vY (n:Int) (w:World):
  Calls aw 135 #[aa ab n] w fun e w'=>e=ai (.tuple #[aa ab (n % 4294967296),aa ab (n / 4294967296 % 4),aa ab (n / 17179869184 % 268435456)])/\w=w':=by
 go_enter Tryz.func135,Tryz.ntmps135
 go_wp2_with (go_at_call 51;refine (lE _ _ _ zO zO).mono ?_;rintro e w' ⟨rfl,rfl⟩)
 go_ret3
 exact ⟨rfl,rfl⟩
theorem Bs (n:Int) (w:World):
  Calls aw 77 #[aa ab n] w fun e w'=>e=ai (aa ab (qY n))/\w=w':=by
 go_enter Tryz.func77,Tryz.ntmps77
 go_wp2
 go_loop [3,5] (fun t i=>∃ k:Nat,k<=16/\i=aa ab k/\t=aa ab (vV n k)) (fun _ i=>16 - (intOf i).toNat)
 case atStart=>exact ⟨0,zO,rfl,rfl⟩
 case round=>
  obtain ⟨k,hk,rfl,rfl⟩:=hrel
  by_cases dN:k < 16
  ·go_wp2_with (go_at_call 51;refine (lE _ _ _ zO zO).mono ?_;rintro e w' ⟨rfl,rfl⟩)
   go_round
   case rel=>
    exact ⟨k+1,zO,by go_num,congrArg (sj .i64) (IJ n k dN)⟩
   case measure=>simp [intOf];omega
  ·obtain rfl:k=16:=zO
   go_wp2
   go_ret
   exact ⟨mC (MO n),rfl⟩
theorem MS (n:Int) (w:World):Calls aw 91 #[aa ab n] w fun e w'=>e=ai (aa ab (jr n))/\w=w':=by
 have hb:=JV n;go_enter Tryz.func91,Tryz.ntmps91
 go_wp2_with (go_at_call 77;refine (Bs _ _).mono ?_;rintro e w' ⟨rfl,rfl⟩)
 go_ret
 exact ⟨rfl,rfl⟩
theorem Ls (n:Int) (w:World):Calls aw 122 #[aa ab n] w fun e w'=>e=ai (aa ab (rA n))/\w=w':=by
 have hb:=JV n;go_enter Tryz.func122,Tryz.ntmps122
 go_wp2_with (go_at_call 77;refine (Bs _ _).mono ?_;rintro e w' ⟨rfl,rfl⟩)
 go_ret
 exact ⟨rfl,rfl⟩
theorem key_any (n:Int) (w:World):Calls aw 60 #[aa ab n] w fun e w'=>e=ai (aa ab (qY (n % 131072 / 2)))/\w=w':=by
 go_enter Tryz.func60,Tryz.ntmps60
 go_wp2_with (first | (go_at_call 51;refine (lE _ _ _ zO zO).mono ?_;rintro e w' ⟨rfl,rfl⟩) | (go_at_call 77;refine (Bs _ _).mono ?_;rintro e w' ⟨rfl,rfl⟩))
 go_ret
 exact ⟨rfl,rfl⟩
end Go.Proofs.YtikdaeddbkopeaaGreatR
namespace Go.Proofs.YtikdaeddbkopeaaGreatR
open Go.RowKit
def jd (l:Ly) (q:An Out) (w:World) (e:lb) (w':World):Prop:=
 ((∃ a,q= .ask a/\e=ai (.tuple #[.agg (bj a.k (adr l a.c) a.o a.v),.agg aZ,ah false]))\/
  (∃ o gv,q= .fin o/\e=ai (.tuple #[.agg bW,.agg (br o.val o.is 0 o.aH gv),ah true])/\bN w' gv o.gone))/\Below w.heap.size w w'
theorem eH {P:Cn} {fn:Func} {p q t:Tmp} {t1 t2:bR} (h:fn.results=#[.cell p t1,.cell q t2,.tmp t]) (tmps:Array Value) (w:World) (g1 g2:Nat) (xS DL:Array Value) (Kg fr2:Nat × Nat) (d1 d2:TypeDesc) (v:Value)
  (hp:tmps.getD p undef=ae (some ⟨g1,0,none⟩)) (hq:tmps.getD q undef=ae (some ⟨g2,0,none⟩)) (hv:tmps.getD t undef=v) (k1:w.heap[g1]? =some (ag xS t1 Kg)) (k2:w.heap[g2]? =some (ag DL t2 fr2))
  (Eh:P.underlying t1=some d1) (oV:(match d1 with | .struct _ | .array _ _=>true | _=>false)=true) (vu:(P.info? t1).map (·.size)=some xS.size)
  (xN:P.underlying t2=some d2) (hd2:(match d2 with | .struct _ | .array _ _=>true | _=>false)=true) (hi2:(P.info? t2).map (·.size)=some DL.size):
  (qx fn tmps).run P w= .ok (.tuple #[.agg xS,.agg DL,v]) w:=by
 subst hv;have uK:tmps[p]?.getD undef=ae (some ⟨g1,0,none⟩):=by simpa using hp
 have Dr:tmps[q]?.getD undef=ae (some ⟨g2,0,none⟩):=by simpa using hq
 simp [qx,h,uK,Dr,asAddr,be w g1 t1 t1 xS Kg d1 k1 Eh oV vu,be w g2 t2 t2 DL fr2 d2 k2 xN hd2 hi2]
end Go.Proofs.YtikdaeddbkopeaaGreatR
namespace Go.Proofs.YtikdaeddbkopeaaGreatR.split
open Go.RowKit
attribute [local go_sem ↓] aV aW
structure Sk where
 l:Ly
 me:Nat
 A:Option Addr
 cap:Nat
 B:Nat
 gp:Nat
abbrev spC (k:Sk) (gv:Value) (n len:Nat):Array Value:=#[aa ab k.l.c.aM,aa ab k.l.c.nodes,aa ab k.l.c.buckets,aa ab k.l.c.slots,aa ab k.l.c.tasks,aa ab k.l.c.cells,aa ab k.l.c.maps,aa ab k.l.c.stacks,aa ab k.l.c.chans,aa ab k.l.done,aa ab k.l.count,aa ab k.l.era,aa ab k.l.free,aa ab k.l.alive,aa ab k.l.owner,aa ab k.l.resv,aa ab k.l.deque,aa ab k.l.ring,aa ab k.l.task,aa ab k.l.cell,aa ab k.l.map,aa ab k.l.stack,aa ab k.l.chan,aa ab k.l.node,aa ab k.l.size,aa ab k.me,gv,aa ab 0,.slice k.A len k.cap,aa ab (n:Nat)]
structure fD (w:World) (k:Sk) (g:cG) (n:Nat) (log:Log):Prop where
 kp:∃ gv,Bk w k.gp 141 (spC k gv n log.length)/\GnV w k.gp gv g
 sl:hH w k.B k.A log
 bp:k.B<=k.gp
 le:log.length<=100000
 nle:n<=log.length
 f:dU k.l
section
variable {w w':World} {k:Sk} {g g':cG} {n n':Nat} {log:Log} {q:An Out}
theorem fD.lt (h:fD w k g n log):k.gp < w.heap.size:=by obtain ⟨_,hb,-⟩:=h.kp;exact hb.lt
theorem fD.step (h:fD w k g n log) (s:Stp k.gp w w') (hk:∃ gv,Bk w' k.gp 141 (spC k gv n' log.length)/\GnV w' k.gp gv g') (hn:n'<=log.length):fD w' k g' n' log:=
 ⟨hk,h.sl.below (s.part h.bp (by have:=h.lt;have:=h.bp;omega)),h.bp,h.le,hn,h.f⟩
theorem fD.ay (h:fD w k g n log) (hb:Below w.heap.size w w'):fD w' k g n log:=by
 refine h.step (.aS k.gp hb) ?_ h.nle;obtain ⟨gv,h1,h2⟩:=h.kp;exact ⟨gv,h1.ay hb,h2.ay hb⟩
theorem fD.row {gb:Nat} {t:bR} {cs:Array Value} (h:fD w k g n log) (kb:Bk w gb t cs) (hb:k.B<=gb) (hn:141≠t/\52≠t) (r:Array Value):fD (w.setRow gb r) k g n log:=by
 obtain ⟨gv,kp,hg⟩:=h.kp;refine ⟨⟨gv,kp.a7 (kp.typ kb hn.1) r,hg.row kb hn.2 r⟩,?_,h.bp,h.le,h.nle,h.f⟩;intro hl;obtain ⟨b,o,e,ey,hc⟩:=h.sl hl;exact ⟨b,o,e,ey,fun j a ha=>⟨(mN w gb b _ _ zO).trans (hc j a ha).1,(mN w gb b _ _ zO).trans (hc j a ha).2⟩⟩
theorem fD.rB {gb:Nat} {t:bR} {cs:Array Value} (h:fD w k g n log) (kb:Bk w gb t cs) (hb:k.B<=gb) (hn:141≠t/\52≠t) (i:Nat) (v:Value):fD (w.setCell ⟨gb,i,none⟩ v) k g n log:=by
 obtain ⟨gv,kp,hg⟩:=h.kp;refine ⟨⟨gv,kp.other (p:=⟨gb,i,none⟩) (kp.typ kb hn.1) v,?_⟩,?_,h.bp,h.le,h.nle,h.f⟩
 ·obtain ⟨G,m,c,q1,q2,q3,q4⟩:=hg;refine ⟨G,m,c,q1,q2,q3,fun hl=>?_⟩
  obtain ⟨x,o,ds,r1,r2,r3,r4⟩:=q4 hl;have hx:x≠gb:=r2.typ kb hn.2;exact ⟨x,o,ds,r1,r2.other (p:=⟨gb,i,none⟩) hx v,r3,fun j y hy=>⟨(jV w ⟨gb,i,none⟩ x _ _ hx).trans (r4 j y hy).1,(jV w ⟨gb,i,none⟩ x _ _ hx).trans (r4 j y hy).2⟩⟩
 ·intro hl;obtain ⟨b,o,e,ey,hc⟩:=h.sl hl;have hx:b≠gb:=zO;exact ⟨b,o,e,ey,fun j a ha=>⟨(jV w ⟨gb,i,none⟩ b _ _ hx).trans (hc j a ha).1,(jV w ⟨gb,i,none⟩ b _ _ hx).trans (hc j a ha).2⟩⟩
def np (l:Ly) (a:LAc):Value:=.iface 170 (.agg #[aa ab a.k,aa ab (adr l a.c),aa ab a.o,aa ab a.v])
abbrev acV (l:Ly) (a:LAc):Value:=.agg #[aa ab a.k,aa ab (adr l a.c),aa ab a.o,aa ab a.v]
def mA {β:Type} (k:Sk) (q:An β) (w:World) (R:Value->World->Prop) (e:lb) (w':World):Prop:=
 (∃ a,q= .ask a/\e= .panicked [{ v:=np k.l a,recovered:=false }]/\Stp k.gp w w')\/(∃ v,e= .returned v/\R v w'/\Stp k.gp w w')
theorem sdo (a:LAc) (c:Int) (F:Int × Bool->Log->An Out) (h:fD w k g n log) (hc:c=adr k.l a.c) (hq:q=doM a F (log.drop n)):
  Calls aw 88 #[ptr k.gp,.agg #[aa ab a.k,aa ab c,aa ab a.o,aa ab a.v]] w (mA k q w fun v w'=>∃ x,log[n]? =some x/\v=qZ x.1 x.2/\fD w' k g (n+1) log/\q=F x (log.drop (n+1))):=by
 subst hc;obtain ⟨gv,kp,hG⟩:=h.kp;have lp:=kp.lt;have hle:=h.le;have hm:=h.nle;have h0:=ar h;have HQ:=ar hq;have HG:=ar hG;obtain ⟨aci,haci⟩:∃ x,adr k.l a.c=x:=⟨_,rfl⟩;have HA:=ar haci;rw [haci];have kp:=(kp.alloc (ag #[aa ab a.k,aa ab aci,aa ab a.o,aa ab a.v] 67)).alloc (ag #[aa ab 0,ah false] 75);have ka:=(Bk.made w 67 #[aa ab a.k,aa ab aci,aa ab a.o,aa ab a.v]).alloc (ag #[aa ab 0,ah false] 75);have aG:=((Stp.refl k.gp w).alloc (ag #[aa ab a.k,aa ab aci,aa ab a.o,aa ab a.v] 67)).alloc (ag #[aa ab 0,ah false] 75);have kr:=Bk.new (w.alloc (ag #[aa ab a.k,aa ab aci,aa ab a.o,aa ab a.v] 67)) (g:=w.heap.size+1) zS 75 #[aa ab 0,ah false];clear h hq hG haci
 cases hx:log[n]? with
 | none=>
  have A4:n=log.length:=by have:=List.getElem?_eq_none_iff.1 hx;omega
  have wV:q= .ask a:=by rw [HQ.out,DI hx];rfl
  have Ec:=ar wV;have heq:((n:Int)==log.length)=true:=by simp;omega
  clear hx wV HQ h0 lp kr;go_enter Tryz.func88,Tryz.ntmps88
  go_upto_region 1 with fail
  generalize (w.alloc (ag #[aa ab a.k,aa ab aci,aa ab a.o,aa ab a.v] 67)).alloc (ag #[aa ab 0,ah false] 75)=w1 at *;refine aP (S:=fun w'=>Bk w' k.gp 141 (spC k gv n log.length)) (E:=fun _=>false) zK ?_
  replace kp:=kp.drew;replace ka:=ka.drew;replace aG:=aG.drew;generalize w1.drew=w2 at *;refine wTk 10 [(0,5,ptr k.gp),(1,6,ptr k.gp),(2,7,ae (some ⟨k.gp,29,none⟩)),(3,8,aa ab (n:Nat)),(4,9,ptr k.gp),(5,10,ptr k.gp),(6,11,ae (some ⟨k.gp,28,none⟩)),(7,12,.slice k.A log.length k.cap),(8,13,aa ab (log.length:Nat)),(9,14,ah true)] ?_ kp ?_
  ·intro w' hS;have qQ:=hS.cell 29;have sN:=hS.cell 28;simp at qQ sN
   (repeat' (first | exact aC | refine au ⟨_,rfl,.inl ⟨rfl,?_⟩⟩ ?_))
   all_goals exact zG
  simp only [aR,Act.put,aj,ak,al];refine aN zK ?_ _;have c0:=ka.cell 0;have c1:=ka.cell 1;have c2:=ka.cell 2;have c3:=ka.cell 3;have la:=ka.lt;simp at c0 c1 c2 c3
  go_wp2_with fail
  exact ⟨rfl,.inl ⟨a,Ec.out,by unfold np;rw [HA.out],aG⟩⟩
 | some x=>
  obtain ⟨x1,x2⟩:=x;have A4:n < log.length:=(a8.1 hx).1;have wV:q=F (x1,x2) (log.drop (n+1)):=by rw [HQ.out,r9 hx];rfl
  have Ec:=ar (au wV hx);have heq:((n:Int)==log.length)=false:=by simp;omega
  have zp:k.gp < w.heap.size:=lp;clear hx wV HQ lp ka;go_enter Tryz.func88,Tryz.ntmps88
  go_upto_region 1 with fail
  obtain ⟨gr,N3⟩:∃ g,w.heap.size+1=g:=⟨_,rfl⟩;rw [N3] at kr ⊢;have zr:w.heap.size < gr:=zO;clear N3;generalize (w.alloc (ag #[aa ab a.k,aa ab aci,aa ab a.o,aa ab a.v] 67)).alloc (ag #[aa ab 0,ah false] 75)=w1 at *;refine aP (S:=fun w'=>Bk w' k.gp 141 (spC k gv n log.length)) (E:=fun _=>false) zK ?_
  replace kp:=kp.drew;replace kr:=kr.drew;replace aG:=aG.drew;generalize w1.drew=w2 at *;refine wTk 10 [(0,5,ptr k.gp),(1,6,ptr k.gp),(2,7,ae (some ⟨k.gp,29,none⟩)),(3,8,aa ab (n:Nat)),(4,9,ptr k.gp),(5,10,ptr k.gp),(6,11,ae (some ⟨k.gp,28,none⟩)),(7,12,.slice k.A log.length k.cap),(8,13,aa ab (log.length:Nat)),(9,14,ah false)] ?_ kp ?_
  ·intro w' hS;have qQ:=hS.cell 29;have sN:=hS.cell 28;simp at qQ sN
   (repeat' (first | exact aC | refine au ⟨_,rfl,.inl ⟨rfl,?_⟩⟩ ?_))
   all_goals exact zG
  simp only [aR,Act.put,aj,ak,al];refine aN zK ?_ _;have q29:=kp.cell 29;have f29:=kp.free 29;have l29:=kp.lt;simp at q29
  go_upto_region 4 with fail
  clear q29 f29 l29;replace aG:=aG.trans (Stp.set w2 k.gp 29 (aa ab ((n+1:Nat):Int)));replace kr:=kr.other (p:=⟨k.gp,29,none⟩) (by dsimp only;omega) (aa ab ((n+1:Nat):Int))
  replace kp:Bk (w2.setCell ⟨k.gp,29,none⟩ (aa ab ((n+1:Nat):Int))) k.gp 141 (spC k gv (n+1) log.length):=kp.stored 29 (aa ab ((n+1:Nat):Int));rw [show ((n:Int)+1)=((n+1:Nat):Int) from rfl]
  generalize w2.setCell ⟨k.gp,29,none⟩ (aa ab ((n+1:Nat):Int))=w3 at *;have lG:fD w3 k g (n+1) log:=h0.out.step aG ⟨gv,kp,HG.out.stp aG⟩ A4;obtain ⟨b,oo,hA,ey,hc⟩:=lG.sl zO;obtain ⟨d1,d2⟩:=hc n _ Ec.out.2;dsimp only at d1 d2;clear hc lG;refine aP (S:=fun w'=>Below w3.drew.heap.size w3.drew w') (E:=fun i=>i==11) zK ?_
  replace kp:=kp.drew;replace kr:=kr.drew;replace aG:=aG.drew;replace d1:w3.drew.cell? ⟨b,oo+n * 2,none⟩=some (aa ab x1):=d1;replace d2:w3.drew.cell? ⟨b,oo+n * 2+1,none⟩=some (.bool x2):=d2;generalize w3.drew=w4 at *;have HD:=ar (au d1 d2);have hA':=ar hA;clear d1 d2 hA;refine wTk 11 [(0,25,ptr k.gp),(1,26,ptr k.gp),(2,27,ae (some ⟨k.gp,28,none⟩)),(3,28,af (some ⟨b,oo,none⟩) log.length k.cap),(4,29,ptr k.gp),(5,30,ptr k.gp),(6,31,ae (some ⟨k.gp,29,none⟩)),(7,32,aa ab ((n+1:Nat):Int)),(8,33,aa ab (n:Nat)),(9,34,ae (some ⟨b,oo+n * 2,none⟩)),(10,35,.agg #[aa ab x1,.bool x2])] ?_ (Below.refl _ _) ?_
  ·intro w' hS;have sN:=(kp.ay hS).cell 28;have qQ:=(kp.ay hS).cell 29;have s1:=pE hS HD.out.1;have s2:=pE hS HD.out.2;have hw1:IntKind.i64.wrap (n:Int)=n:=cV _ zO;have g3:(n:Int) < log.length:=zO;simp at sN qQ s1 s2;rw [hA'.out] at sN
   (repeat' (first | exact aC | refine au ⟨_,rfl,.inl ⟨rfl,?_⟩⟩ ?_))
   all_goals exact zG
  simp only [aR,Act.put,aj,ak,al];refine aE (i:=11) (o:=_) zK rfl (fun KK hK=>?_)
  rw [if_pos (by rfl)]
  refine dH 75 (.tmp 4) (.tmp 35) rfl gr #[aa ab x1,.bool x2] rfl rfl 75 #[aa ab 0,ah false] kr zK rfl (by simp [aD]) ?_
  refine hK.out _ _ (fun h=>absurd h zD) ?_
  clear hK KK
  (try simp only [aq,ao,an,Act.put])
  refine aN zK ?_ _;have kp5:Bk (w4.setRow gr #[aa ab x1,.bool x2]) k.gp 141 (spC k gv (n+1) log.length):=(setRow_other _ _ _ _ zO).trans kp;have NA:=Cm _ _ #[aa ab 0,ah false] #[aa ab x1,.bool x2] 75 (0,0) kr;have jP:Stp k.gp w (w4.setRow gr #[aa ab x1,.bool x2]):=aG.row (.inl zO) _;clear kp kr aG;generalize w4.setRow gr #[aa ab x1,.bool x2]=w6 at *
  go_wp2_with fail
  refine aX (v:=qZ x1 x2) (cb (p:=4) (ty:=75) rfl _ _ gr 75 #[aa ab x1,.bool x2] (0,0) _ rfl NA Tryz.underlying75 rfl zK) rfl (.inr ⟨qZ x1 x2,rfl,⟨(x1,x2),rfl,rfl,?_,Ec.out.1⟩,jP⟩);exact h0.out.step jP ⟨gv,kp5,HG.out.stp jP⟩ A4
end
end Go.Proofs.YtikdaeddbkopeaaGreatR.split
namespace Go.Proofs.YtikdaeddbkopeaaGreatR
open Go.RowKit
set_option maxRecDepth 100000
attribute [local go_sem ↓] aV aW
variable {f tp tv fd:Nat}
def doG (fd:Nat) (k:Pk):Value:=.func (.func fd) #[] #[ptr k.gv,ptr k.gl]
abbrev pcG (fd:Nat) (k:Pk) (gv:Value) (i:Nat) (e0 e1 e2:Int):Array Value:=#[aa ab k.l.c.aM,aa ab k.l.c.nodes,aa ab k.l.c.buckets,aa ab k.l.c.slots,aa ab k.l.c.tasks,aa ab k.l.c.cells,aa ab k.l.c.maps,aa ab k.l.c.stacks,aa ab k.l.c.chans,aa ab k.l.done,aa ab k.l.count,aa ab k.l.era,aa ab k.l.free,aa ab k.l.alive,aa ab k.l.owner,aa ab k.l.resv,aa ab k.l.deque,aa ab k.l.ring,aa ab k.l.task,aa ab k.l.cell,aa ab k.l.map,aa ab k.l.stack,aa ab k.l.chan,aa ab k.l.node,aa ab k.l.size,aa ab k.me,gv,aa ab (i:Nat),aa ab e0,aa ab e1,aa ab e2,.func (.func fd) #[] #[ptr k.gv,ptr k.gl]]
structure PcG (tp tv fd:Nat) (w:World) (k:Pk) (z:Pz) (log:Log):Prop where
 kp:∃ gv e0 e1 e2,Bk w k.gp tp (pcG fd k gv z.made e0 e1 e2)/\GnV w k.gp gv z.gone/\z.dO=[e0,e1,e2]
 kv:Bk w k.gv tv #[ptr k.gp]
 kl:Bk w k.gl 43 #[.slice k.A log.length k.cap]
 sl:hH w k.B k.A log
 ne:k.gv≠k.gp/\k.gl≠k.gp
 bp:k.B<=k.gp
 le:log.length<=100000
 mle:z.made<=log.length
 f:dU k.l
theorem PcG.step {w w':World} {k:Pk} {z z':Pz} {log:Log} (h:PcG tp tv fd w k z log) (s:Stp k.gp w w') (hk:∃ gv e0 e1 e2,Bk w' k.gp tp (pcG fd k gv z'.made e0 e1 e2)/\GnV w' k.gp gv z'.gone/\z'.dO=[e0,e1,e2]) (hm:z'.made<=log.length):PcG tp tv fd w' k z' log:=
 ⟨hk,s.ay h.kv h.ne.1,s.ay h.kl h.ne.2,h.sl.below (s.part h.bp (by obtain ⟨_,_,_,_,hb,-⟩:=h.kp;have:=hb.lt;have:=h.bp;omega)),h.ne,h.bp,h.le,hm,h.f⟩
theorem PcG.ay {w w':World} {k:Pk} {z:Pz} {log:Log} (h:PcG tp tv fd w k z log) (hb:Below w.heap.size w w'):PcG tp tv fd w' k z log:=by
 refine h.step (.aS k.gp hb) ?_ h.mle;obtain ⟨gv,e0,e1,e2,h1,h2,h3⟩:=h.kp;exact ⟨gv,e0,e1,e2,h1.ay hb,h2.ay hb,h3⟩
theorem PcG.lt {w:World} {k:Pk} {z:Pz} {log:Log} (h:PcG tp tv fd w k z log):k.gp < w.heap.size:=by obtain ⟨_,_,_,_,hb,-⟩:=h.kp;exact hb.lt
def taOf (fd:Nat):Nat:=if fd=181 then 213 else if fd=126 then 176 else 188
def D3 (fd:Nat) (l:Ly) (a:LAc):Value:=.iface (taOf fd) (.agg #[aa ab a.k,aa ab (adr l a.c),aa ab a.o,aa ab a.v])
abbrev acV (l:Ly) (a:LAc):Value:=.agg #[aa ab a.k,aa ab (adr l a.c),aa ab a.o,aa ab a.v]
def im {β:Type} (fd:Nat) (k:Pk) (q:An β) (w:World) (R:Value->World->Prop) (e:lb) (w':World):Prop:=
 (∃ a,q= .ask a/\e= .panicked [{ v:=D3 fd k.l a,recovered:=false }]/\Stp k.gp w w')\/(∃ v,e= .returned v/\R v w'/\Stp k.gp w w')
theorem pdo {β:Type} (a:LAc) {w:World} {k:Pk} {z:Pz} {log:Log} {q:An β} (F:Int × Bool->Pz->Log->An β) (h:PcG tp tv fd w k z log) (hq:q=doR a z F (log.drop z.made)) (hI:(tp,tv,fd)∈[(211,199,181),(174,154,126),(186,158,143)]:=by decide):
  Calls aw fd #[acV k.l a,ptr k.gv,ptr k.gl] w (im fd k q w fun v w'=>∃ x,log[z.made]? =some x/\v=qZ x.1 x.2/\PcG tp tv fd w' k z.got log/\q=F x z.got (log.drop (z.made+1))):=by
 simp only [bD,Prod.mk.injEq,cB,or_false] at hI;rcases hI with ⟨rfl,rfl,rfl⟩ | ⟨rfl,rfl,rfl⟩ | ⟨rfl,rfl,rfl⟩
 all_goals
  obtain ⟨gv,e0,e1,e2,kp,hG,hE⟩:=h.kp;have zy:=kp.cell 27;have f27:=kp.free 27;have cv:=h.kv.cell 0;have cl:=h.kl.cell 0;have lp:=kp.lt;have lv:=h.kv.lt;have ll:=h.kl.lt;simp at zy cv cl;have hle:=h.le;have hm:=h.mle;have HS:=ar h;have h0:=h;have HQ:=ar hq;have HK:=ar (au kp (au hG hE));have dF:=h.ne;obtain ⟨mm,zR⟩:∃ x,z.made=x:=⟨_,rfl⟩;have HM:=ar zR;rw [zR] at zy hm HQ;clear h hq kp hG hE zR
  cases hx:log[mm]? with
  | none=>
   have A4:mm=log.length:=by have:=List.getElem?_eq_none_iff.1 hx;omega
   have wV:q= .ask a:=by rw [HQ.out,DI hx];rfl
   have Ec:=ar wV;have heq:((mm:Int)==log.length)=true:=by simp;omega
   have kp:=((HK.out.1).alloc (ag #[aa ab a.k,aa ab (adr k.l a.c),aa ab a.o,aa ab a.v] 67)).alloc (ag #[aa ab 0,ah false] 75);have kv:=(h0.kv.alloc (ag #[aa ab a.k,aa ab (adr k.l a.c),aa ab a.o,aa ab a.v] 67)).alloc (ag #[aa ab 0,ah false] 75);have kl:=(h0.kl.alloc (ag #[aa ab a.k,aa ab (adr k.l a.c),aa ab a.o,aa ab a.v] 67)).alloc (ag #[aa ab 0,ah false] 75);have ka:=(Bk.made w 67 #[aa ab a.k,aa ab (adr k.l a.c),aa ab a.o,aa ab a.v]).alloc (ag #[aa ab 0,ah false] 75);have aG:=((Stp.refl k.gp w).alloc (ag #[aa ab a.k,aa ab (adr k.l a.c),aa ab a.o,aa ab a.v] 67)).alloc (ag #[aa ab 0,ah false] 75);clear hx wV HQ HK HS h0 zy f27 cv cl lp lv ll
   first | go_enter Tryz.func181,Tryz.ntmps181 | go_enter Tryz.func126,Tryz.ntmps126 | go_enter Tryz.func143,Tryz.ntmps143
   go_upto_region 1 with fail
   generalize (w.alloc (ag #[aa ab a.k,aa ab (adr k.l a.c),aa ab a.o,aa ab a.v] 67)).alloc (ag #[aa ab 0,ah false] 75)=w1 at *;refine aP (S:=fun w'=>Below w1.drew.heap.size w1.drew w') (E:=fun _=>false) zK ?_
   replace kp:=kp.drew;replace kv:=kv.drew;replace kl:=kl.drew;replace ka:=ka.drew;replace aG:=aG.drew;generalize w1.drew=w2 at *;rw [HM.out] at kp;refine wTk 7 [(0,5,ptr k.gp),(1,6,ptr k.gp),(2,7,ae (some ⟨k.gp,27,none⟩)),(3,8,aa ab (mm:Nat)),(4,9,.slice k.A log.length k.cap),(5,10,aa ab (log.length:Nat)),(6,11,ah true)] ?_ (Below.refl _ _) ?_
   ·intro w' hS;have zy:=(kp.ay hS).cell 27;have cv:=(kv.ay hS).cell 0;have cl:=(kl.ay hS).cell 0;simp at zy cv cl
    (repeat' (first | exact aC | refine au ⟨_,rfl,.inl ⟨rfl,?_⟩⟩ ?_))
    all_goals ((try simp only [aq,ao,an,Act.put,aj,ak,al]);go_simp)
   simp only [aR,Act.put,aj,ak,al];refine aN zK ?_ _;have c0:=ka.cell 0;have c1:=ka.cell 1;have c2:=ka.cell 2;have c3:=ka.cell 3;have la:=ka.lt;simp at c0 c1 c2 c3
   go_wp2_with fail
   exact ⟨rfl,.inl ⟨a,Ec.out,rfl,aG⟩⟩
  | some x=>
   obtain ⟨x1,x2⟩:=x;have A4:mm < log.length:=(a8.1 hx).1;have wV:q=F (x1,x2) z.got (log.drop (mm+1)):=by rw [HQ.out,r9 hx];rfl
   have Ec:=ar (au wV hx);have heq:((mm:Int)==log.length)=false:=by simp;omega
   have kp:=((HK.out.1).alloc (ag #[aa ab a.k,aa ab (adr k.l a.c),aa ab a.o,aa ab a.v] 67)).alloc (ag #[aa ab 0,ah false] 75);have kv:=(h0.kv.alloc (ag #[aa ab a.k,aa ab (adr k.l a.c),aa ab a.o,aa ab a.v] 67)).alloc (ag #[aa ab 0,ah false] 75);have kl:=(h0.kl.alloc (ag #[aa ab a.k,aa ab (adr k.l a.c),aa ab a.o,aa ab a.v] 67)).alloc (ag #[aa ab 0,ah false] 75);have ka:=(Bk.made w 67 #[aa ab a.k,aa ab (adr k.l a.c),aa ab a.o,aa ab a.v]).alloc (ag #[aa ab 0,ah false] 75);have aG:=((Stp.refl k.gp w).alloc (ag #[aa ab a.k,aa ab (adr k.l a.c),aa ab a.o,aa ab a.v] 67)).alloc (ag #[aa ab 0,ah false] 75);have kr:=Bk.new (w.alloc (ag #[aa ab a.k,aa ab (adr k.l a.c),aa ab a.o,aa ab a.v] 67)) (g:=w.heap.size+1) zS 75 #[aa ab 0,ah false];have HZ:=ar (show ∃ e0 e1 e2,GnV w k.gp gv z.gone/\z.dO=[e0,e1,e2] from ⟨_,_,_,HK.out.2⟩)
   have HGG:=HK.out.2.1;have HEE:=HK.out.2.2;clear hx wV HQ HK h0 zy f27 cv cl lp lv ll
   first | go_enter Tryz.func181,Tryz.ntmps181 | go_enter Tryz.func126,Tryz.ntmps126 | go_enter Tryz.func143,Tryz.ntmps143
   go_upto_region 1 with fail
   obtain ⟨gr,N3⟩:∃ g,w.heap.size+1=g:=⟨_,rfl⟩;rw [N3] at kr ⊢;have zr:w.heap.size < gr:=zO;have zp:=HS.out.lt;clear N3;generalize (w.alloc (ag #[aa ab a.k,aa ab (adr k.l a.c),aa ab a.o,aa ab a.v] 67)).alloc (ag #[aa ab 0,ah false] 75)=w1 at *;refine aP (S:=fun w'=>Below w1.drew.heap.size w1.drew w') (E:=fun _=>false) zK ?_
   replace kp:=kp.drew;replace kv:=kv.drew;replace kl:=kl.drew;replace ka:=ka.drew;replace kr:=kr.drew;replace aG:=aG.drew;generalize w1.drew=w2 at *;rw [HM.out] at kp;refine wTk 7 [(0,5,ptr k.gp),(1,6,ptr k.gp),(2,7,ae (some ⟨k.gp,27,none⟩)),(3,8,aa ab (mm:Nat)),(4,9,.slice k.A log.length k.cap),(5,10,aa ab (log.length:Nat)),(6,11,ah false)] ?_ (Below.refl _ _) ?_
   ·intro w' hS;have zy:=(kp.ay hS).cell 27;have cv:=(kv.ay hS).cell 0;have cl:=(kl.ay hS).cell 0;simp at zy cv cl
    (repeat' (first | exact aC | refine au ⟨_,rfl,.inl ⟨rfl,?_⟩⟩ ?_))
    all_goals ((try simp only [aq,ao,an,Act.put,aj,ak,al]);go_simp)
   simp only [aR,Act.put,aj,ak,al];refine aN zK ?_ _;have q27:=kp.cell 27;have f27:=kp.free 27;have qv:=kv.cell 0;have l27:=kp.lt;have lv:=kv.lt;simp at q27 qv
   go_upto_region 4 with fail
   clear q27 f27 l27 qv lv;replace aG:=aG.trans (Stp.set w2 k.gp 27 (aa ab ((mm+1:Nat):Int)));replace kr:=kr.other (p:=⟨k.gp,27,none⟩) (by dsimp only;omega) (aa ab ((mm+1:Nat):Int))
   replace kv:=kv.other (p:=⟨k.gp,27,none⟩) dF.1 (aa ab ((mm+1:Nat):Int));replace kl:=kl.other (p:=⟨k.gp,27,none⟩) dF.2 (aa ab ((mm+1:Nat):Int));replace kp:Bk (w2.setCell ⟨k.gp,27,none⟩ (aa ab ((mm+1:Nat):Int))) k.gp _ (pcG _ k gv (mm+1) e0 e1 e2):=kp.stored 27 (aa ab ((mm+1:Nat):Int));clear ka;rw [show ((mm:Int)+1)=((mm+1:Nat):Int) from rfl]
   generalize w2.setCell ⟨k.gp,27,none⟩ (aa ab ((mm+1:Nat):Int))=w3 at *;have lg:=(HS.out.step (z':=z.got) aG ⟨gv,e0,e1,e2,by rw [show z.got.made=mm+1 from congrArg (· +1) HM.out];exact kp,HGG.stp aG,HEE⟩ (by show z.made+1<=_;rw [HM.out];omega)).sl
   obtain ⟨b,oo,hA,ey,hc⟩:=lg zO;obtain ⟨d1,d2⟩:=hc mm _ Ec.out.2;dsimp only at d1 d2;clear hc lg;refine aP (S:=fun w'=>Below w3.drew.heap.size w3.drew w') (E:=fun i=>i==8) zK ?_
   replace kp:=kp.drew;replace kv:=kv.drew;replace kl:=kl.drew;replace kr:=kr.drew;replace aG:=aG.drew;replace d1:w3.drew.cell? ⟨b,oo+mm * 2,none⟩=some (aa ab x1):=d1;replace d2:w3.drew.cell? ⟨b,oo+mm * 2+1,none⟩=some (.bool x2):=d2;generalize w3.drew=w4 at *;have HD:=ar (au d1 d2);clear d1 d2;rw [hA] at kl;refine wTk 8 [(0,22,af (some ⟨b,oo,none⟩) log.length k.cap),(1,23,ptr k.gp),(2,24,ptr k.gp),(3,25,ae (some ⟨k.gp,27,none⟩)),(4,26,aa ab ((mm+1:Nat):Int)),(5,27,aa ab (mm:Nat)),(6,28,ae (some ⟨b,oo+mm * 2,none⟩)),(7,29,.agg #[aa ab x1,.bool x2])] ?_ (Below.refl _ _) ?_
   ·intro w' hS;have zy:=(kp.ay hS).cell 27;have cv:=(kv.ay hS).cell 0;have cl:=(kl.ay hS).cell 0;have s1:=pE hS HD.out.1;have s2:=pE hS HD.out.2;have hw1:IntKind.i64.wrap (mm:Int)=mm:=cV _ zO;have g3:(mm:Int) < log.length:=zO;simp at zy cv cl s1 s2
    (repeat' (first | exact aC | refine au ⟨_,rfl,.inl ⟨rfl,?_⟩⟩ ?_))
    all_goals ((try simp only [aq,ao,an,Act.put,aj,ak,al]);go_simp)
   simp only [aR,Act.put,aj,ak,al];refine aE (i:=8) (o:=_) zK rfl (fun K hK=>?_)
   rw [if_pos (by rfl)]
   refine dH 75 (.tmp 4) (.tmp 29) rfl gr #[aa ab x1,.bool x2] rfl rfl 75 #[aa ab 0,ah false] kr zK rfl (by simp [aD]) ?_
   refine hK.out _ _ (fun h=>absurd h zD) ?_
   clear hK K;refine aN zK ?_ _;have kp5:Bk (w4.setRow gr #[aa ab x1,.bool x2]) k.gp _ (pcG _ k gv (mm+1) e0 e1 e2):=(setRow_other _ _ _ _ zO).trans kp;have NA:=Cm _ _ #[aa ab 0,ah false] #[aa ab x1,.bool x2] 75 (0,0) kr;have jP:Stp k.gp w (w4.setRow gr #[aa ab x1,.bool x2]):=⟨aG.os,aG.tape,aG.output,by have:=aG.size;simpa [World.setRow] using this,fun b' hb' hn'=>(setRow_other _ gr b' _ zO).trans (aG.block b' hb' hn')⟩
   clear kp kr aG kv kl;generalize w4.setRow gr #[aa ab x1,.bool x2]=w6 at *
   go_wp2_with fail
   refine aX (v:=qZ x1 x2) (cb (p:=4) (ty:=75) rfl _ _ gr 75 #[aa ab x1,.bool x2] (0,0) _ rfl NA Tryz.underlying75 rfl zK) rfl (.inr ⟨qZ x1 x2,rfl,⟨(x1,x2),by rw [HM.out];exact Ec.out.2,rfl,?_,by rw [HM.out];exact Ec.out.1⟩,jP⟩)
   exact HS.out.step (z':=z.got) jP ⟨gv,e0,e1,e2,by rw [show z.got.made=mm+1 from congrArg (· +1) HM.out];exact kp5,HGG.stp jP,HEE⟩ (by show z.made+1<=_;rw [HM.out];omega)
end Go.Proofs.YtikdaeddbkopeaaGreatR
namespace Go.Proofs.YtikdaeddbkopeaaGreatR
open Go.RowKit
set_option maxRecDepth 100000
attribute [local go_sem ↓] aV aW
variable {f tp tv fd:Nat}
section
variable {β:Type} {w:World} {k:Pk} {z:Pz} {log:Log} {q:An β}
theorem im.trans {w1:World} {R:Value->World->Prop} {e:lb} {w':World} (h:im fd k q w1 R e w') (hs:Stp k.gp w w1):im fd k q w R e w':=by
 rcases h with ⟨a,h1,h2,h3⟩ | ⟨v,h1,h2,h3⟩
 ·exact .inl ⟨a,h1,h2,hs.trans h3⟩
 ·exact .inr ⟨v,h1,h2,hs.trans h3⟩
theorem jt (c:Loc) (ci:Int) (F:Int × Bool->Pz->Log->An β) (h:PcG tp tv fd w k z log) (hc:ci=adr k.l c) (hq:q=doR ⟨1,c,0,0⟩ z F (log.drop z.made)) (hI:(f,tp,tv,fd)∈[(184,211,199,181),(134,174,154,126),(147,186,158,143)]:=by decide):
  Calls aw f #[ptr k.gp,aa ab ci] w (im fd k q w fun v w'=>∃ x,log[z.made]? =some x/\v=aa ab x.1/\PcG tp tv fd w' k z.got log/\q=F x z.got (log.drop (z.made+1))):=by
 simp only [bD,Prod.mk.injEq,cB,or_false] at hI;rcases hI with ⟨rfl,rfl,rfl,rfl⟩ | ⟨rfl,rfl,rfl,rfl⟩ | ⟨rfl,rfl,rfl,rfl⟩
 all_goals
  subst hc;obtain ⟨gv,e0,e1,e2,kp,-,-⟩:=h.kp;have Ba:=kp.cell 31;have lp:=kp.lt;simp at Ba;clear kp;have A6:=mq;have hf1:=yr
  first | go_enter Tryz.func184,Tryz.ntmps184 | go_enter Tryz.func134,Tryz.ntmps134 | go_enter Tryz.func147,Tryz.ntmps147
  go_wp2_with fail
  (with_reducible refine (pdo ⟨1,c,0,0⟩ F h hq).mono ?_)
  rintro e w1 (⟨a,h1,rfl,h3⟩ | ⟨v,rfl,⟨⟨x1,x2⟩,hx,rfl,hp,wV⟩,hs⟩)
  ·exact ⟨rfl,.inl ⟨a,h1,rfl,h3⟩⟩
  ·have HX:=ar (au hx (au hp (au wV hs)));clear h hq hx hp wV hs Ba lp
   go_wp2
   go_ret
   exact .inr ⟨_,rfl,⟨(x1,x2),HX.out.1,rfl,HX.out.2.1,HX.out.2.2.1⟩,HX.out.2.2.2⟩
theorem js (c:Loc) (ci v:Int) (F:Int × Bool->Pz->Log->An β) (h:PcG tp tv fd w k z log) (hc:ci=adr k.l c) (hq:q=doR ⟨2,c,0,v⟩ z F (log.drop z.made)) (hI:(f,tp,tv,fd)∈[(189,211,199,181),(130,174,154,126),(176,186,158,143)]:=by decide):
  Calls aw f #[ptr k.gp,aa ab ci,aa ab v] w (im fd k q w fun u w'=>∃ x,log[z.made]? =some x/\u= .tuple #[]/\PcG tp tv fd w' k z.got log/\q=F x z.got (log.drop (z.made+1))):=by
 simp only [bD,Prod.mk.injEq,cB,or_false] at hI;rcases hI with ⟨rfl,rfl,rfl,rfl⟩ | ⟨rfl,rfl,rfl,rfl⟩ | ⟨rfl,rfl,rfl,rfl⟩
 all_goals
  subst hc;obtain ⟨gv,e0,e1,e2,kp,-,-⟩:=h.kp;have Ba:=kp.cell 31;have lp:=kp.lt;simp at Ba;clear kp
  first | go_enter Tryz.func189,Tryz.ntmps189 | go_enter Tryz.func130,Tryz.ntmps130 | go_enter Tryz.func176,Tryz.ntmps176
  go_wp2_with fail
  (with_reducible refine (pdo ⟨2,c,0,v⟩ F h hq).mono ?_)
  rintro e w1 (⟨a,h1,rfl,h3⟩ | ⟨u,rfl,⟨⟨x1,x2⟩,hx,rfl,hp,wV⟩,hs⟩)
  ·exact ⟨rfl,.inl ⟨a,h1,rfl,h3⟩⟩
  ·have HX:=ar (au hx (au hp (au wV hs)));clear h hq hx hp wV hs Ba lp
   go_wp2
   exact aX (v:=.tuple #[]) (dY rfl _ _ _) rfl (.inr ⟨_,rfl,⟨(x1,x2),HX.out.1,rfl,HX.out.2.1,HX.out.2.2.1⟩,HX.out.2.2.2⟩)
theorem pX (c:Loc) (ci o v:Int) (F:Int × Bool->Pz->Log->An β) (h:PcG tp tv fd w k z log) (hc:ci=adr k.l c) (hq:q=doR ⟨3,c,o,v⟩ z F (log.drop z.made)) (hI:(f,tp,tv,fd)∈[(191,211,199,181),(137,174,154,126),(148,186,158,143)]:=by decide):
  Calls aw f #[ptr k.gp,aa ab ci,aa ab o,aa ab v] w (im fd k q w fun u w'=>∃ x,log[z.made]? =some x/\u= .bool x.2/\PcG tp tv fd w' k z.got log/\q=F x z.got (log.drop (z.made+1))):=by
 simp only [bD,Prod.mk.injEq,cB,or_false] at hI;rcases hI with ⟨rfl,rfl,rfl,rfl⟩ | ⟨rfl,rfl,rfl,rfl⟩ | ⟨rfl,rfl,rfl,rfl⟩
 all_goals
  subst hc;obtain ⟨gv,e0,e1,e2,kp,-,-⟩:=h.kp;have Ba:=kp.cell 31;have lp:=kp.lt;simp at Ba;clear kp;have A6:=mq;have hf1:=yr
  first | go_enter Tryz.func191,Tryz.ntmps191 | go_enter Tryz.func137,Tryz.ntmps137 | go_enter Tryz.func148,Tryz.ntmps148
  go_wp2_with fail
  (with_reducible refine (pdo ⟨3,c,o,v⟩ F h hq).mono ?_)
  rintro e w1 (⟨a,h1,rfl,h3⟩ | ⟨u,rfl,⟨⟨x1,x2⟩,hx,rfl,hp,wV⟩,hs⟩)
  ·exact ⟨rfl,.inl ⟨a,h1,rfl,h3⟩⟩
  ·have HX:=ar (au hx (au hp (au wV hs)));clear h hq hx hp wV hs Ba lp
   go_wp2
   go_ret
   exact .inr ⟨_,rfl,⟨(x1,x2),HX.out.1,rfl,HX.out.2.1,HX.out.2.2.1⟩,HX.out.2.2.2⟩
theorem ly (h:PcG tp tv fd w k z log) (hm:1<=z.made) (hI:(f,tp,tv,fd)∈[(192,211,199,181),(133,174,154,126),(149,186,158,143)]:=by decide):
  Calls aw f #[ptr k.gp] w (qs ((z.made - 1:Nat):Int) w):=by
 simp only [bD,Prod.mk.injEq,cB,or_false] at hI;rcases hI with ⟨rfl,rfl,rfl,rfl⟩ | ⟨rfl,rfl,rfl,rfl⟩ | ⟨rfl,rfl,rfl,rfl⟩
 all_goals
  obtain ⟨gv,e0,e1,e2,kp,-,-⟩:=h.kp;have zy:=kp.cell 27;have lp:=kp.lt;have hle:=h.le;have A4:=h.mle;simp at zy;clear kp h;obtain ⟨mm,zR⟩:∃ x,z.made=x+1:=⟨z.made - 1,zO⟩;rw [zR] at zy A4 ⊢;clear zR hm;have e1:(((mm+1:Nat):Int) - 1)=mm:=zO
  first | go_enter Tryz.func192,Tryz.ntmps192 | go_enter Tryz.func133,Tryz.ntmps133 | go_enter Tryz.func149,Tryz.ntmps149
  go_wp2_with fail
  go_ret
  exact ⟨mC zS,rfl⟩
theorem M1 {gv:Value} {i:Nat} {e0 e1 e2:Int} (kp:Bk w k.gp tp (pcG fd k gv i e0 e1 e2)):∀ (j:Nat) (v:Value),(lyC k.l)[j]? =some v->w.cell? ⟨k.gp,0+j,none⟩=some v:=by
 intro j v h;have hj:j < 25:=(bE.1 h).1;rw [eE,kp.cell j,show pcG fd k gv i e0 e1 e2=lyC k.l++#[aa ab k.me,gv,aa ab (i:Nat),aa ab e0,aa ab e1,aa ab e2,doG fd k] from rfl,Array.getElem?_append_left hj]
 exact h
def Hd (k:Pk) (w:World):Prop:=(∀ (j:Nat) (v:Value),(lyC k.l)[j]? =some v->w.cell? ⟨k.gp,0+j,none⟩=some v)/\w.cell? ⟨k.gp,25,none⟩=some (aa ab k.me)
theorem PcG.hd (h:PcG tp tv fd w k z log):Hd k w:=by
 obtain ⟨gv,e0,e1,e2,kp,-,-⟩:=h.kp;exact ⟨M1 kp,kp.cell 25⟩
theorem Hd.lay (h:Hd k w):(dr 34 ⟨k.gp,0,none⟩).run aw w= .ok (lyV k.l) w:=dy w k.gp 0 34 (lyC k.l) _ h.1 aJ rfl zK
theorem Hd.at_ (h:Hd k w) (j:Nat) (v:Value) (hv:(lyC k.l)[j]? =some v):w.cell? ⟨k.gp,j,none⟩=some v:=by have:=h.1 j v hv;rwa [eE] at this
theorem DG {o:Oper} {a:Act} {x:Operand} (ho:o.op= .load 34 x) (hx:a.eval x=ptr k.gp) (h:Hd k w):(Av a.eval o).run aw w= .ok (.value (lyV k.l)) w:=by
 unfold Av;simp only [ho,hx,ptr,Instr.loadAt,xG,di,dx,bQ,h.lay]
theorem gY (n i:Int) (h:PcG tp tv fd w k z log) (hn:n<=9223372036854775807) (hI:(f,tp,tv,fd)∈[(185,211,199,181),(131,174,154,126),(146,186,158,143)]:=by decide):
  Calls aw f #[ptr k.gp,aa ab n,aa ab i] w (gh (nodeAt k.l n i) w):=by
 simp only [bD,Prod.mk.injEq,cB,or_false] at hI;rcases hI with ⟨rfl,rfl,rfl,rfl⟩ | ⟨rfl,rfl,rfl,rfl⟩ | ⟨rfl,rfl,rfl,rfl⟩
 all_goals
  obtain ⟨gv,e0,e1,e2,kp,-,-⟩:=h.kp;have HS:=ar (M1 kp);have lp:=h.lt;have HF:=ar h.f;clear h kp
  first | go_enter Tryz.func185,Tryz.ntmps185 | go_enter Tryz.func131,Tryz.ntmps131 | go_enter Tryz.func146,Tryz.ntmps146
  go_wp2_with (refine qA rfl 34 (.tmp 9) rfl k.gp 0 rfl (lyC k.l) _ HS.out aJ rfl zK ?_)
  (with_reducible refine (dt k.l n i w HF.out hn).mono ?_)
  rintro e w1 ⟨rfl,hb⟩;clear HS HF lp
  go_wp2_with fail
  go_ret
  exact ⟨rfl,hb⟩
end
end Go.Proofs.YtikdaeddbkopeaaGreatR
namespace Go.Proofs.YtikdaeddbkopeaaGreatR
open Go.RowKit
set_option maxRecDepth 100000
attribute [local go_sem ↓] aV aW
variable {f tp tv fd:Nat}
def madeOf (gp:Nat) (w:World):Nat:=match w.cell? ⟨gp,27,none⟩ with | some (.int _ z)=>z.toNat | _=>0
section
variable {β:Type} {w:World} {k:Pk} {z:Pz} {log:Log} {q:An β}
theorem dj (h:PcG tp tv fd w k z log):madeOf k.gp w=z.made:=by
 obtain ⟨gv,e0,e1,e2,kp,-,-⟩:=h.kp;have h:=kp.cell 27;unfold madeOf;rw [h];simp
theorem yZ (h:PcG tp tv fd w k z log) {i:Nat} (hi:i < 3):w.cell? ⟨k.gp,28+i,none⟩=some (aa ab (z.dO.getD i 0)):=by
 obtain ⟨gv,e0,e1,e2,kp,-,hE⟩:=h.kp;rw [kp.cell,hE];have:i=0\/i=1\/i=2:=zO;rcases this with rfl | rfl | rfl <;> rfl
theorem DH (h:PcG tp tv fd w k z log) (i:Nat):w.frozen? ⟨k.gp,28+i,none⟩=false:=by
 obtain ⟨gv,e0,e1,e2,kp,-,hE⟩:=h.kp;exact kp.free _
theorem PcG.era (h:PcG tp tv fd w k z log) {i:Nat} (hi:i < 3) (e:Int):PcG tp tv fd (w.setCell ⟨k.gp,28+i,none⟩ (aa ab e)) k { z with dO:=z.dO.set i e } log:=by
 refine h.step (Stp.set w k.gp (28+i) _) ?_ h.mle;obtain ⟨gv,e0,e1,e2,kp,hG,hE⟩:=h.kp;have hs:=kp.stored (28+i) (aa ab e);have hg:=hG.stp (Stp.set w k.gp (28+i) (aa ab e));have:i=0\/i=1\/i=2:=zO;rcases this with rfl | rfl | rfl
 ·exact ⟨gv,e,e1,e2,hs,hg,by rw [hE];rfl⟩
 ·exact ⟨gv,e0,e,e2,hs,hg,by rw [hE];rfl⟩
 ·exact ⟨gv,e0,e1,e,hs,hg,by rw [hE];rfl⟩
def OY (k:Pk) (th:Int) (F:Ret->Pz->Log->An β) (log:Log) (q:An β) (i:Nat) (c:Loc) (m0:Nat) (w wr:World):Prop:=
 ∃ z',PcG tp tv fd wr k z' log/\Stp k.gp w wr/\q=jO th k.me F (.g1 i c) z' (log.drop z'.made)/\m0<=z'.made
theorem yz (th:Int) (i:Nat) (c:Loc) (ci:Int) (F:Ret->Pz->Log->An β) (h:PcG tp tv fd w k z log) (hi:i < 3) (hc:ci=adr k.l c) (hq:q=jO th k.me F (.g1 i c) z (log.drop z.made)) (hI:(f,tp,tv,fd)∈[(196,211,199,181),(172,174,154,126),(145,186,158,143)]:=by decide):
  Calls aw f #[ptr k.gp,aa ab (i:Nat),aa ab ci] w (im fd k q w fun u w'=>∃ v p z',u= .tuple #[aa ab v,aa ab (p:Nat)]/\PcG tp tv fd w' k z' log/\q=F (.gd v p) z' (log.drop z'.made)/\z.made < z'.made/\p < z'.made):=by
 simp only [bD,Prod.mk.injEq,cB,or_false] at hI;rcases hI with ⟨rfl,rfl,rfl,rfl⟩ | ⟨rfl,rfl,rfl,rfl⟩ | ⟨rfl,rfl,rfl,rfl⟩
 all_goals
  have HR:=ar (show OY k th F log q i c z.made w w from ⟨z,h,Stp.refl _ _,hq,az _⟩)
  have lp:=h.lt;have hi3:(i:Int) < 3:=zO;have HC:=ar hc;clear h hq hc
  first | go_enter Tryz.func196,Tryz.ntmps196 | go_enter Tryz.func172,Tryz.ntmps172 | go_enter Tryz.func145,Tryz.ntmps145
  go_wp2_with fail
  go_loopw [7] (fun _ wr=>OY k th F log q i c z.made w wr) (fun _ wr=>log.length+1 - madeOf k.gp wr)
  case atStart=>exact HR.out
  case round=>
   clear HR lp;obtain ⟨z1,hp,aG,hq,A5⟩:=hrel;have HM0:=ar A5;clear A5;have HM:=ar (dj hp)
   go_wp2_with fail
   (with_reducible refine (jt c ci (fun r _ l'=>eM th k.me F (Sub.stp th z1 (.g1 i c) r) l') hp HC.out (hq.trans (gj _ _ _ _ _ _))).mono ?_)
   rintro e w2 (⟨a,h1,rfl,h3⟩ | ⟨v,rfl,⟨⟨x1,x2⟩,hx,rfl,eB,mP⟩,dB⟩)
   ·exact ⟨rfl,.inl ⟨a,h1,rfl,aG.trans h3⟩⟩
   replace aG:=aG.trans dB;have dN:=(a8.1 hx).1;have KA:=ar (au HM.out dN);clear hp hq dB hx HM dN
   go_wp2_with fail
   (with_reducible refine (ly eB (fu _ _)).mono ?_)
   rintro e w3 ⟨rfl,rfl⟩
   go_upto_region 3 with fail
   have Mg:w3.cell? ⟨k.gp,11,none⟩=some (aa ab k.l.era):=by obtain ⟨gv,e0,e1,e2,kp,-,-⟩:=eB.kp;exact kp.cell 11
   have lp:=eB.lt
   go_wp2_with fail
   replace mP:q=jO th k.me F (.g2 i c x1) z1.got (log.drop z1.got.made):=mP
   (with_reducible refine (jt .era k.l.era (fun r _ l'=>eM th k.me F (Sub.stp th z1.got (.g2 i c x1) r) l') eB rfl (mP.trans (gj _ _ _ _ _ _))).mono ?_)
   rintro e w4 (⟨a,h1,rfl,h3⟩ | ⟨v,rfl,⟨⟨y1,y2⟩,hy,rfl,fT,mJ⟩,lV⟩)
   ·exact ⟨rfl,.inl ⟨a,h1,rfl,aG.trans h3⟩⟩
   replace aG:=aG.trans lV;have HY:=ar hy;clear eB mP lV hy Mg lp;have ce:w4.cell? ⟨k.gp,28+i,none⟩=some (aa ab (z1.got.dO.getD i 0)):=yZ fT hi;have lp:=fT.lt;obtain ⟨ez,hez⟩:∃ x,z1.got.dO.getD i 0=x:=⟨_,rfl⟩;rw [hez] at ce;have HEZ:=ar hez;have hY:=ar mJ;clear hez mJ
   by_cases he:y1=ez
   ·have heb:(y1==ez)=true:=by simp [he]
    have HE:=ar he;clear he
    go_wp2_with fail
    refine aX (v:=.tuple #[aa ab x1,aa ab ((z1.got.made - 1:Nat):Int)]) (by rw [results_tmp2 rfl];rfl) rfl (.inr ⟨_,rfl,⟨x1,z1.got.made - 1,z1.got.got,rfl,fT,?_,by have:=HM0.out;show z.made < z1.made+1+1;omega,by show z1.made+1 - 1 < z1.made+1+1;omega⟩,aG⟩)
    rw [hY.out];show eM th k.me F (if y1=z1.got.dO.getD i 0 then _ else _) _=_
    rw [if_pos (HE.out.trans HEZ.out.symm)];rfl
   ·have heb:(y1==ez)=false:=by simp [he]
    have pq:q=jO th k.me F (.g3 i c y1) z1.got.got (log.drop (z1.got.made+1)):=by
     rw [hY.out];show eM th k.me F (if y1=z1.got.dO.getD i 0 then _ else _) _=_
     rw [if_neg (fun e=>he (e.trans HEZ.out))];rfl
    have gK:=ar pq;clear he pq hY
    go_upto_region 6 with fail
    refine aP (S:=Hd k) (E:=fun _=>false) zK ?_
    replace fT:PcG _ _ _ w4.drew k z1.got.got log:=fT.ay (aU (Below.refl w4.heap.size w4));replace aG:=aG.drew;clear ce lp;generalize w4.drew=w5 at *;refine wTk 11 [(0,31,ptr k.gp),(1,32,ptr k.gp),(2,33,ptr k.gp),(3,34,ptr k.gp),(4,35,lyV k.l),(5,36,ptr k.gp),(6,37,ptr k.gp),(7,38,ae (some ⟨k.gp,25,none⟩)),(8,39,aa ab k.me),(9,40,aa ab (i:Nat)),(11,42,aa ab y1)] ?_ fT.hd ?_
    ·intro w' hS;have Ap:=hS.2;have fg:=hS.lay
     (repeat' (first | exact aC | refine au ⟨_,rfl,.inl ⟨rfl,?_⟩⟩ ?_))
     all_goals first | exact DG rfl rfl hS | ((try simp only [aq,ao,an,Act.put,aj,ak,al]);go_simp;done)
    simp only [aR,Act.put,aj,ak,al];refine aE (i:=10) (o:=_) zK rfl (fun K hK=>?_)
    (try simp only [aq,ao,an])
    go_simp
    (with_reducible refine (CT k.l k.me i w5 fT.f).mono ?_)
    rintro e w6 ⟨rfl,hb⟩;replace fT:=fT.ay hb;replace aG:=aG.trans (.aS _ hb);refine hK.out _ _ (fun _=>fT.hd) ?_
    clear hK K hb
    (try simp only [Act.put,aj,ak,al])
    refine aE (i:=12) (o:=_) zK rfl (fun K hK=>?_)
    (try simp only [aq,ao,an])
    go_simp
    (with_reducible refine (js (.resv k.me i) (yp k.l k.me i) y1 (fun r _ l'=>eM th k.me F (Sub.stp th z1.got.got (.g3 i c y1) r) l') fT rfl (gK.out.trans (gj _ _ _ _ _ _))).mono ?_)
    rintro e w7 (⟨a,h1,rfl,h3⟩ | ⟨v,rfl,⟨⟨t1,t2⟩,ht,rfl,kz,pq⟩,pj⟩)
    ·exact ⟨rfl,.inl ⟨a,h1,rfl,aG.trans h3⟩⟩
    replace aG:=aG.trans pj;have qJ:=(a8.1 ht).1;refine hK.out _ _ (fun _=>kz.hd) ?_
    clear hK K fT pj ht
    (try simp only [Act.put,aj,ak,al])
    refine aN zK ?_ _;have lp:=kz.lt;have fe:=DH kz i;have ce:=yZ kz hi;have mS:=kz.era hi y1;have jP:=aG.trans (Stp.set w7 k.gp (28+i) (aa ab y1));have HR:=ar (show OY k th F log q i c z.made w (w7.setCell ⟨k.gp,28+i,none⟩ (aa ab y1)) from ⟨_,mS,jP,pq,by have:=HM0.out;show z.made<=z1.made+1+1+1;omega⟩)
    have wX:=dj mS;have zU:=ar (show log.length+1 - madeOf k.gp (w7.setCell ⟨k.gp,28+i,none⟩ (aa ab y1)) < log.length+1 - madeOf k.gp wr by
     rw [wX,KA.out.1];show log.length+1 - (z1.made+1+1+1) < log.length+1 - z1.made;have:=KA.out.2;omega)
    clear kz mS aG jP wX qJ pq
    go_wp2_with fail
    go_roundw
    case rel=>exact HR.out
    case measure=>exact zU.out
def KC (k:Pk) (th:Int) (F:Ret->Pz->Log->An β) (log:Log) (q:An β) (es:List Int) (w:World) (v8:Value) (wr:World):Prop:=
 ∃ (j:Nat) (z':Pz),v8=aa ab (j:Nat)/\j<=3/\PcG tp tv fd wr k z' log/\Stp k.gp w wr/\(∀ i,j<=i->z'.dO.getD i 0=es.getD i 0)/\q=eM th k.me F (dK z' j) (log.drop z'.made)
theorem iJ (th:Int) (F:Ret->Pz->Log->An β) (h:PcG tp tv fd w k z log) (hq:q=eM th k.me F (dK z 0) (log.drop z.made)) (hI:(f,tp,tv,fd)∈[(186,211,199,181),(141,174,154,126),(151,186,158,143)]:=by decide):
  Calls aw f #[ptr k.gp] w (im fd k q w fun u w'=>∃ z',u= .tuple #[]/\PcG tp tv fd w' k z' log/\q=F .un z' (log.drop z'.made)):=by
 simp only [bD,Prod.mk.injEq,cB,or_false] at hI;rcases hI with ⟨rfl,rfl,rfl,rfl⟩ | ⟨rfl,rfl,rfl,rfl⟩ | ⟨rfl,rfl,rfl,rfl⟩
 all_goals
  have HR:=ar (show KC k th F log q z.dO w (aa ab 0) w from ⟨0,z,rfl,zO,h,Stp.refl _ _,fun _ _=>rfl,hq⟩)
  have lp:=h.lt;obtain ⟨gv,e0,e1,e2,kp,-,hE⟩:=h.kp;have sN:=kp.cell 28;have qQ:=kp.cell 29;have rC:=kp.cell 30;simp at sN qQ rC;rw [hE] at HR;clear h hq kp hE
  first | go_enter Tryz.func186,Tryz.ntmps186 | go_enter Tryz.func141,Tryz.ntmps141 | go_enter Tryz.func151,Tryz.ntmps151
  go_wp2_with fail
  go_loopw [8] (fun v8 wr=>KC k th F log q [e0,e1,e2] w v8 wr) (fun v8 _=>(4:Nat) - (intOf v8).toNat)
  case atStart=>exact HR.out
  case round=>
   clear HR lp sN qQ rC;obtain ⟨j,z1,rfl,hj,hp,aG,hes,hq⟩:=hrel
   by_cases hj3:j < 3
   ·have hjb:decide ((j:Int) < 3)=true:=by simp;omega
    have hjl:(j:Int) < 3:=zO;obtain ⟨ej,hej⟩:∃ x,z1.dO.getD j 0=x:=⟨_,rfl⟩;have jZ:∀ w',(Instr.index 134 (.agg #[aa ab e0,aa ab e1,aa ab e2]) (aa ab (j:Nat))).run aw w'= .ok (aa ab ej) w':=by
     have h1:=hes j (az _);rw [hej] at h1;have:j=0\/j=1\/j=2:=zO;rcases this with rfl | rfl | rfl <;> (have h2:ej=_:=h1;rw [h2];intro w';kernel_rfl)
    have HJ:=ar hej;have HQ:=ar hq;have HES:=ar hes;clear hq hes hej
    by_cases h0:ej=0
    ·have h0b:(ej != 0)=false:=by simp [h0]
     have mP:=HQ.out.trans (congrArg (fun x=>eM th k.me F x _) (Lx hj3 (HJ.out.trans h0)))
     have HR:=ar (show KC k th F log q [e0,e1,e2] w (aa ab ((j+1:Nat):Int)) wr from ⟨j+1,z1,rfl,zO,hp,aG,fun i hi=>HES.out i zO,mP⟩)
     clear mP hp aG h0
     go_wp2_with fail
     go_roundw
     case rel=>exact HR.out
     case measure=>simp [intOf];omega
    ·have h0b:(ej != 0)=true:=by simp [h0]
     go_upto_region 4 with fail
     have mP:=HQ.out.trans (congrArg (fun x=>eM th k.me F x _) (Ou hj3 (by rw [HJ.out];exact h0)))
     have fR:=ar (show q=jO th k.me F (.cl j) z1 (log.drop z1.made) from mP)
     clear mP h0;refine aP (S:=Hd k) (E:=fun _=>false) zK ?_
     replace hp:PcG _ _ _ wr.drew k z1 log:=hp.ay (aU (Below.refl wr.heap.size wr));replace aG:=aG.drew;generalize wr.drew=w5 at *;refine wTk 10 [(0,14,ptr k.gp),(1,15,ptr k.gp),(2,16,ptr k.gp),(3,17,ptr k.gp),(4,18,lyV k.l),(5,19,ptr k.gp),(6,20,ptr k.gp),(7,21,ae (some ⟨k.gp,25,none⟩)),(8,22,aa ab k.me),(9,23,aa ab (j:Nat))] ?_ hp.hd ?_
     ·intro w' hS;have Ap:=hS.2
      (repeat' (first | exact aC | refine au ⟨_,rfl,.inl ⟨rfl,?_⟩⟩ ?_))
      all_goals first | exact DG rfl rfl hS | ((try simp only [aq,ao,an,Act.put,aj,ak,al]);go_simp;done)
     simp only [aR,Act.put,aj,ak,al];refine aE (i:=10) (o:=_) zK rfl (fun K hK=>?_)
     (try simp only [aq,ao,an])
     go_simp
     (with_reducible refine (CT k.l k.me j w5 hp.f).mono ?_)
     rintro e w6 ⟨rfl,hb⟩;replace hp:=hp.ay hb;replace aG:=aG.trans (.aS _ hb);refine hK.out _ _ (fun _=>hp.hd) ?_
     clear hK K hb
     (try simp only [Act.put,aj,ak,al])
     refine aE (i:=11) (o:=_) zK rfl (fun K hK=>?_)
     (try simp only [aq,ao,an])
     go_simp
     (with_reducible refine (js (.resv k.me j) (yp k.l k.me j) 0 (fun r _ l'=>eM th k.me F (Sub.stp th z1 (.cl j) r) l') hp rfl (fR.out.trans (gj _ _ _ _ _ _))).mono ?_)
     rintro e w7 (⟨a,h1,rfl,h3⟩ | ⟨v,rfl,⟨⟨t1,t2⟩,ht,rfl,kz,pq⟩,pj⟩)
     ·exact ⟨rfl,.inl ⟨a,h1,rfl,aG.trans h3⟩⟩
     replace aG:=aG.trans pj;refine hK.out _ _ (fun _=>kz.hd) ?_
     clear hK K hp pj ht
     (try simp only [Act.put,aj,ak,al])
     refine aN zK ?_ _;have lp:=kz.lt;have fe:=DH kz j;have ce:=yZ kz hj3;have mS:=kz.era hj3 0;have jP:=aG.trans (Stp.set w7 k.gp (28+j) (aa ab 0));have HR:=ar (show KC k th F log q [e0,e1,e2] w (aa ab ((j+1:Nat):Int)) (w7.setCell ⟨k.gp,28+j,none⟩ (aa ab 0)) from ⟨j+1,_,rfl,zO,mS,jP,fun i hi=>by
      rw [<- HES.out i zO];show (z1.dO.set j 0).getD i 0=z1.dO.getD i 0;simp only [List.getD,List.getElem?_set];rw [if_neg zO],pq⟩)
     clear kz mS aG jP pq
     go_wp2_with fail
     go_roundw
     case rel=>exact HR.out
     case measure=>simp [intOf];omega
   ·have hjb:decide ((j:Int) < 3)=false:=by simp;omega
    have hj4:j=3:=zO;have HE:=ar (au hp (au aG (show q=F .un z1 (log.drop z1.made) by rw [hq,hj4];rfl)))
    clear hp aG hq hes hj4 hj3
    go_wp2_with fail
    exact aX (v:=.tuple #[]) (dY rfl _ _ _) rfl (.inr ⟨_,rfl,⟨z1,rfl,HE.out.1,HE.out.2.2⟩,HE.out.2.1⟩)
end
end Go.Proofs.YtikdaeddbkopeaaGreatR
namespace Go.Proofs.YtikdaeddbkopeaaGreatR
open Go.RowKit
set_option maxRecDepth 100000
attribute [local go_sem ↓] aV aW
variable {f tp tv fd:Nat}
section
variable {β:Type} {w:World} {k:Pk} {z:Pz} {log:Log} {q:An β}
def vM (k:Pk) (th:Int) (F:Ret->Pz->Log->An β) (log:Log) (q:An β) (x:Sub) (m0:Nat) (w wr:World):Prop:=
 ∃ z',PcG tp tv fd wr k z' log/\Stp k.gp w wr/\q=jO th k.me F x z' (log.drop z'.made)/\m0<=z'.made
theorem MY (th:Int) (F:Ret->Pz->Log->An β) (h:PcG tp tv fd w k z log) (hq:q=jO th k.me F .t1 z (log.drop z.made)) (hI:(f,tp,tv,fd)∈[(188,211,199,181),(129,174,154,126),(153,186,158,143)]:=by decide):
  Calls aw f #[ptr k.gp] w (im fd k q w fun u w'=>∃ n p ok z',u= .tuple #[aa ab n,aa ab (p:Nat),.bool ok]/\PcG tp tv fd w' k z' log/\q=F (.tk n p ok) z' (log.drop z'.made)/\0<=n/\n < 65536/\z.made<=z'.made):=by
 simp only [bD,Prod.mk.injEq,cB,or_false] at hI;rcases hI with ⟨rfl,rfl,rfl,rfl⟩ | ⟨rfl,rfl,rfl,rfl⟩ | ⟨rfl,rfl,rfl,rfl⟩
 all_goals
  have HR:=ar (show vM k th F log q .t1 z.made w w from ⟨z,h,Stp.refl _ _,hq,az _⟩)
  have lp:=h.lt;clear h hq
  first | go_enter Tryz.func188,Tryz.ntmps188 | go_enter Tryz.func129,Tryz.ntmps129 | go_enter Tryz.func153,Tryz.ntmps153
  go_wp2_with fail
  go_loopw [3] (fun _ wr=>vM k th F log q .t1 z.made w wr) (fun _ wr=>log.length+1 - madeOf k.gp wr)
  case atStart=>exact HR.out
  case round=>
   clear HR lp;obtain ⟨z1,hp,aG,hq,A5⟩:=hrel;have HM0:=ar A5;clear A5;have HM:=ar (dj hp);have Cu:=hp.hd.at_ 12 _ rfl;have lp:=hp.lt
   go_wp2_with fail
   (with_reducible refine (jt .free k.l.free (fun r _ l'=>eM th k.me F (Sub.stp th z1 .t1 r) l') hp rfl (hq.trans (gj _ _ _ _ _ _))).mono ?_)
   rintro e w2 (⟨a,h1,rfl,h3⟩ | ⟨v,rfl,⟨⟨x1,x2⟩,hx,rfl,eB,mP⟩,dB⟩)
   ·exact ⟨rfl,.inl ⟨a,h1,rfl,aG.trans h3⟩⟩
   replace aG:=aG.trans dB;have KA:=ar (au HM.out (a8.1 hx).1);have fR:=ar mP;clear hp hq dB hx HM mP Cu lp
   go_upto_region 2 with fail
   go_wp2_with fail
   (with_reducible refine (gV x1 _).mono ?_)
   rintro e w3 ⟨rfl,hb⟩;replace eB:=eB.ay hb;replace aG:=aG.trans (Stp.aS _ hb);clear hb;obtain ⟨ix,jZ⟩:∃ z,x1 % 65536=z:=⟨_,rfl⟩;obtain ⟨mk,mU⟩:∃ b,(x1 / 65536 % 2==1)=b:=⟨_,rfl⟩;obtain ⟨ct,xb⟩:∃ z,x1 / 131072 % 268435456=z:=⟨_,rfl⟩;have L8:0<=ix/\ix < 65536:=zO;rw [jZ,mU,xb];have lj:=ar (au jZ xb);clear jZ mU xb
   go_upto_region 3 with fail
   have kr:=Bk.made w3 81 #[aa ab ix,.bool mk,aa ab ct];have zg3:=eB.lt;replace eB:=eB.ay (aB (Below.refl _ _) (ag #[aa ab ix,.bool mk,aa ab ct] 81));replace aG:=aG.alloc (ag #[aa ab ix,.bool mk,aa ab ct] 81);generalize w3.alloc (ag #[aa ab ix,.bool mk,aa ab ct] 81)=w4 at *;generalize w3.heap.size=gr at *;have dF:gr≠k.gp:=zO;have r0:=kr.cell 0;have lr:=kr.lt;simp at r0
   by_cases hz:ix=0
   ·have jG:idxOf x1=0:=lj.out.1.trans hz;have mJ:q=F (.tk 0 z1.made false) z1.got (log.drop z1.got.made):=by
     rw [fR.out];show eM th k.me F (if idxOf x1=0 then _ else _) _=_
     rw [if_pos jG];rfl
    have hY:=ar mJ;have sZ:(ix==0)=true:=by simp [hz]
    clear mJ hz jG
    go_upto_region 4 with fail
    go_wp2_with fail
    (with_reducible refine (ly eB (fu _ _)).mono ?_)
    rintro e w5 ⟨rfl,rfl⟩;have mV:((z1.got.made - 1:Nat):Int)=(z1.made:Nat):=by show ((z1.made+1 - 1:Nat):Int)=_;rw [Nat.add_sub_cancel]
    rw [mV]
    go_wp2_with fail
    exact aX (v:=.tuple #[aa ab 0,aa ab (z1.made:Nat),ah false]) (by rw [results_tmp3 rfl];rfl) rfl (.inr ⟨_,rfl,⟨0,z1.made,false,z1.got,rfl,eB,hY.out,zO,zO,by have:=HM0.out;show z.made<=z1.made+1;omega⟩,aG⟩)
   ·have jG:idxOf x1≠0:=fun e=>hz (lj.out.1.symm.trans e)
    have mJ:q=jO th k.me F (.t2 x1) z1.got (log.drop z1.got.made):=by
     rw [fR.out];show eM th k.me F (if idxOf x1=0 then _ else _) _=_
     rw [if_neg jG];rfl
    have hY:=ar mJ;have sZ:(ix==0)=false:=by simp [hz]
    clear mJ hz jG fR
    go_upto_region 5 with fail
    go_wp2_with fail
    (with_reducible refine (gY ix 7 eB zO).mono ?_)
    rintro e w5 ⟨rfl,hb⟩;replace eB:=eB.ay hb;replace kr:=kr.ay hb;replace aG:=aG.trans (Stp.aS _ hb);clear hb r0 lr
    go_wp2_with fail
    (with_reducible refine (jt (.nd (idxOf x1) 7) (nodeAt k.l ix 7) (fun r _ l'=>eM th k.me F (Sub.stp th z1.got (.t2 x1) r) l') eB (by rw [<- lj.out.1];simp only [adr,idxOf]) (hY.out.trans (gj _ _ _ _ _ _))).mono ?_)
    rintro e w6 (⟨a,h1,rfl,h3⟩ | ⟨v,rfl,⟨⟨y1,y2⟩,hy,rfl,fT,pq⟩,lV⟩)
    ·exact ⟨rfl,.inl ⟨a,h1,rfl,aG.trans h3⟩⟩
    replace aG:=aG.trans lV;replace kr:=lV.ay kr dF;have gK:=ar (show q=jO th k.me F (.t3 x1 y1) z1.got.got (log.drop z1.got.got.made) from pq)
    clear eB lV hy pq hY
    go_upto_region 6 with fail
    refine aP (S:=fun w'=>Hd k w'/\Bk w' gr 81 #[aa ab ix,.bool mk,aa ab ct]) (E:=fun _=>false) zK ?_
    replace fT:PcG _ _ _ w6.drew k z1.got.got log:=fT.ay (aU (Below.refl w6.heap.size w6));replace aG:=aG.drew;replace kr:=kr.drew;generalize w6.drew=w7 at *;refine wTk 9 [(0,29,ptr k.gp),(1,30,ptr k.gp),(2,31,ptr k.gp),(3,32,ptr k.gp),(4,33,ae (some ⟨k.gp,12,none⟩)),(5,34,aa ab k.l.free),(6,35,aa ab x1),(7,36,oL ix mk ct),(8,37,aa ab y1)] ?_ ⟨fT.hd,kr⟩ ?_
    ·intro w' hS;have Cu:=hS.1.at_ 12 _ rfl;have r0:=hS.2.cell 0;have r1:=hS.2.cell 1;have r2:=hS.2.cell 2;simp at r0 r1 r2
     (repeat' (first | exact aC | refine au ⟨_,rfl,.inl ⟨rfl,?_⟩⟩ ?_))
     all_goals exact zG
    simp only [aR,Act.put,aj,ak,al];refine aE (i:=9) (o:=_) zK rfl (fun K hK=>?_)
    (try simp only [aq,ao,an])
    go_simp
    (with_reducible refine (lZ ix mk ct y1 w7).mono ?_)
    rintro e w8 ⟨rfl,hb⟩;replace fT:=fT.ay hb;replace kr:=kr.ay hb;replace aG:=aG.trans (Stp.aS _ hb);refine hK.out _ _ (fun _=>⟨fT.hd,kr⟩) ?_
    clear hK K hb
    (try simp only [Act.put,aj,ak,al])
    refine aE (i:=10) (o:=_) zK rfl (fun K hK=>?_)
    (try simp only [aq,ao,an])
    go_simp
    (with_reducible refine (iy (y1 % 65536) false ((ct+1) % 268435456) w8).mono ?_)
    rintro e w9 ⟨rfl,hb⟩;replace fT:=fT.ay hb;replace kr:=kr.ay hb;replace aG:=aG.trans (Stp.aS _ hb);have AX:dS (y1 % 65536) false ((ct+1) % 268435456)=ed x1 y1:=by unfold ed mM;rw [lj.out.2]
    rw [AX];refine hK.out _ _ (fun _=>⟨fT.hd,kr⟩) ?_
    clear hK K hb AX
    (try simp only [Act.put,aj,ak,al])
    refine aE (i:=11) (o:=_) zK rfl (fun K hK=>?_)
    (try simp only [aq,ao,an])
    go_simp
    (with_reducible refine (pX .free k.l.free x1 (ed x1 y1) (fun r _ l'=>eM th k.me F (Sub.stp th z1.got.got (.t3 x1 y1) r) l') fT rfl (gK.out.trans (gj _ _ _ _ _ _))).mono ?_)
    rintro e xo (⟨a,h1,rfl,h3⟩ | ⟨v,rfl,⟨⟨t1,t2⟩,ht,rfl,kz,Dq⟩,pj⟩)
    ·exact ⟨rfl,.inl ⟨a,h1,rfl,aG.trans h3⟩⟩
    replace aG:=aG.trans pj;replace kr:=pj.ay kr dF;have HT:=ar ht;have oh:=ar Dq;refine hK.out _ _ (fun _=>⟨kz.hd,kr⟩) ?_
    clear hK K fT pj ht Dq gK
    (try simp only [Act.put,aj,ak,al])
    refine aN zK ?_ _
    cases t2 with
    | false=>
     have HR:=ar (show vM k th F log q .t1 z.made w xo from ⟨_,kz,aG,oh.out,by have:=HM0.out;show z.made<=z1.made+1+1+1;omega⟩)
     have wX:=dj kz;have zU:=ar (show log.length+1 - madeOf k.gp xo < log.length+1 - madeOf k.gp wr by
      rw [wX,KA.out.1];show log.length+1 - (z1.made+1+1+1) < log.length+1 - z1.made;have:=KA.out.2;omega)
     clear kz aG kr wX oh
     go_wp2_with fail
     go_roundw
     case rel=>exact HR.out
     case measure=>exact zU.out
    | true=>
     go_upto_region 7 with fail
     go_wp2_with fail
     (with_reducible refine (ly kz (fu _ _)).mono ?_)
     rintro e tZ ⟨rfl,rfl⟩;have mV:((z1.got.got.got.made - 1:Nat):Int)=(z1.got.got.made:Nat):=by show ((z1.got.got.made+1 - 1:Nat):Int)=_;rw [Nat.add_sub_cancel]
     rw [mV];have Mg:=kz.hd.at_ 11 _ rfl;have lp:=kz.lt;have qF:=ar (show q=jO th k.me F (.t4 (idxOf x1) z1.got.got.made) z1.got.got.got (log.drop z1.got.got.got.made) from oh.out)
     clear oh
     go_upto_region 8 with fail
     go_wp2_with fail
     (with_reducible refine (jt .era k.l.era (fun r _ l'=>eM th k.me F (Sub.stp th z1.got.got.got (.t4 (idxOf x1) z1.got.got.made) r) l') kz rfl (qF.out.trans (gj _ _ _ _ _ _))).mono ?_)
     rintro e CC (⟨a,h1,rfl,h3⟩ | ⟨v,rfl,⟨⟨b1,b2⟩,ey,rfl,mS,NV⟩,Ai⟩)
     ·exact ⟨rfl,.inl ⟨a,h1,rfl,aG.trans h3⟩⟩
     replace aG:=aG.trans Ai;replace kr:=Ai.ay kr dF;have tV:=ar (show q=jO th k.me F (.t5 (idxOf x1) b1 z1.got.got.made) z1.got.got.got.got (log.drop z1.got.got.got.got.made) from NV)
     clear kz Ai ey NV qF Mg lp;have r0:=kr.cell 0;have lr:=kr.lt;simp at r0
     go_upto_region 9 with fail
     go_wp2_with fail
     (with_reducible refine (gY ix 6 mS zO).mono ?_)
     rintro e w13 ⟨rfl,hb⟩;replace mS:=mS.ay hb;replace kr:=kr.ay hb;replace aG:=aG.trans (Stp.aS _ hb);clear hb r0 lr
     go_wp2_with fail
     (with_reducible refine (js (.nd (idxOf x1) 6) (nodeAt k.l ix 6) b1 (fun r _ l'=>eM th k.me F (Sub.stp th z1.got.got.got.got (.t5 (idxOf x1) b1 z1.got.got.made) r) l') mS (by rw [<- lj.out.1];simp only [adr,idxOf]) (tV.out.trans (gj _ _ _ _ _ _))).mono ?_)
     rintro e w14 (⟨a,h1,rfl,h3⟩ | ⟨v,rfl,⟨⟨b3,b4⟩,ey,rfl,Le,hq8⟩,Dn⟩)
     ·exact ⟨rfl,.inl ⟨a,h1,rfl,aG.trans h3⟩⟩
     replace aG:=aG.trans Dn;replace kr:=Dn.ay kr dF;have Cv:=ar (show q=F (.tk (idxOf x1) z1.got.got.made true) _ (log.drop _) from hq8)
     have jZ:idxOf x1=ix:=lj.out.1;rw [jZ] at Cv;clear mS Dn ey hq8 tV jZ;have r0:=kr.cell 0;have lr:=kr.lt;simp at r0
     go_wp2_with fail
     exact aX (v:=.tuple #[aa ab ix,aa ab (z1.got.got.made:Nat),ah true]) (by rw [results_tmp3 rfl];rfl) rfl (.inr ⟨_,rfl,⟨ix,z1.got.got.made,true,_,rfl,Le,Cv.out,L8.1,L8.2,by have:=HM0.out;show z.made<=z1.made+1+1+1+1+1;omega⟩,aG⟩)
theorem M0 (th:Int) (n:Int) (F:Ret->Pz->Log->An β) (h:PcG tp tv fd w k z log) (hn:n<=9223372036854775807) (hq:q=jO th k.me F (.v1 n) z (log.drop z.made)) (hI:(f,tp,tv,fd)∈[(187,211,199,181),(139,174,154,126),(150,186,158,143)]:=by decide):
  Calls aw f #[ptr k.gp,aa ab n] w (im fd k q w fun u w'=>∃ z',u= .tuple #[]/\PcG tp tv fd w' k z' log/\q=F .un z' (log.drop z'.made)/\z.made<=z'.made):=by
 simp only [bD,Prod.mk.injEq,cB,or_false] at hI;rcases hI with ⟨rfl,rfl,rfl,rfl⟩ | ⟨rfl,rfl,rfl,rfl⟩ | ⟨rfl,rfl,rfl,rfl⟩
 all_goals
  have HR:=ar (show vM k th F log q (.v1 n) z.made w w from ⟨z,h,Stp.refl _ _,hq,az _⟩)
  have lp:=h.lt;clear h hq
  first | go_enter Tryz.func187,Tryz.ntmps187 | go_enter Tryz.func139,Tryz.ntmps139 | go_enter Tryz.func150,Tryz.ntmps150
  go_wp2_with fail
  go_loopw [4] (fun _ wr=>vM k th F log q (.v1 n) z.made w wr) (fun _ wr=>log.length+1 - madeOf k.gp wr)
  case atStart=>exact HR.out
  case round=>
   clear HR lp;obtain ⟨z1,hp,aG,hq,A5⟩:=hrel;have HM0:=ar A5;clear A5;have HM:=ar (dj hp);have Cu:=hp.hd.at_ 12 _ rfl;have lp:=hp.lt
   go_wp2_with fail
   (with_reducible refine (jt .free k.l.free (fun r _ l'=>eM th k.me F (Sub.stp th z1 (.v1 n) r) l') hp rfl (hq.trans (gj _ _ _ _ _ _))).mono ?_)
   rintro e w2 (⟨a,h1,rfl,h3⟩ | ⟨v,rfl,⟨⟨x1,x2⟩,hx,rfl,eB,mP⟩,dB⟩)
   ·exact ⟨rfl,.inl ⟨a,h1,rfl,aG.trans h3⟩⟩
   replace aG:=aG.trans dB;have KA:=ar (au HM.out (a8.1 hx).1);have fR:=ar (show q=jO th k.me F (.v2 n x1) z1.got (log.drop z1.got.made) from mP)
   clear hp hq dB hx HM mP Cu lp
   go_upto_region 1 with fail
   go_wp2_with fail
   (with_reducible refine (gV x1 _).mono ?_)
   rintro e w3 ⟨rfl,hb⟩;replace eB:=eB.ay hb;replace aG:=aG.trans (Stp.aS _ hb);clear hb;obtain ⟨ix,jZ⟩:∃ z,x1 % 65536=z:=⟨_,rfl⟩;obtain ⟨mk,mU⟩:∃ b,(x1 / 65536 % 2==1)=b:=⟨_,rfl⟩;obtain ⟨ct,xb⟩:∃ z,x1 / 131072 % 268435456=z:=⟨_,rfl⟩;rw [jZ,mU,xb];have lj:=ar (au jZ xb);clear jZ mU xb
   go_upto_region 2 with fail
   have kr:=Bk.made w3 81 #[aa ab ix,.bool mk,aa ab ct];have zg3:=eB.lt;replace eB:=eB.ay (aB (Below.refl _ _) (ag #[aa ab ix,.bool mk,aa ab ct] 81));replace aG:=aG.alloc (ag #[aa ab ix,.bool mk,aa ab ct] 81);generalize w3.alloc (ag #[aa ab ix,.bool mk,aa ab ct] 81)=w4 at *;generalize w3.heap.size=gr at *;have dF:gr≠k.gp:=zO;refine aP (S:=fun w'=>Hd k w'/\Bk w' gr 81 #[aa ab ix,.bool mk,aa ab ct]) (E:=fun _=>false) zK ?_
   replace eB:PcG _ _ _ w4.drew k z1.got log:=eB.ay (aU (Below.refl w4.heap.size w4));replace aG:=aG.drew;replace kr:=kr.drew;generalize w4.drew=w5 at *;refine wTk 5 [(0,15,ptr k.gp),(1,16,ptr k.gp),(2,17,aa ab n),(4,19,ae (some ⟨gr,0,none⟩)),(5,20,aa ab ix)] ?_ ⟨eB.hd,kr⟩ ?_
   ·intro w' hS;have r0:=hS.2.cell 0;simp at r0
    (repeat' (first | exact aC | refine au ⟨_,rfl,.inl ⟨rfl,?_⟩⟩ ?_))
    all_goals exact zG
   simp only [aR,Act.put,aj,ak,al];refine aE (i:=3) (o:=_) zK rfl (fun K hK=>?_)
   (try simp only [aq,ao,an])
   go_simp
   (with_reducible refine (gY n 7 eB hn).mono ?_)
   rintro e w6 ⟨rfl,hb⟩;replace eB:=eB.ay hb;replace kr:=kr.ay hb;replace aG:=aG.trans (Stp.aS _ hb);refine hK.out _ _ (fun _=>⟨eB.hd,kr⟩) ?_
   clear hK K hb
   (try simp only [Act.put,aj,ak,al])
   refine aE (i:=6) (o:=_) zK rfl (fun K hK=>?_)
   (try simp only [aq,ao,an])
   go_simp;have hdo:=fR.out.trans (gj _ _ _ _ _ _);rw [show (Sub.v2 n x1).acc k.me=⟨2,.nd n 7,0,ix⟩ from by rw [<- lj.out.1];rfl] at hdo
   have HDO:=ar hdo;clear hdo
   (with_reducible refine (js (.nd n 7) (nodeAt k.l n 7) ix (fun r _ l'=>eM th k.me F (Sub.stp th z1.got (.v2 n x1) r) l') eB rfl HDO.out).mono ?_)
   rintro e w7 (⟨a,h1,rfl,h3⟩ | ⟨v,rfl,⟨⟨t1,t2⟩,ht,rfl,fT,mJ⟩,lV⟩)
   ·exact ⟨rfl,.inl ⟨a,h1,rfl,aG.trans h3⟩⟩
   replace aG:=aG.trans lV;replace kr:=lV.ay kr dF;have hY:=ar (show q=jO th k.me F (.v3 n x1) z1.got.got (log.drop z1.got.got.made) from mJ)
   refine hK.out _ _ (fun _=>⟨fT.hd,kr⟩) ?_
   clear hK K eB lV ht mJ fR
   (try simp only [Act.put,aj,ak,al])
   refine aN zK ?_ _
   go_upto_region 3 with fail
   refine aP (S:=fun w'=>Hd k w'/\Bk w' gr 81 #[aa ab ix,.bool mk,aa ab ct]) (E:=fun _=>false) zK ?_
   replace fT:PcG _ _ _ w7.drew k z1.got.got log:=fT.ay (aU (Below.refl w7.heap.size w7));replace aG:=aG.drew;replace kr:=kr.drew;generalize w7.drew=w8 at *;refine wTk 9 [(0,22,ptr k.gp),(1,23,ptr k.gp),(2,24,ptr k.gp),(3,25,ptr k.gp),(4,26,ae (some ⟨k.gp,12,none⟩)),(5,27,aa ab k.l.free),(6,28,aa ab x1),(7,29,oL ix mk ct),(8,30,aa ab n)] ?_ ⟨fT.hd,kr⟩ ?_
   ·intro w' hS;have Cu:=hS.1.at_ 12 _ rfl;have r0:=hS.2.cell 0;have r1:=hS.2.cell 1;have r2:=hS.2.cell 2;simp at r0 r1 r2
    (repeat' (first | exact aC | refine au ⟨_,rfl,.inl ⟨rfl,?_⟩⟩ ?_))
    all_goals exact zG
   simp only [aR,Act.put,aj,ak,al];refine aE (i:=9) (o:=_) zK rfl (fun K hK=>?_)
   (try simp only [aq,ao,an])
   go_simp
   (with_reducible refine (lZ ix mk ct n w8).mono ?_)
   rintro e w9 ⟨rfl,hb⟩;replace fT:=fT.ay hb;replace kr:=kr.ay hb;replace aG:=aG.trans (Stp.aS _ hb);refine hK.out _ _ (fun _=>⟨fT.hd,kr⟩) ?_
   clear hK K hb
   (try simp only [Act.put,aj,ak,al])
   refine aE (i:=10) (o:=_) zK rfl (fun K hK=>?_)
   (try simp only [aq,ao,an])
   go_simp
   (with_reducible refine (iy (n % 65536) false ((ct+1) % 268435456) w9).mono ?_)
   rintro e xo ⟨rfl,hb⟩;replace fT:=fT.ay hb;replace kr:=kr.ay hb;replace aG:=aG.trans (Stp.aS _ hb);have AX:dS (n % 65536) false ((ct+1) % 268435456)=ed x1 n:=by unfold ed mM;rw [lj.out.2]
   rw [AX];refine hK.out _ _ (fun _=>⟨fT.hd,kr⟩) ?_
   clear hK K hb AX
   (try simp only [Act.put,aj,ak,al])
   refine aE (i:=11) (o:=_) zK rfl (fun K hK=>?_)
   (try simp only [aq,ao,an])
   go_simp
   (with_reducible refine (pX .free k.l.free x1 (ed x1 n) (fun r _ l'=>eM th k.me F (Sub.stp th z1.got.got (.v3 n x1) r) l') fT rfl (hY.out.trans (gj _ _ _ _ _ _))).mono ?_)
   rintro e tZ (⟨a,h1,rfl,h3⟩ | ⟨v,rfl,⟨⟨t1,t2⟩,ht,rfl,kz,Dq⟩,pj⟩)
   ·exact ⟨rfl,.inl ⟨a,h1,rfl,aG.trans h3⟩⟩
   replace aG:=aG.trans pj;replace kr:=pj.ay kr dF;have oh:=ar Dq;refine hK.out _ _ (fun _=>⟨kz.hd,kr⟩) ?_
   clear hK K fT pj ht Dq hY
   (try simp only [Act.put,aj,ak,al])
   refine aN zK ?_ _
   cases t2 with
   | false=>
    have HR:=ar (show vM k th F log q (.v1 n) z.made w tZ from ⟨_,kz,aG,oh.out,by have:=HM0.out;show z.made<=z1.made+1+1+1;omega⟩)
    have wX:=dj kz;have zU:=ar (show log.length+1 - madeOf k.gp tZ < log.length+1 - madeOf k.gp wr by
     rw [wX,KA.out.1];show log.length+1 - (z1.made+1+1+1) < log.length+1 - z1.made;have:=KA.out.2;omega)
    clear kz aG kr wX oh
    go_wp2_with fail
    go_roundw
    case rel=>exact HR.out
    case measure=>exact zU.out
   | true=>
    go_wp2_with fail
    exact aX (v:=.tuple #[]) (dY rfl _ _ _) rfl (.inr ⟨_,rfl,⟨_,rfl,kz,oh.out,by have:=HM0.out;show z.made<=z1.made+1+1+1;omega⟩,aG⟩)
end
section
variable {w:World} {k:Pk} {z:Pz} {log:Log}
theorem Hd.fn (h:PcG tp tv fd w k z log):w.cell? ⟨k.gp,31,none⟩=some (doG fd k):=by
 obtain ⟨gv,e0,e1,e2,kp,-,-⟩:=h.kp;exact kp.cell 31
theorem PcG.BU (h:PcG tp tv fd w k z log) {v:Value} {g:cG} (hv:GnV w k.gp v g):PcG tp tv fd (w.setCell ⟨k.gp,26,none⟩ v) k { z with gone:=g } log:=by
 refine h.step (Stp.set w k.gp 26 _) ?_ h.mle;obtain ⟨gv,e0,e1,e2,kp,hG,hE⟩:=h.kp;exact ⟨v,e0,e1,e2,kp.stored 26 v,hv.stp (Stp.set w k.gp 26 v),hE⟩
theorem nC (h:PcG tp tv fd w k z log):∃ v,w.cell? ⟨k.gp,26,none⟩=some v/\GnV w k.gp v z.gone/\w.frozen? ⟨k.gp,26,none⟩=false:=by
 obtain ⟨gv,e0,e1,e2,kp,hG,hE⟩:=h.kp;exact ⟨gv,kp.cell 26,hG,kp.free 26⟩
end
def Kx {β:Type} (fd:Nat) (k:Pk) (bm:Nat) (q:An β) (w:World) (R:Value->World->Prop) (e:lb) (w':World):Prop:=
 (∃ a,q= .ask a/\e= .panicked [{ v:=D3 fd k.l a,recovered:=false }]/\cL k.gp bm w w')\/(∃ v,e= .returned v/\R v w'/\cL k.gp bm w w')
theorem im.two {β:Type} {fd:Nat} {k:Pk} {bm:Nat} {q:An β} {w:World} {R:Value->World->Prop} {e:lb} {w':World} (h:im fd k q w R e w'):Kx fd k bm q w R e w':=by
 rcases h with ⟨a,h1,h2,h3⟩ | ⟨v,h1,h2,h3⟩
 ·exact .inl ⟨a,h1,h2,h3.two⟩
 ·exact .inr ⟨v,h1,h2,h3.two⟩
theorem PcG.row {tp tv fd:Nat} {k:Pk} {z:Pz} {log:Log} {w:World} {gb:Nat} {t:bR} {cs:Array Value} (h:PcG tp tv fd w k z log) (kb:Bk w gb t cs) (hb:k.B<=gb) (hn:tp≠t/\tv≠t/\43≠t/\52≠t) (r:Array Value):PcG tp tv fd (w.setRow gb r) k z log:=by
 obtain ⟨gv,e0,e1,e2,kp,hg,he⟩:=h.kp;refine ⟨⟨gv,e0,e1,e2,kp.a7 (kp.typ kb hn.1) r,hg.row kb hn.2.2.2 r,he⟩,h.kv.a7 (h.kv.typ kb hn.2.1) r,h.kl.a7 (h.kl.typ kb hn.2.2.1) r,?_,h.ne,h.bp,h.le,h.mle,h.f⟩;intro hl;obtain ⟨b,o,e,ey,hc⟩:=h.sl hl;exact ⟨b,o,e,ey,fun j a ha=>⟨(mN w gb b _ _ zO).trans (hc j a ha).1,(mN w gb b _ _ zO).trans (hc j a ha).2⟩⟩
theorem PcG.dR {tp tv fd:Nat} {k:Pk} {z:Pz} {log:Log} {w:World} {gb:Nat} {cs:Array Value} (h:PcG tp tv fd w k z log) (kb:Bk w gb 70 cs) (hb:k.gp<=gb) (r:Array Value) (ho:tp≠70/\tv≠70/\43≠70/\52≠70:=by decide):PcG tp tv fd (w.setRow gb r) k z log:=
 h.row kb (aQ h.bp hb) ho r
theorem PcG.rB {tp tv fd:Nat} {k:Pk} {z:Pz} {log:Log} {w:World} {gb:Nat} {t:bR} {cs:Array Value} (h:PcG tp tv fd w k z log) (kb:Bk w gb t cs) (hb:k.B<=gb) (hn:tp≠t/\tv≠t/\43≠t/\52≠t) (i:Nat) (v:Value):PcG tp tv fd (w.setCell ⟨gb,i,none⟩ v) k z log:=by
 obtain ⟨gv,e0,e1,e2,kp,hg,he⟩:=h.kp;have A3:k.gp≠gb:=Bk.typ kp kb hn.1;refine ⟨⟨gv,e0,e1,e2,kp.other (p:=⟨gb,i,none⟩) A3 v,?_,he⟩,h.kv.other (p:=⟨gb,i,none⟩) (h.kv.typ kb hn.2.1) v,h.kl.other (p:=⟨gb,i,none⟩) (h.kl.typ kb hn.2.2.1) v,?_,h.ne,h.bp,h.le,h.mle,h.f⟩
 ·obtain ⟨G,n,c,q1,q2,q3,q4⟩:=hg;refine ⟨G,n,c,q1,q2,q3,fun hl=>?_⟩
  obtain ⟨x,o,ds,r1,r2,r3,r4⟩:=q4 hl;have hx:x≠gb:=r2.typ kb hn.2.2.2;exact ⟨x,o,ds,r1,r2.other (p:=⟨gb,i,none⟩) hx v,r3,fun j y hy=>⟨(jV w ⟨gb,i,none⟩ x _ _ hx).trans (r4 j y hy).1,(jV w ⟨gb,i,none⟩ x _ _ hx).trans (r4 j y hy).2⟩⟩
 ·intro hl;obtain ⟨b,o,e,ey,hc⟩:=h.sl hl;exact ⟨b,o,e,ey,fun j a ha=>⟨(jV w ⟨gb,i,none⟩ b _ _ (by dsimp only;omega)).trans (hc j a ha).1,(jV w ⟨gb,i,none⟩ b _ _ (by dsimp only;omega)).trans (hc j a ha).2⟩⟩
end Go.Proofs.YtikdaeddbkopeaaGreatR
namespace Go.Proofs.YtikdaeddbkopeaaGreatR.list
open Go.RowKit
attribute [local go_sem ↓] aV aW
abbrev doV:=doG 181
abbrev df:=PcG 211 199 181
abbrev np:=D3 181
abbrev ki {β:Type}:=@im β 181
abbrev ji {β:Type}:=@Kx β 181
section
variable {β:Type} {w:World} {k:Pk} {z:Pz} {log:Log} {q:An β}
theorem uh (n:Int) (F:Ret->Pz->Log->An β) (h:df w k z log) (hs:1<=k.l.c.aM/\k.l.c.aM<=8) (hq:q=jO (2 * k.l.c.aM) k.me F (.r1 n) z (log.drop z.made)) (gq:q≠ .stuck):
  Calls aw 194 #[ptr k.gp,aa ab n] w (ki k q w fun u w'=>∃ z',u= .tuple #[]/\df w' k z' log/\q=F .un z' (log.drop z'.made)/\z.made<=z'.made):=by
 have lp:=h.lt;have Mg:=h.hd.at_ 11 _ rfl;have HN:=ar gq;clear gq;go_enter Tryz.func194,Tryz.ntmps194
 go_wp2_with fail
 (with_reducible refine (jt .era k.l.era (fun r _ l'=>eM (2 * k.l.c.aM) k.me F (Sub.stp (2 * k.l.c.aM) z (.r1 n) r) l') h rfl (hq.trans (gj _ _ _ _ _ _))).mono ?_)
 rintro e w2 (⟨a,h1,rfl,h3⟩ | ⟨v,rfl,⟨⟨x1,x2⟩,hx,rfl,eB,mP⟩,aG⟩)
 ·exact ⟨rfl,.inl ⟨a,h1,rfl,h3⟩⟩
 have fR:=ar (show q=jO (2 * k.l.c.aM) k.me F (.r2 n x1) z.got (log.drop z.got.made) from mP)
 clear h hq hx mP Mg lp
 go_upto_region 1 with fail
 refine aP (S:=fun w'=>Hd k w'/\w'.cell? ⟨k.gp,31,none⟩=some (doV k)) (E:=fun _=>false) zK ?_
 replace eB:df w2.drew k z.got log:=eB.ay (aU (Below.refl w2.heap.size w2));replace aG:=aG.drew;generalize w2.drew=w3 at *;refine wTk 10 [(0,19,ptr k.gp),(1,20,ptr k.gp),(2,21,ae (some ⟨k.gp,31,none⟩)),(3,22,doV k),(4,23,ptr k.gp),(5,24,ptr k.gp),(6,25,ptr k.gp),(7,26,ae (some ⟨k.gp,11,none⟩)),(8,27,aa ab k.l.era),(9,28,.agg #[aa ab 4,aa ab k.l.era,aa ab 0,aa ab 1])] ?_ ⟨eB.hd,Hd.fn eB⟩ ?_
 ·intro w' hS;have Mg:=hS.1.at_ 11 _ rfl;have Ba:=hS.2
  (repeat' (first | exact aC | refine au ⟨_,rfl,.inl ⟨rfl,?_⟩⟩ ?_))
  all_goals exact zG
 simp only [aR,Act.put,aj,ak,al];refine aE (i:=10) (o:=_) zK rfl (fun K hK=>?_)
 (try simp only [aq,ao,an])
 unfold doV doG;go_simp;have hd:Calls aw 181 #[.agg #[aa ab 4,aa ab k.l.era,aa ab 0,aa ab 1],ptr k.gv,ptr k.gl] w3 _:=pdo ⟨4,.era,0,1⟩ (fun r _ l'=>eM (2 * k.l.c.aM) k.me F (Sub.stp (2 * k.l.c.aM) z.got (.r2 n x1) r) l') eB (fR.out.trans (gj _ _ _ _ _ _))
 (with_reducible refine hd.mono ?_)
 rintro e w4 (⟨a,h1,rfl,h3⟩ | ⟨v,rfl,⟨⟨y1,y2⟩,hy,rfl,fT,mJ⟩,lV⟩)
 ·exact ⟨rfl,.inl ⟨a,h1,rfl,aG.trans h3⟩⟩
 replace aG:=aG.trans lV;refine hK.out _ _ (fun _=>⟨fT.hd,Hd.fn fT⟩) ?_
 clear hK K eB lV hy fR
 (try simp only [Act.put,aj,ak,al])
 refine aN zK ?_ _
 by_cases jl:(z.gone.length:Int)+1 < 2 * k.l.c.aM
 ·have pq:q=F .un { z.got.got with gone:=z.gone++[(n,x1)] } (log.drop z.got.got.made):=by
   rw [mJ];show eM _ k.me F (if (z.gone.length:Int)+1 < 2 * k.l.c.aM then _ else _) _=_
   rw [if_pos jl];rfl
  have gK:=ar (au pq jl);have oe:z.gone.length<=1000:=zO;clear mJ pq;obtain ⟨gv,jI,hG,-⟩:=nC fT;replace hG:GnV w4 k.gp gv z.gone:=hG;have lp:=fT.lt;have HP:=ar (au fT aG);clear hd fT aG
  go_upto_region 2 with fail
  go_wp2_with fail
  (with_reducible refine (hG.clone oe).mono ?_)
  rintro e w5 ⟨G1,m1,c1,rfl,rfl,sM,bn,hb⟩;have zb:=hb.size;obtain ⟨t0,pP,jG,mw,mI⟩:=xE pa;have kr:=Bk.made w5 52 #[aa ab n,aa ab x1];have vy:=aB (Below.refl w5.heap.size w5) (ag #[aa ab n,aa ab x1] 52);have kE:=jD (show World.ownsRow w5 w4.heap.size 52 2 (.slice G1 z.gone.length c1) z.gone.length (cN z.gone) from bn) vy
  have fz:=aF hb vy;have jI:=(HP.out.1.ay fz).lt;have zs6:w4.heap.size<=(w5.alloc (ag #[aa ab n,aa ab x1] 52)).heap.size:=fz.size;clear jI hG bn
  go_upto_region 3 with (at_builtin;go_must (refine cM _ rfl (.tmp 35) (.tmp 39) _ rfl w4.heap.size 52 t0 _ 2 16 Tryz.underlying44 pP jG mw mI rfl zO (.slice G1 z.gone.length c1) z.gone.length (cN z.gone) rfl kE ⟨w5.heap.size,0,none⟩ 1 1 [aa ab n,aa ab x1] rfl rfl (fun j u hu=>by rw [fV,eE,kr.cell j];simpa using hu) (by simp [aD]) (by simp only [nu];omega) zO zP ?_;intro v9 w7 hrow7 hgrow7 _ _;have jc:=bY fz kE hgrow7 zs6 (az _);obtain ⟨gv7,q26,_,f26⟩:=nC (HP.out.1.ay jc);have l26:=(HP.out.1.ay jc).lt;obtain ⟨G9,c9,rfl⟩:=cj hrow7))
  have wy:iq w7 w4.heap.size (.slice G9 (z.gone.length+1) c9) (z.gone++[(n,x1)]):=by
   unfold iq;rw [ju,cJ];exact hrow7
  have hG7:GnV w7 k.gp (.slice G9 (z.gone.length+1) c9) (z.gone++[(n,x1)]):=Bw wy zS lp;have Ei:=(HP.out.1.ay jc).BU hG7;have yM:=(HP.out.2.trans (Stp.aS _ jc)).trans (Stp.set w7 k.gp 26 (.slice G9 (z.gone.length+1) c9));have jI:(w7.setCell ⟨k.gp,26,none⟩ (.slice G9 (z.gone.length+1) c9)).cell? ⟨k.gp,26,none⟩=some (.slice G9 (z.gone.length+1) c9):=by
   obtain ⟨gv,e0,e1,e2,kp,-,-⟩:=(HP.out.1.ay jc).kp;have:=(kp.stored 26 (.slice G9 (z.gone.length+1) c9)).cell 26
   simpa using this
  clear hrow7 wy hG7 hgrow7 jc fz hb vy kE kr q26 f26 l26 HP zb zs6 lp;generalize w7.setCell ⟨k.gp,26,none⟩ (.slice G9 (z.gone.length+1) c9)=w8 at *;refine aP (S:=fun w'=>Hd k w'/\w'.cell? ⟨k.gp,26,none⟩=some (.slice G9 (z.gone.length+1) c9)) (E:=fun _=>false) zK ?_
  replace Ei:=Ei.ay (aU (Below.refl w8.heap.size w8));replace yM:=yM.drew;replace jI:w8.drew.cell? ⟨k.gp,26,none⟩=some (.slice G9 (z.gone.length+1) c9):=jI;generalize w8.drew=w9 at *;refine wTk 13 [(0,43,ptr k.gp),(1,44,ptr k.gp),(2,45,ae (some ⟨k.gp,26,none⟩)),(3,46,.slice G9 (z.gone.length+1) c9),(4,47,aa ab ((z.gone.length+1:Nat):Int)),(5,48,ptr k.gp),(6,49,ptr k.gp),(7,50,ptr k.gp),(8,51,ptr k.gp),(9,52,ptr k.gp),(10,53,aa ab k.l.c.aM),(11,54,aa ab (2 * k.l.c.aM)),(12,55,ah true)] ?_ ⟨Ei.hd,jI⟩ ?_
  ·intro w' hS;have c0:=hS.1.at_ 0 _ rfl;have jI:=hS.2;have hw1:IntKind.i64.wrap (2 * k.l.c.aM)=2 * k.l.c.aM:=cV _ zO;have hw2:decide (((z.gone.length+1:Nat):Int) < 2 * k.l.c.aM)=true:=by simp;omega
   have hw3:(z.gone.length:Int)+1 < 2 * k.l.c.aM:=jl
   (repeat' (first | exact aC | refine au ⟨_,rfl,.inl ⟨rfl,?_⟩⟩ ?_))
   all_goals exact zG
  simp only [aR,Act.put,aj,ak,al];refine aN zK ?_ _
  go_wp2_with fail
  exact aX (v:=.tuple #[]) (dY rfl _ _ _) rfl (.inr ⟨_,rfl,⟨_,rfl,Ei,gK.out.1,by show z.made<=z.made+1+1;omega⟩,yM⟩)
 ·exact absurd (by rw [mJ];show eM _ k.me F (if (z.gone.length:Int)+1 < 2 * k.l.c.aM then _ else _) _=_;rw [if_neg jl];rfl) HN.out
end
end Go.Proofs.YtikdaeddbkopeaaGreatR.list
