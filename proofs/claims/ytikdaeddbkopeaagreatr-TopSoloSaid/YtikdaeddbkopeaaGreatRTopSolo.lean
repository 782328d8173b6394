/- Every call of TopSolo returns true, and each argument reads behind it as it read before: 'Rows.TopSoloSaid'. No condition. -/
import Derived.Test.YtikdaeddbkopeaaGreatRRows
import Derived.WalkKit
import Derived.ProofKit
import Derived.OpenShut
import Derived.ChangeOld
import Derived.Below
import Derived.Test.YtikdaeddbkopeaaGreatRV1
import Derived.Test.YtikdaeddbkopeaaGreatRV13
import Derived.Test.YtikdaeddbkopeaaGreatRV17
set_option linter.unusedVariables false
set_option linter.unusedSimpArgs false
set_option maxRecDepth 100000
set_option maxHeartbeats 16000000
open Go renaming TypeId → bR
open Go.Proofs.Tryz renaming prog → aw
namespace Go.Proofs.YtikdaeddbkopeaaGreatR.topSolo
open Go.ChangeShapes Go.WideShapes Go.ChangeAt Go.RowKit
theorem own:ownKnob Tryz.prog.godebug=none:=zK
theorem laidOut:laidOutB aw=true:=zK
theorem lifted (os:Os) (started:os.Started) (H:Type) (enc:bR × Value->H):
  ReturnsInHanded {} Tryz.checked os 3 .any (Rows.topSoloSpec.pre6 enc aw Tryz.f3 Rows.topSoloRow.domain false) (Rows.topSoloSpec.post enc aw Tryz.f3 false true false false):=by
 refine returnsInHanded_of_change (C:=Tryz.checked) own started zK Tryz.func3
  (ChangeSpec.witness6 (enc:=enc) (C:=Tryz.checked) false ⟨#[],#[.agg #[.slice none 0 0,.slice none 0 0,.int .u8 0,.int .u8 0,.int .u8 0],.int .u8 0],[]⟩ 8 zK zK zK zK) ?_
 intro W base args ds gs before hval0 hW hcnd _;have xw:∀ (j:Nat) t v,Tryz.f3.params[j]? =some t->args[j]? =some v->Value.okWide aw W .any base t v:=hval0;have hW':=hW;obtain ⟨p,q,hA0,hV,rfl,hfz,gu⟩:=hW;have hA:DataW.TrodAll enc aw W 0 (fun _=>true) true Tryz.f3.params.toList args.toList ds p:=hA0
 rw [Tryz.params3] at hA xw;obtain ⟨v0,vs0,d0,ds0,p0,q0,hargs,rfl,rfl,h0,r0⟩:=trodAll_cons hA;obtain ⟨v1,vs1,d1,ds1,p1,q1,rfl,rfl,rfl,h1,r1⟩:=trodAll_cons r0;obtain ⟨rfl,rfl,rfl⟩:=trodAll_nil r1;obtain rfl:args=#[v0,v1]:=by cases args;simp_all
 obtain ⟨rfl,rfl⟩:=trodVars_none hV;have k0:=h0;have lt0:∀ x∈p0,x.block < W.heap.size:=by obtain ⟨m,hm⟩:=k0;exact DataW.trod_lt m _ _ _ hm
 have k1:=h1;have lt1:∀ x∈p1,x.block < W.heap.size:=by obtain ⟨m,hm⟩:=k1;exact DataW.trod_lt m _ _ _ hm
 obtain ⟨X,n,c,T,m,e,s0,s1,s2,want,turns,rfl,hn,hm,sw,st,z0,z1,z2⟩:=J0 (xw 0 26 v0 rfl rfl) h0;obtain ⟨u,rfl,hu⟩:=o_u8n Tryz.underlying5 (xw 1 5 v1 rfl rfl) h1;clear hA0 hval0;refine (MA (w:=W) hn hm sw st z0 z1 z2 hu).mono fun e W' hend=>?_
 obtain ⟨he,bel⟩:=hend;subst he;exact ⟨_,rfl,_,_,_,[],_,[],hW',trodAll_mk1 (shut_bool Tryz.underlying4 _),(trodAll_cons_mk (Below.trod laidOut zK (of_decide_eq_true zK) k0 bel lt0) (trodAll_cons_mk (Below.trod laidOut zK (of_decide_eq_true zK) k1 bel lt1) trodAll_mk0)),rfl,bel.frame _,fun h=>by cases h⟩
theorem over:Rows.topSoloRow.holds Tryz.pinned (OpenSpec.ofChange Rows.topSoloSpec):=
 OpenClaim.holds_of_wide 3 Tryz.f3 rfl rfl rfl rfl rfl rfl rfl ⟨rfl,rfl,rfl,rfl,rfl⟩ rfl rfl rfl rfl rfl zK Tryz.func3 zK
  (of_decide_eq_true zK) (by unfold Func.isWrapper;first | (rw [if_pos (by decide+kernel)];kernel_rfl) | (rw [if_neg (by decide+kernel)];exact ⟨rfl,rfl⟩))
  (fun os started H enc _=>lifted os started H enc)
theorem proved:Rows.TopSoloSaid:=
 over
#print axioms proved
end Go.Proofs.YtikdaeddbkopeaaGreatR.topSolo
