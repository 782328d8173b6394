/- Every call of TopReused returns true, and each argument reads behind it as it read before: 'Rows.TopReusedSaid'. No condition. -/
import Derived.Test.YtikdaeddbkopeaaGreatRRows
import Derived.WalkKit
import Derived.ProofKit
import Derived.OpenShut
import Derived.ChangeOld
import Derived.Below
import Derived.Test.YtikdaeddbkopeaaGreatRV1
import Derived.Test.YtikdaeddbkopeaaGreatRV13
import Derived.Test.YtikdaeddbkopeaaGreatRV19
set_option linter.unusedVariables false
set_option linter.unusedSimpArgs false
set_option maxRecDepth 100000
set_option maxHeartbeats 16000000
open Go renaming TypeId → bR
open Go.Proofs.Tryz renaming prog → aw
namespace Go.Proofs.YtikdaeddbkopeaaGreatR.topReused
open Go.ChangeShapes Go.WideShapes Go.ChangeAt Go.RowKit
theorem own:ownKnob Tryz.prog.godebug=none:=zK
theorem laidOut:laidOutB aw=true:=zK
theorem lifted (os:Os) (started:os.Started) (H:Type) (enc:bR × Value->H):
  ReturnsInHanded {} Tryz.checked os 4 .any (Rows.topReusedSpec.pre6 enc aw Tryz.f4 Rows.topReusedRow.domain false) (Rows.topReusedSpec.post enc aw Tryz.f4 false true false false):=by
 refine returnsInHanded_of_change (C:=Tryz.checked) own started zK Tryz.func4
  (ChangeSpec.witness6 (enc:=enc) (C:=Tryz.checked) false ⟨#[],#[.agg #[.slice none 0 0,.slice none 0 0,.int .u8 0,.int .u8 0,.int .u8 0]],[]⟩ 8 zK zK zK zK) ?_
 intro W base args ds gs before hval0 hW hcnd _;have xw:∀ (j:Nat) t v,Tryz.f4.params[j]? =some t->args[j]? =some v->Value.okWide aw W .any base t v:=hval0;have hW':=hW;obtain ⟨p,q,hA0,hV,rfl,hfz,gu⟩:=hW;have hA:DataW.TrodAll enc aw W 0 (fun _=>true) true Tryz.f4.params.toList args.toList ds p:=hA0
 rw [Tryz.params4] at hA xw;obtain ⟨v0,vs0,d0,ds0,p0,q0,hargs,rfl,rfl,h0,r0⟩:=trodAll_cons hA;obtain ⟨rfl,rfl,rfl⟩:=trodAll_nil r0;obtain rfl:args=#[v0]:=by cases args;simp_all
 obtain ⟨rfl,rfl⟩:=trodVars_none hV;have k0:=h0;have lt0:∀ x∈p0,x.block < W.heap.size:=by obtain ⟨m,hm⟩:=k0;exact DataW.trod_lt m _ _ _ hm
 obtain ⟨X,n,c,T,m,e,s0,s1,s2,want,turns,rfl,hn,hm,sw,st,z0,z1,z2⟩:=J0 (xw 0 26 v0 rfl rfl) h0;clear hA0 hval0;refine (IK (w:=W) hn hm sw st z0 z1 z2).mono fun e W' hend=>?_
 obtain ⟨he,bel⟩:=hend;subst he;exact ⟨_,rfl,_,_,_,[],_,[],hW',trodAll_mk1 (shut_bool Tryz.underlying4 _),(trodAll_cons_mk (Below.trod laidOut zK (of_decide_eq_true zK) k0 bel lt0) trodAll_mk0),rfl,bel.frame _,fun h=>by cases h⟩
theorem over:Rows.topReusedRow.holds Tryz.pinned (OpenSpec.ofChange Rows.topReusedSpec):=
 OpenClaim.holds_of_wide 4 Tryz.f4 rfl rfl rfl rfl rfl rfl rfl ⟨rfl,rfl,rfl,rfl,rfl⟩ rfl rfl rfl rfl rfl zK Tryz.func4 zK
  (of_decide_eq_true zK) (by unfold Func.isWrapper;first | (rw [if_pos (by decide+kernel)];kernel_rfl) | (rw [if_neg (by decide+kernel)];exact ⟨rfl,rfl⟩))
  (fun os started H enc _=>lifted os started H enc)
theorem proved:Rows.TopReusedSaid:=
 over
#print axioms proved
end Go.Proofs.YtikdaeddbkopeaaGreatR.topReused
