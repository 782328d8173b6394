/- Every call of TopPending returns true, and each argument reads behind it as it read before: 'Rows.TopPendingSaid'. No condition. -/
import Derived.Test.YtikdaeddbkopeaaGreatRRows
import Derived.WalkKit
import Derived.ProofKit
import Derived.OpenShut
import Derived.ChangeOld
import Derived.Below
import Derived.Test.YtikdaeddbkopeaaGreatRV1
import Derived.Test.YtikdaeddbkopeaaGreatRV8
import Derived.Test.YtikdaeddbkopeaaGreatRV10
set_option linter.unusedVariables false
set_option linter.unusedSimpArgs false
set_option maxRecDepth 100000
set_option maxHeartbeats 16000000
open Go.Proofs.Tryz
open And renaming intro → al
open Go renaming TypeId → bM
open Go.Proofs.Tryz renaming prog → ao
open List renaming setIfInBounds_toArray → ak, getElem_cons_zero → an, getElem_cons_succ → ar, getElem_toArray → au, set_cons_zero → ay, set_cons_succ → az
open True renaming intro → bd
namespace Go.Proofs.YtikdaeddbkopeaaGreatR.topPending
open Go.ChangeShapes Go.WideShapes Go.ChangeAt Go.RowKit
theorem own:ownKnob Tryz.prog.godebug=none:=zK
theorem laidOut:laidOutB ao=true:=zK
theorem lifted (os:Os) (started:os.Started) (H:Type) (enc:bM × Value->H):
  ReturnsInHanded {} Tryz.checked os 5 .any (Rows.topPendingSpec.pre6 enc ao Tryz.f5 Rows.topPendingRow.domain false) (Rows.topPendingSpec.post enc ao Tryz.f5 false true false false):=by
 refine returnsInHanded_of_change (C:=Tryz.checked) own started zK Tryz.func5
  (ChangeSpec.witness6 (enc:=enc) (C:=Tryz.checked) false ⟨#[],#[.agg #[.slice none 0 0,.slice none 0 0,.int .u8 0,.int .u8 0,.int .u8 0]],[]⟩ 8 zK zK zK zK) ?_
 intro W base args ds gs before hval0 hW hcnd _;have hval:∀ (j:Nat) t v,Tryz.f5.params[j]? =some t->args[j]? =some v->Value.okWide ao W .any base t v:=hval0;have hW':=hW;obtain ⟨p,q,hA0,hV,rfl,hfz,sY⟩:=hW;have hA:DataW.TrodAll enc ao W 0 (λ_=>true) true Tryz.f5.params.toList args.toList ds p:=hA0;rw [Tryz.params5] at hA hval;obtain ⟨v0,vs0,d0,ds0,p0,q0,hargs,rfl,rfl,h0,r0⟩:=trodAll_cons hA;obtain ⟨rfl,rfl,rfl⟩:=trodAll_nil r0;obtain rfl:args=#[v0]:=by cases args;simp_all
 obtain ⟨rfl,rfl⟩:=trodVars_none hV;have k0:=h0;have lt0:∀ x∈p0,x.block < W.heap.size:=by obtain ⟨m,hm⟩:=k0;exact DataW.trod_lt m _ _ _ hm
 obtain ⟨X,n,c,T,m,e,s0,s1,s2,want,turns,rfl,hn,hm,sw,st,z0,z1,z2⟩:=o_wplay (hval 0 26 v0 rfl rfl) h0;clear hA0 hval0;refine (Cl (w:=W) hn hm sw st z0 z1 z2).mono λe W' hend=>?_;obtain ⟨he,bel⟩:=hend;subst he;exact ⟨_,rfl,_,_,_,[],_,[],hW',trodAll_mk1 (shut_bool Tryz.underlying4 _),(trodAll_cons_mk (Below.trod laidOut zK (of_decide_eq_true zK) k0 bel lt0) trodAll_mk0),rfl,bel.frame _,λh=>by cases h⟩
theorem over:Rows.topPendingRow.holds Tryz.pinned (OpenSpec.ofChange Rows.topPendingSpec):=
 OpenClaim.holds_of_wide 5 Tryz.f5 rfl rfl rfl rfl rfl rfl rfl ⟨rfl,rfl,rfl,rfl,rfl⟩ rfl rfl rfl rfl rfl zK Tryz.func5 zK
  (of_decide_eq_true zK) (by unfold Func.isWrapper;first | (rw [if_pos (by decide+kernel)];kernel_rfl) | (rw [if_neg (by decide+kernel)];exact ⟨rfl,rfl⟩))
  (λos started H enc _=>lifted os started H enc)
theorem proved:Rows.TopPendingSaid:=
 over
#print axioms proved
end Go.Proofs.YtikdaeddbkopeaaGreatR.topPending
