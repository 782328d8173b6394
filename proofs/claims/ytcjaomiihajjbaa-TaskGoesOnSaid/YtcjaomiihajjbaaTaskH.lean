/- task.Next: refuse, Clone of nothing, the deferred closure. -/
import Derived.Test.YtcjaomiihajjbaaTaskG
import Derived.Defers
import Derived.Recover
namespace Go.Proofs.Ytcjaomiihajjbaa
open Go.RowKit
attribute [local go_sem ↓] Go.wp_at_zero Go.wp_at_succ

set_option maxRecDepth 100000 in
theorem clone_nil (w : World) : Calls Try.prog 29 #[.slice none 0 0] w (fun e w' => e = .returned (.slice none 0 0) ∧ Below w.heap.size w w') := by
  have q : ∀ w : World, (binOp .eql 48 (.slice none 0 0) (.slice none 0 0)).run Try.prog w = .ok (.bool true) w := fun _ => by kernel_rfl
  go_enter Try.func29, Try.ntmps29
  go_wp2
  go_ret
  exact ⟨rfl, Below.refl _ _⟩
theorem results_cct {P : Program} {fn : Func} {p q t : Tmp} {t1 t2 : TypeId} (h : fn.results = #[.cell p t1, .cell q t2, .tmp t]) (tmps : Array Value) (w : World) (g1 g2 : Nat) (cs1 cs2 : Array Value) (fr1 fr2 : Nat × Nat) (d1 d2 : TypeDesc) (v : Value)
    (hp : tmps.getD p undef = .pointer (some ⟨g1, 0, none⟩)) (hq : tmps.getD q undef = .pointer (some ⟨g2, 0, none⟩)) (hv : tmps.getD t undef = v) (k1 : w.heap[g1]? = some (.cells cs1 t1 fr1)) (k2 : w.heap[g2]? = some (.cells cs2 t2 fr2))
    (hu1 : P.underlying t1 = some d1) (hd1 : (match d1 with | .struct _ | .array _ _ => true | _ => false) = true) (hi1 : (P.info? t1).map (·.size) = some cs1.size)
    (hu2 : P.underlying t2 = some d2) (hd2 : (match d2 with | .struct _ | .array _ _ => true | _ => false) = true) (hi2 : (P.info? t2).map (·.size) = some cs2.size) :
    (results fn tmps).run P w = .ok (.tuple #[.agg cs1, .agg cs2, v]) w := by
  subst hv
  have hp' : tmps[p]?.getD undef = .pointer (some ⟨g1, 0, none⟩) := by simpa using hp
  have hq' : tmps[q]?.getD undef = .pointer (some ⟨g2, 0, none⟩) := by simpa using hq
  simp [results, h, hp', hq', asAddr, run_loadVar_row w g1 t1 t1 cs1 fr1 d1 k1 hu1 hd1 hi1, run_loadVar_row w g2 t2 t2 cs2 fr2 d2 k2 hu2 hd2 hi2]
abbrev accZ : Array Value := #[.int .i64 0, .int .i64 0, .int .i64 0, .int .i64 0]
abbrev accC (k c o v : Int) : Array Value := #[.int .i64 k, .int .i64 c, .int .i64 o, .int .i64 v]
theorem refuse_nil (w : World) : Calls Try.prog 27 #[.slice none 0 0] w (fun e w' => e = .returned (.tuple #[.agg accZ, .agg (outC 0 false 1 (-1)), .bool true]) ∧ Below w.heap.size w w') := by
  go_enter Try.func27, Try.ntmps27
  go_wp2_with fail
  (with_reducible refine (clone_nil _).mono ?_)
  rintro e w1 ⟨rfl, hb⟩
  have ka := (((Bk.made w 44 accZ).alloc (.cells outZ 50)).keep hb)
  have ko := ((Bk.new (w.alloc (.cells accZ 44)) (g := w.heap.size + 1) (by simp) 50 outZ).keep hb)
  have hbl := below_tr (below_al (below_al (Below.refl w.heap.size w) (.cells accZ 44)) (.cells outZ 50)) hb
  clear hb
  have hA := setRow_heap _ _ accZ accZ 44 (0, 0) ka
  have ko2 : Bk (w1.setRow w.heap.size accZ) (w.heap.size + 1) 50 outZ := (setRow_other _ _ _ _ (by omega)).trans ko
  have hbl2 := below_setRow hbl (Nat.le_refl w.heap.size) accZ
  go_wp2_with (first
    | (refine wpList_store_rowTo rfl 44 (.tmp 2) (.tmp 5) rfl rfl w.heap.size accZ rfl rfl 44 accZ ka (by kernel_rfl) rfl (by simp [Value.oneCell']) ?_)
    | (refine wpList_store_rowTo rfl 50 (.tmp 3) (.tmp 8) rfl rfl (w.heap.size + 1) (outC 0 false 1 (-1)) rfl rfl 50 outZ ko2 (by kernel_rfl) rfl (by simp [Value.oneCell']) ?_))
  have hO := setRow_heap _ _ outZ (outC 0 false 1 (-1)) 50 (0, 0) ko2
  have hA2 : ((w1.setRow w.heap.size accZ).setRow (w.heap.size + 1) (outC 0 false 1 (-1))).heap[w.heap.size]? = some (.cells accZ 44 (0, 0)) := (setRow_other _ _ _ _ (by omega)).trans hA
  exact bodyPost_ret (v := .tuple #[.agg accZ, .agg (outC 0 false 1 (-1)), .bool true]) (results_cct (p := 2) (q := 3) (t := 4) (t1 := 44) (t2 := 50) rfl _ _ w.heap.size (w.heap.size + 1) accZ (outC 0 false 1 (-1)) (0, 0) (0, 0) _ _ _ rfl rfl rfl hA2 hO Try.underlying44 rfl (by kernel_rfl) Try.underlying50 rfl (by kernel_rfl)) rfl ⟨rfl, below_setRow hbl2 (by omega) _⟩
set_option maxRecDepth 100000 in
set_option maxHeartbeats 2000000 in
theorem catch_asked (k c o v : Int) (ga g7 go gb : Nat) (w : World) (ka : Bk w ga 44 accZ) :
    CallsD Try.prog 28 #[ptr ga, ptr g7, ptr go, ptr gb] (.panicking [{ v := askV k c o v, recovered := false }]) w fun e u' w' =>
      e = .returned (.tuple #[]) ∧ u' = .panicking [{ v := askV k c o v, recovered := true }] ∧ Bk w' ga 44 (accC k c o v) ∧ Stp ga w w' := by
  refine callsD_of_wpS Try.func28 rfl fun c₀ cs hu => ?_
  apply wpS_seq
  apply wpS_region
  simp [wpOpsS, go_sem, recoverD, hu, Try.ntmps28, Exit.thenS]
  refine wpS_of_wp ?_
  have hn : ∀ w : World, (binOp .eql 20 (askV k c o v) .nilIface).run Try.prog w = .ok (.bool false) w := fun _ => by kernel_rfl
  have heq : ∀ w : World, (eqGuard .eql 20 (.tmp 7) (.const .nilIface) (askV k c o v) .nilIface).run Try.prog w = .ok () w := fun _ => by kernel_rfl
  have hfr : (#[ptr ga, ptr g7, ptr go, ptr gb] ++ (Array.replicate 16 undef).setIfInBounds 3 (askV k c o v)) = #[ptr ga, ptr g7, ptr go, ptr gb, undef, undef, undef, askV k c o v, undef, undef, undef, undef, undef, undef, undef, undef, undef, undef, undef, undef] := by kernel_rfl
  rw [hfr]
  clear hfr
  have hta : ∀ w : World, (Instr.typeAssert (askV k c o v) 20 82 true).run Try.prog w = .ok (.tuple #[.agg (accC k c o v), .bool true]) w := fun _ => by kernel_rfl
  have l0 := ka.lt
  have kx := Bk.made w 82 (accC k c o v)
  have ka1 := ka.alloc (.cells (accC k c o v) 82)
  have hst : Stp ga w (w.alloc (.cells (accC k c o v) 82)) := (Stp.refl ga w).alloc _
  go_wp2_with (first
    | (refine wpList_store_new rfl 82 (.tmp 5) (.tmp 17) rfl rfl w.heap.size _ _ (accC k c o v) rfl rfl rfl rfl (by kernel_rfl) rfl (by simp [Value.oneCell']) ?_)
    | (refine wpList_load_row rfl 44 (.tmp 18) rfl w.heap.size rfl 82 (accC k c o v) (0, 0) _ kx Try.underlying44 rfl (by kernel_rfl) ?_)
    | (refine wpList_store_rowTo rfl 44 (.tmp 0) (.tmp 19) rfl rfl ga (accC k c o v) rfl rfl 44 accZ ka1 (by kernel_rfl) rfl (by simp [Value.oneCell']) ?_))
  have h1 : Bk ((w.alloc (.cells (accC k c o v) 82)).setRow ga (accC k c o v)) ga 44 (accC k c o v) := setRow_heap _ _ accZ (accC k c o v) 44 (0, 0) ka1
  have h2 : Stp ga w ((w.alloc (.cells (accC k c o v) 82)).setRow ga (accC k c o v)) :=
    ⟨hst.os, hst.tape, hst.output, by simp [World.setRow], fun b hb hn => (setRow_other _ ga b _ hn).trans (hst.block b hb hn)⟩
  exact ⟨rfl, _, rfl, _, results_none rfl _ _ _, rfl, rfl, h1, h2⟩
set_option maxRecDepth 100000 in
set_option maxHeartbeats 2000000 in
theorem catch_idle (ga g7 go gb : Nat) (w : World) :
    CallsD Try.prog 28 #[ptr ga, ptr g7, ptr go, ptr gb] .returning w fun e u' w' => e = .returned (.tuple #[]) ∧ u' = .returning ∧ w' = w := by
  refine callsD_of_wpS Try.func28 rfl fun c₀ cs hu => ?_
  apply wpS_seq
  apply wpS_region
  simp [wpOpsS, go_sem, recoverD, hu, Try.ntmps28, Exit.thenS]
  refine wpS_of_wp ?_
  have hn : ∀ w : World, (binOp .eql 20 .nilIface .nilIface).run Try.prog w = .ok (.bool true) w := fun _ => by kernel_rfl
  have heq : ∀ w : World, (eqGuard .eql 20 (.tmp 7) (.const .nilIface) .nilIface .nilIface).run Try.prog w = .ok () w := fun _ => by kernel_rfl
  have hfr : (#[ptr ga, ptr g7, ptr go, ptr gb] ++ (Array.replicate 16 undef).setIfInBounds 3 .nilIface) = #[ptr ga, ptr g7, ptr go, ptr gb, undef, undef, undef, .nilIface, undef, undef, undef, undef, undef, undef, undef, undef, undef, undef, undef, undef] := by kernel_rfl
  rw [hfr]
  clear hfr
  go_wp2
  cases c₀
  simp only at hu
  subst hu
  exact ⟨rfl, _, rfl, _, results_none rfl _ _ _, rfl, rfl, rfl⟩
end Go.Proofs.Ytcjaomiihajjbaa
