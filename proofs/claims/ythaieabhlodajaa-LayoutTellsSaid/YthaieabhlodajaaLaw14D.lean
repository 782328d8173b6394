/- The walk of LayoutTells. Printed by tells14_gen.py. -/
import Derived.Test.YthaieabhlodajaaLaw14A
import Derived.Test.YthaieabhlodajaaLaw14B
import Derived.Test.YthaieabhlodajaaRow14
import Derived.Test.YthaieabhlodajaaInts
namespace Go.Proofs.Ythaieabhlodajaa
open Go.RowKit
attribute [local go_sem ↓] Go.wp_at_zero Go.wp_at_succ

set_option maxRecDepth 100000 in
set_option maxHeartbeats 16000000 in
theorem tells_any (c : Cf) (a b : Int) (w : World) (_a0 : -9223372036854775808 ≤ a) (a1 : a ≤ 9223372036854775807) (_b0 : -9223372036854775808 ≤ b) (_b1 : b ≤ 9223372036854775807) : Calls Try.prog 7 #[cfV c, .int .i64 a, .int .i64 b] w (BoolBelow true w) := by
  have le : ∀ L w, (Op.equalIn 10000 26 (.agg (lyC L)) (.agg (lyC L))).run Try.prog w = .ok true w := fun L w => by
    have h := ly_eq 9997 L L w
    rw [(lyB_iff _ _).2 rfl] at h
    exact h
  go_enter Try.func7, Try.ntmps7
  go_wp2_with fail
  (with_reducible refine (shown_any _).mono ?_)
  rintro e w1 ⟨rfl, hb⟩
  have k3 := (Bk.made w 23 (cfC c)).keep hb
  have hbl := below_tr (below_al (Below.refl w.heap.size w) (.cells (cfC c) 23)) hb
  clear hb
  go_wp2_with (refine wpList_load_row rfl 23 (.tmp 3) rfl w.heap.size rfl 23 (cfC c) (0, 0) _ k3 Try.underlying23 rfl (by kernel_rfl) ?_)
  (with_reducible refine (of_any c _).mono ?_)
  rintro e w2 ⟨L, er, rfl, hcase, hb⟩
  replace k3 := k3.keep hb
  replace hbl := below_tr hbl hb
  clear hb
  have k8 := Bk.made w2 26 (lyC L)
  replace k3 := k3.alloc (.cells (lyC L) 26)
  replace hbl := below_al hbl (.cells (lyC L) 26)
  go_upto_region 3 with (refine wpList_store_new rfl 26 (.tmp 8) (.tmp 16) rfl rfl w2.heap.size _ _ (lyC L) rfl rfl rfl rfl (by kernel_rfl) rfl (by simp [Value.oneCell']) ?_; (generalize w2.alloc (.cells (lyC L) 26) = w3 at *))
  go_wp2_with (refine wpList_load_row rfl 23 (.tmp 3) rfl w.heap.size rfl 23 (cfC c) (0, 0) _ k3 Try.underlying23 rfl (by kernel_rfl) ?_)
  (with_reducible refine (rof_any c _).mono ?_)
  rintro e w4 ⟨M, er', rfl, hcase', hb⟩
  replace k8 := k8.keep hb
  replace hbl := below_tr hbl hb
  clear hb k3
  have hM : M = L ∧ er' = er := by
    rcases hcase with ⟨h1, h2, h3⟩ | ⟨h1, h2, h3⟩ <;> rcases hcase' with ⟨h4, h5, h6⟩ | ⟨h4, h5, h6⟩
    · exact ⟨by rw [h2, h5], by rw [h3, h6]⟩
    · exact absurd h1 h4
    · exact absurd h4 h1
    · exact ⟨by rw [h2, h5], by rw [h3, h6]⟩
  obtain ⟨rfl, rfl⟩ := hM
  clear hcase'
  have k10 := Bk.made w4 26 (lyC M)
  replace k8 := k8.alloc (.cells (lyC M) 26)
  replace hbl := below_al hbl (.cells (lyC M) 26)
  have lM := le M
  clear le
  go_upto_region 4 with (refine wpList_store_new rfl 26 (.tmp 10) (.tmp 21) rfl rfl w4.heap.size _ _ (lyC M) rfl rfl rfl rfl (by kernel_rfl) rfl (by simp [Value.oneCell']) ?_; (generalize w4.alloc (.cells (lyC M) 26) = w5 at *))
  generalize w2.heap.size = g8 at *
  generalize w4.heap.size = g at *
  rcases hcase with ⟨hcan, hL, rfl⟩ | ⟨hcan, hL, rfl⟩
  rotate_left
  · clear hL hcan
    go_wp2_with (first
      | (refine wpList_load_row rfl 26 (.tmp 8) rfl g8 rfl 26 (lyC M) (0, 0) _ k8 Try.underlying26 rfl (by kernel_rfl) ?_)
      | (refine wpList_load_row rfl 26 (.tmp 10) rfl g rfl 26 (lyC M) (0, 0) _ k10 Try.underlying26 rfl (by kernel_rfl) ?_))
    go_ret
    exact ⟨rfl, hbl⟩
  have hMc : M.c = c := by rw [hL]; rfl
  have hfix : lyOf M.c = M := by rw [hMc, hL]
  have hcl : M.c.can := by rw [hMc]; exact hcan
  have f := lyFull_of c hcan
  have f2 := lyFit_lay c hcan
  rw [← hL] at f f2
  have t1 := f2.t1
  have t2 := f2.t2
  have HC := Lib.hid (And.intro hfix (And.intro hcl (And.intro f (And.intro f2 a1))))
  clear hcan hL hMc hfix hcl f f2 a1 _a0 _b0 _b1
  go_wp2_with (first
    | (refine wpList_load_row rfl 26 (.tmp 8) rfl g8 rfl 26 (lyC M) (0, 0) _ k8 Try.underlying26 rfl (by kernel_rfl) ?_)
    | (refine wpList_load_row rfl 26 (.tmp 10) rfl g rfl 26 (lyC M) (0, 0) _ k10 Try.underlying26 rfl (by kernel_rfl) ?_))
  clear k8 lM
  refine wp_region_held_drew (S := fun w' => Bk w' g 26 (lyC M)) (by kernel_rfl) k10.drew (fun hHeld => ?_)
  clear hHeld
  replace k10 := k10.drew
  replace hbl := hbl.drew
  generalize w5.drew = w6 at *
  refine wpAnyH_take (i := 0) (oi := _) (v := .bool true) rfl (by kernel_rfl) (by kernel_rfl) (by kernel_rfl) (fun _ _ _ h => h) (Or.inl ⟨by rfl, ?_⟩) k10 ?_
  · intro w' hSw
    (try simp only [List.getElem_toArray, List.getElem_cons_zero])
    go_simp
  (try simp only [List.getElem_toArray, List.getElem_cons_zero, Act.put, List.setIfInBounds_toArray, List.set_cons_zero, List.set_cons_succ])
  refine wpAnyH_take (i := 1) (oi := _) (v := .bool true) rfl (by kernel_rfl) (by kernel_rfl) (by kernel_rfl) (fun _ _ _ h => h) (Or.inl ⟨by rfl, ?_⟩) k10 ?_
  · intro w' hSw
    (try simp only [List.getElem_toArray, List.getElem_cons_succ, List.getElem_cons_zero])
    go_simp
  (try simp only [List.getElem_toArray, List.getElem_cons_succ, List.getElem_cons_zero, Act.put, List.setIfInBounds_toArray, List.set_cons_zero, List.set_cons_succ])
  refine wpAnyH_take (i := 2) (oi := _) (v := .agg (lyC M)) rfl (by kernel_rfl) (by kernel_rfl) (by kernel_rfl) (fun _ _ _ h => h) (Or.inl ⟨by rfl, ?_⟩) k10 ?_
  · intro w' hSw
    (try simp only [List.getElem_toArray, List.getElem_cons_succ, List.getElem_cons_zero])
    simp only [execOp, Instr.loadAt, Instr.sureAddr, Sem.run_bind, Sem.run_pure]
    rw [show (Act.eval _ (Operand.tmp 10)) = Value.pointer (some ⟨g, 0, none⟩) from rfl]
    simp only [Sem.run_pure, Result.andThen_ok, run_loadVar_row w' g 26 26 (lyC M) (0, 0) _ hSw Try.underlying26 rfl (by kernel_rfl)]
  (try simp only [List.getElem_toArray, List.getElem_cons_succ, List.getElem_cons_zero, Act.put, List.setIfInBounds_toArray, List.set_cons_zero, List.set_cons_succ])
  refine wpAnyH_ready (rs := [3]) (by kernel_rfl) (by simp) ?_
  refine AllReadyH.cons (o := _) rfl (fun K hK => ?_) AllReadyH.nil
  (try simp only [List.getElem_toArray, List.getElem_cons_succ, List.getElem_cons_zero])
  go_simp
  (with_reducible refine (right_true M _ HC.out.2.1 HC.out.1).mono ?_)
  rintro e w9 ⟨rfl, hb⟩
  replace k10 := k10.keep hb
  replace hbl := below_tr hbl hb
  clear hb
  refine hK.out _ _ k10 (fun hS' => ?_)
  clear hS' hK K
  (try simp only [List.getElem_toArray, List.getElem_cons_succ, List.getElem_cons_zero, Act.put, List.setIfInBounds_toArray, List.set_cons_zero, List.set_cons_succ])
  refine wpAnyH_take (i := 4) (oi := _) (v := .bool true) rfl (by kernel_rfl) (by kernel_rfl) (by kernel_rfl) (fun _ _ _ h => h) (Or.inl ⟨by rfl, ?_⟩) k10 ?_
  · intro w' hSw
    (try simp only [List.getElem_toArray, List.getElem_cons_succ, List.getElem_cons_zero])
    go_simp
  (try simp only [List.getElem_toArray, List.getElem_cons_succ, List.getElem_cons_zero, Act.put, List.setIfInBounds_toArray, List.set_cons_zero, List.set_cons_succ])
  refine wpAnyH_take (i := 5) (oi := _) (v := .bool true) rfl (by kernel_rfl) (by kernel_rfl) (by kernel_rfl) (fun _ _ _ h => h) (Or.inl ⟨by rfl, ?_⟩) k10 ?_
  · intro w' hSw
    (try simp only [List.getElem_toArray, List.getElem_cons_succ, List.getElem_cons_zero])
    go_simp
  (try simp only [List.getElem_toArray, List.getElem_cons_succ, List.getElem_cons_zero, Act.put, List.setIfInBounds_toArray, List.set_cons_zero, List.set_cons_succ])
  refine wpAnyH_take (i := 6) (oi := _) (v := .agg (lyC M)) rfl (by kernel_rfl) (by kernel_rfl) (by kernel_rfl) (fun _ _ _ h => h) (Or.inl ⟨by rfl, ?_⟩) k10 ?_
  · intro w' hSw
    (try simp only [List.getElem_toArray, List.getElem_cons_succ, List.getElem_cons_zero])
    simp only [execOp, Instr.loadAt, Instr.sureAddr, Sem.run_bind, Sem.run_pure]
    rw [show (Act.eval _ (Operand.tmp 10)) = Value.pointer (some ⟨g, 0, none⟩) from rfl]
    simp only [Sem.run_pure, Result.andThen_ok, run_loadVar_row w' g 26 26 (lyC M) (0, 0) _ hSw Try.underlying26 rfl (by kernel_rfl)]
  (try simp only [List.getElem_toArray, List.getElem_cons_succ, List.getElem_cons_zero, Act.put, List.setIfInBounds_toArray, List.set_cons_zero, List.set_cons_succ])
  refine wpAnyH_take (i := 8) (oi := _) (v := .agg (lyC M)) rfl (by kernel_rfl) (by kernel_rfl) (by kernel_rfl) (fun _ _ _ h => h) (Or.inl ⟨by rfl, ?_⟩) k10 ?_
  · intro w' hSw
    (try simp only [List.getElem_toArray, List.getElem_cons_succ, List.getElem_cons_zero])
    simp only [execOp, Instr.loadAt, Instr.sureAddr, Sem.run_bind, Sem.run_pure]
    rw [show (Act.eval _ (Operand.tmp 10)) = Value.pointer (some ⟨g, 0, none⟩) from rfl]
    simp only [Sem.run_pure, Result.andThen_ok, run_loadVar_row w' g 26 26 (lyC M) (0, 0) _ hSw Try.underlying26 rfl (by kernel_rfl)]
  (try simp only [List.getElem_toArray, List.getElem_cons_succ, List.getElem_cons_zero, Act.put, List.setIfInBounds_toArray, List.set_cons_zero, List.set_cons_succ])
  refine wpAnyH_ready (rs := [7]) (by kernel_rfl) (by simp) ?_
  refine AllReadyH.cons (o := _) rfl (fun K hK => ?_) AllReadyH.nil
  (try simp only [List.getElem_toArray, List.getElem_cons_succ, List.getElem_cons_zero])
  go_simp
  (with_reducible refine (rings_any M _ t1 t2).mono ?_)
  rintro e w9 ⟨rfl, hb⟩
  replace k10 := k10.keep hb
  replace hbl := below_tr hbl hb
  clear hb
  refine hK.out _ _ k10 (fun hS' => ?_)
  clear hS' hK K
  (try simp only [List.getElem_toArray, List.getElem_cons_succ, List.getElem_cons_zero, Act.put, List.setIfInBounds_toArray, List.set_cons_zero, List.set_cons_succ])
  refine wpAnyH_ready (rs := [9]) (by kernel_rfl) (by simp) ?_
  refine AllReadyH.cons (o := _) rfl (fun K hK => ?_) AllReadyH.nil
  (try simp only [List.getElem_toArray, List.getElem_cons_succ, List.getElem_cons_zero])
  go_simp
  (with_reducible refine (rrings_any M _ t1 t2).mono ?_)
  rintro e w9 ⟨rfl, hb⟩
  replace k10 := k10.keep hb
  replace hbl := below_tr hbl hb
  clear hb
  refine hK.out _ _ k10 (fun hS' => ?_)
  clear hS' hK K
  (try simp only [List.getElem_toArray, List.getElem_cons_succ, List.getElem_cons_zero, Act.put, List.setIfInBounds_toArray, List.set_cons_zero, List.set_cons_succ])
  refine wpAnyH_take (i := 10) (oi := _) (v := .bool true) rfl (by kernel_rfl) (by kernel_rfl) (by kernel_rfl) (fun _ _ _ h => h) (Or.inl ⟨by rfl, ?_⟩) k10 ?_
  · intro w' hSw
    (try simp only [List.getElem_toArray, List.getElem_cons_succ, List.getElem_cons_zero])
    go_simp
  (try simp only [List.getElem_toArray, List.getElem_cons_succ, List.getElem_cons_zero, Act.put, List.setIfInBounds_toArray, List.set_cons_zero, List.set_cons_succ])
  refine wpAnyH_take (i := 11) (oi := _) (v := .bool true) rfl (by kernel_rfl) (by kernel_rfl) (by kernel_rfl) (fun _ _ _ h => h) (Or.inl ⟨by rfl, ?_⟩) k10 ?_
  · intro w' hSw
    (try simp only [List.getElem_toArray, List.getElem_cons_succ, List.getElem_cons_zero])
    go_simp
  (try simp only [List.getElem_toArray, List.getElem_cons_succ, List.getElem_cons_zero, Act.put, List.setIfInBounds_toArray, List.set_cons_zero, List.set_cons_succ])
  refine wpAnyH_take (i := 12) (oi := _) (v := .bool true) rfl (by kernel_rfl) (by kernel_rfl) (by kernel_rfl) (fun _ _ _ h => h) (Or.inl ⟨by rfl, ?_⟩) k10 ?_
  · intro w' hSw
    (try simp only [List.getElem_toArray, List.getElem_cons_succ, List.getElem_cons_zero])
    go_simp
  (try simp only [List.getElem_toArray, List.getElem_cons_succ, List.getElem_cons_zero, Act.put, List.setIfInBounds_toArray, List.set_cons_zero, List.set_cons_succ])
  refine wpAnyH_take (i := 13) (oi := _) (v := .agg (lyC M)) rfl (by kernel_rfl) (by kernel_rfl) (by kernel_rfl) (fun _ _ _ h => h) (Or.inl ⟨by rfl, ?_⟩) k10 ?_
  · intro w' hSw
    (try simp only [List.getElem_toArray, List.getElem_cons_succ, List.getElem_cons_zero])
    simp only [execOp, Instr.loadAt, Instr.sureAddr, Sem.run_bind, Sem.run_pure]
    rw [show (Act.eval _ (Operand.tmp 10)) = Value.pointer (some ⟨g, 0, none⟩) from rfl]
    simp only [Sem.run_pure, Result.andThen_ok, run_loadVar_row w' g 26 26 (lyC M) (0, 0) _ hSw Try.underlying26 rfl (by kernel_rfl)]
  (try simp only [List.getElem_toArray, List.getElem_cons_succ, List.getElem_cons_zero, Act.put, List.setIfInBounds_toArray, List.set_cons_zero, List.set_cons_succ])
  refine wpAnyH_take (i := 14) (oi := _) (v := .int .i64 a) rfl (by kernel_rfl) (by kernel_rfl) (by kernel_rfl) (fun _ _ _ h => h) (Or.inl ⟨by rfl, ?_⟩) k10 ?_
  · intro w' hSw
    (try simp only [List.getElem_toArray, List.getElem_cons_succ, List.getElem_cons_zero])
    go_simp
  (try simp only [List.getElem_toArray, List.getElem_cons_succ, List.getElem_cons_zero, Act.put, List.setIfInBounds_toArray, List.set_cons_zero, List.set_cons_succ])
  refine wpAnyH_take (i := 15) (oi := _) (v := .int .i64 b) rfl (by kernel_rfl) (by kernel_rfl) (by kernel_rfl) (fun _ _ _ h => h) (Or.inl ⟨by rfl, ?_⟩) k10 ?_
  · intro w' hSw
    (try simp only [List.getElem_toArray, List.getElem_cons_succ, List.getElem_cons_zero])
    go_simp
  (try simp only [List.getElem_toArray, List.getElem_cons_succ, List.getElem_cons_zero, Act.put, List.setIfInBounds_toArray, List.set_cons_zero, List.set_cons_succ])
  refine wpAnyH_take (i := 17) (oi := _) (v := .agg (lyC M)) rfl (by kernel_rfl) (by kernel_rfl) (by kernel_rfl) (fun _ _ _ h => h) (Or.inl ⟨by rfl, ?_⟩) k10 ?_
  · intro w' hSw
    (try simp only [List.getElem_toArray, List.getElem_cons_succ, List.getElem_cons_zero])
    simp only [execOp, Instr.loadAt, Instr.sureAddr, Sem.run_bind, Sem.run_pure]
    rw [show (Act.eval _ (Operand.tmp 10)) = Value.pointer (some ⟨g, 0, none⟩) from rfl]
    simp only [Sem.run_pure, Result.andThen_ok, run_loadVar_row w' g 26 26 (lyC M) (0, 0) _ hSw Try.underlying26 rfl (by kernel_rfl)]
  (try simp only [List.getElem_toArray, List.getElem_cons_succ, List.getElem_cons_zero, Act.put, List.setIfInBounds_toArray, List.set_cons_zero, List.set_cons_succ])
  refine wpAnyH_take (i := 18) (oi := _) (v := .int .i64 a) rfl (by kernel_rfl) (by kernel_rfl) (by kernel_rfl) (fun _ _ _ h => h) (Or.inl ⟨by rfl, ?_⟩) k10 ?_
  · intro w' hSw
    (try simp only [List.getElem_toArray, List.getElem_cons_succ, List.getElem_cons_zero])
    go_simp
  (try simp only [List.getElem_toArray, List.getElem_cons_succ, List.getElem_cons_zero, Act.put, List.setIfInBounds_toArray, List.set_cons_zero, List.set_cons_succ])
  refine wpAnyH_take (i := 19) (oi := _) (v := .int .i64 b) rfl (by kernel_rfl) (by kernel_rfl) (by kernel_rfl) (fun _ _ _ h => h) (Or.inl ⟨by rfl, ?_⟩) k10 ?_
  · intro w' hSw
    (try simp only [List.getElem_toArray, List.getElem_cons_succ, List.getElem_cons_zero])
    go_simp
  (try simp only [List.getElem_toArray, List.getElem_cons_succ, List.getElem_cons_zero, Act.put, List.setIfInBounds_toArray, List.set_cons_zero, List.set_cons_succ])
  refine wpAnyH_ready (rs := [16]) (by kernel_rfl) (by simp) ?_
  refine AllReadyH.cons (o := _) rfl (fun K hK => ?_) AllReadyH.nil
  (try simp only [List.getElem_toArray, List.getElem_cons_succ, List.getElem_cons_zero])
  go_simp
  (with_reducible refine (places_any M a b _ HC.out.2.2.1 HC.out.2.2.2.1 HC.out.2.2.2.2).mono ?_)
  rintro e w9 ⟨gp, rfl, kp, hb⟩
  replace k10 := k10.keep hb
  replace hbl := below_tr hbl hb
  clear hb
  refine hK.out _ _ k10 (fun hS' => ?_)
  clear hS' hK K
  (try simp only [List.getElem_toArray, List.getElem_cons_succ, List.getElem_cons_zero, Act.put, List.setIfInBounds_toArray, List.set_cons_zero, List.set_cons_succ])
  refine wpAnyH_ready (rs := [20]) (by kernel_rfl) (by simp) ?_
  refine AllReadyH.cons (o := _) rfl (fun K hK => ?_) AllReadyH.nil
  (try simp only [List.getElem_toArray, List.getElem_cons_succ, List.getElem_cons_zero])
  go_simp
  (with_reducible refine (rall_any M a b _ HC.out.2.2.1 HC.out.2.2.2.1 HC.out.2.2.2.2).mono ?_)
  rintro e w9 ⟨gq, rfl, kq, hb⟩
  replace k10 := k10.keep hb
  replace hbl := below_tr hbl hb
  replace kp := kp.keep hb
  clear hb
  refine hK.out _ _ k10 (fun hS' => ?_)
  clear hS' hK K
  (try simp only [List.getElem_toArray, List.getElem_cons_succ, List.getElem_cons_zero, Act.put, List.setIfInBounds_toArray, List.set_cons_zero, List.set_cons_succ])
  have ht : decide (rowAt M a b = rowAt M a b) = true := by simp
  refine wpAnyH_ready (rs := [21]) (by kernel_rfl) (by simp) ?_
  refine AllReadyH.cons (o := _) rfl (fun K hK => ?_) AllReadyH.nil
  (try simp only [List.getElem_toArray, List.getElem_cons_succ, List.getElem_cons_zero])
  go_simp
  (with_reducible refine (ints_any _ _ _ _ (rowAt M a b) (rowAt M a b) _ (SlInt.of_bk kp) (SlInt.of_bk kq) (by simp [rowAt]) (by simp [rowAt])).mono ?_)
  rintro e w9 ⟨rfl, hb⟩
  replace k10 := k10.keep hb
  replace hbl := below_tr hbl hb
  rw [ht]
  clear kp kq ht
  clear hb
  refine hK.out _ _ k10 (fun hS' => ?_)
  clear hS' hK K
  (try simp only [List.getElem_toArray, List.getElem_cons_succ, List.getElem_cons_zero, Act.put, List.setIfInBounds_toArray, List.set_cons_zero, List.set_cons_succ])
  refine wpAnyH_take (i := 22) (oi := _) (v := .bool true) rfl (by kernel_rfl) (by kernel_rfl) (by kernel_rfl) (fun _ _ _ h => h) (Or.inl ⟨by rfl, ?_⟩) k10 ?_
  · intro w' hSw
    (try simp only [List.getElem_toArray, List.getElem_cons_succ, List.getElem_cons_zero])
    go_simp
  (try simp only [List.getElem_toArray, List.getElem_cons_succ, List.getElem_cons_zero, Act.put, List.setIfInBounds_toArray, List.set_cons_zero, List.set_cons_succ])
  refine wpAnyH_take (i := 23) (oi := _) (v := .bool true) rfl (by kernel_rfl) (by kernel_rfl) (by kernel_rfl) (fun _ _ _ h => h) (Or.inl ⟨by rfl, ?_⟩) k10 ?_
  · intro w' hSw
    (try simp only [List.getElem_toArray, List.getElem_cons_succ, List.getElem_cons_zero])
    go_simp
  (try simp only [List.getElem_toArray, List.getElem_cons_succ, List.getElem_cons_zero, Act.put, List.setIfInBounds_toArray, List.set_cons_zero, List.set_cons_succ])
  refine wpAnyH_done (by kernel_rfl) ?_ _
  go_wp2
  go_ret
  exact ⟨rfl, hbl⟩
end Go.Proofs.Ythaieabhlodajaa
