/- task.programs' make. Printed by make_gen.py. -/
import Derived.Test.YtcjaomiihajjbaaTaskD
namespace Go.Proofs.Ytcjaomiihajjbaa
open Go.RowKit
attribute [local go_sem ↓] Go.wp_at_zero Go.wp_at_succ

theorem Env.drew {w : World} {l : Ly} {B gL gd gf gm gl : Nat} {A : Option Addr} {cap m : Nat} {log : List (Int × Bool)} (h : Env w l B gL gd gf gm gl A cap m log) : Env w.drew l B gL gd gf gm gl A cap m log :=
  ⟨h.kL, h.kd, h.kf, ⟨h.st.km, h.st.kl, h.st.sl, h.st.bm, h.st.ne, h.st.le⟩, h.n1, h.n2, h.n3⟩
theorem Stp.drew {gm : Nat} {w w' : World} (h : Stp gm w w') : Stp gm w w'.drew := ⟨h.os, h.tape, h.output, h.size, h.block⟩
def makeM (l : Ly) (op : Opr) (log : List (Int × Bool)) : Ans :=
  askM log 0 4 l.count 0 1 fun x => if l.c.tasks ≤ x.1 then .out 0 false 10 0 else
    askM log 1 2 (taskAt l (x.1 + 1) 3) 0 op.a fun _ => askM log 2 2 (taskAt l (x.1 + 1) 1) 0 1 fun _ => askM log 3 4 (taskAt l op.a 1) 0 1 fun _ => askM log 4 2 (taskAt l (x.1 + 1) 0) 0 1 fun _ => .out (x.1 + 1) true 0 4
set_option maxRecDepth 100000 in
set_option maxHeartbeats 8000000 in
theorem make_any {w : World} {l : Ly} {B gL gd gf gm gl gp : Nat} {A : Option Addr} {cap : Nat} {log : List (Int × Bool)} {op : Opr} (h : Env w l B gL gd gf gm gl A cap 0 log) (kp : Bk w gp 30 (oprC op)) (np : gp ≠ gm) (f : TkFit l) (ha : op.a ≤ 9223372036854775807) (hlo : ∀ x ∈ log, -9223372036854775808 ≤ x.1 ∧ x.1 ≤ 9223372036854775807) :
    Calls Try.prog 37 #[ptr gd, ptr gL, ptr gf, ptr gp] w (ProgPost gm (makeM l op log) w) := by
  have hgm := h.st.km.lt
  have nr : w.heap.size ≠ gm := by omega
  have kr := Bk.made w 50 outZ
  have hst : Stp gm w (w.alloc (.cells outZ 50)) := (Stp.refl gm w).alloc (.cells outZ 50)
  replace h := h.keep (below_al (Below.refl _ _) (.cells outZ 50))
  replace kp := kp.alloc (.cells outZ 50)
  obtain ⟨ans, hans⟩ : ∃ ans, makeM l op log = ans := ⟨_, rfl⟩
  rw [hans]
  have HA := Lib.hid hans
  have ft0 := f.t0
  have ft1 := f.t1
  clear hans
  go_enter Try.func37, Try.ntmps37
  go_upto_region 1 with fail
  generalize w.alloc (.cells outZ 50) = w1 at *
  have q1 := h.kd.cell 0
  have q2 := h.kL.cell 10
  simp at q1 q2
  go_wp2_with fail
  clear q1 q2
  cases hg : log[0]? with
  | none =>
    (with_reducible refine (do_asks 4 l.count 0 1 h.st (by have := List.getElem?_eq_none_iff.1 hg; have := h.st.le; omega)).mono ?_)
    rintro e w3 ⟨rfl, hb⟩
    replace hst := hst.trans (.of_below gm hb)
    clear hb
    have hr : ans = .ask 4 l.count 0 1 := by rw [← HA.out]; unfold makeM; rw [askM_none hg]
    refine ⟨rfl, ?_⟩
    rw [hr]
    exact ⟨rfl, hst⟩
  | some x =>
    obtain ⟨x1, x2⟩ := x
    have hx := hlo _ (List.mem_of_getElem? hg)
    dsimp only at hx
    clear hlo
    (with_reducible refine (do_told 4 l.count 0 1 h.st hg).mono ?_)
    rintro e w3 ⟨rfl, hd, hs⟩
    replace h := h.step hs hd
    replace kp := hs.keep kp np
    replace kr := hs.keep kr nr
    replace hst := hst.trans hs
    clear hd hs
    have q2 := h.kL.cell 4
    simp at q2
    have hf0 := res_field0 x1 x2
    by_cases hfull : l.c.tasks ≤ x1
    · have g1 : decide (l.c.tasks ≤ x1) = true := by simpa using hfull
      have hr : ans = .out 0 false 10 0 := by rw [← HA.out]; unfold makeM; rw [askM_some hg]; dsimp only; rw [if_pos hfull]
      have hrow := setRow_heap _ _ outZ (outC 0 false 10 0) 50 (0, 0) kr
      have hst2 := hst.setRow (cs := outC 0 false 10 0) kr (Nat.le_refl _)
      clear h kp hfull
      go_wp2_with (refine wpList_store_rowTo rfl 50 (.tmp 4) (.tmp 17) rfl rfl w.heap.size (outC 0 false 10 0) rfl rfl 50 outZ kr (by kernel_rfl) rfl (by simp [Value.oneCell']) ?_)
      refine bodyPost_ret (v := .agg (outC 0 false 10 0)) (results_cell_row (p := 4) (ty := 50) rfl _ _ w.heap.size 50 (outC 0 false 10 0) (0, 0) _ rfl hrow Try.underlying50 rfl (by kernel_rfl)) rfl ?_
      rw [hr]
      exact ⟨rfl, hst2⟩
    · have g1 : decide (l.c.tasks ≤ x1) = false := by simpa using hfull
      have hm1 : makeM l op log = askM log 1 2 (taskAt l (x1 + 1) 3) 0 op.a fun _ => askM log 2 2 (taskAt l (x1 + 1) 1) 0 1 fun _ => askM log 3 4 (taskAt l op.a 1) 0 1 fun _ => askM log 4 2 (taskAt l (x1 + 1) 0) 0 1 fun _ => .out (x1 + 1) true 0 4 := by
        unfold makeM; rw [askM_some hg]; dsimp only; rw [if_neg hfull]
      rw [hm1] at HA
      have htt : x1 + 1 ≤ 64 ∧ -9223372036854775808 ≤ x1 := by omega
      clear hm1
      go_upto_region 5 with fail
      clear q2 g1 hf0 hfull
      obtain ⟨tt, htt2⟩ : ∃ tt, x1 + 1 = tt := ⟨_, rfl⟩
      rw [htt2] at htt HA ⊢
      clear htt2
      go_wp2_with fail
      refine wp_region_held_drew (S := fun w' => Bk w' gd 83 #[doV gm gl] ∧ Bk w' gf 92 #[ofV gL] ∧ Bk w' gp 30 (oprC op)) (by kernel_rfl) ⟨h.kd.drew, h.kf.drew, kp.drew⟩ (fun hHeld => ?_)
      clear hHeld
      replace h := h.drew
      replace kp := kp.drew
      replace kr := kr.drew
      replace hst := hst.drew
      generalize w3.drew = w4 at *
      refine wpAnyH_take (i := 0) (oi := _) (v := doV gm gl) rfl (by kernel_rfl) (by kernel_rfl) (by kernel_rfl) (fun _ _ _ h => h) (Or.inl ⟨by rfl, ?_⟩) ⟨h.kd, h.kf, kp⟩ ?_
      · intro w' hSw
        have s1 := hSw.1.cell 0
        have s2 := hSw.2.1.cell 0
        have s3 := hSw.2.2.cell 2
        have s4 := hSw.2.2.cell 3
        simp at s1 s2 s3 s4
        (try simp only [List.getElem_toArray, List.getElem_cons_zero])
        (try simp only [resV])
        go_simp
        (try simp only [res_field0, res_field1, Result.andThen_ok])
      (try simp only [List.getElem_toArray, List.getElem_cons_zero, Act.put, List.setIfInBounds_toArray, List.set_cons_zero, List.set_cons_succ])
      refine wpAnyH_take (i := 1) (oi := _) (v := ofV gL) rfl (by kernel_rfl) (by kernel_rfl) (by kernel_rfl) (fun _ _ _ h => h) (Or.inl ⟨by rfl, ?_⟩) ⟨h.kd, h.kf, kp⟩ ?_
      · intro w' hSw
        have s1 := hSw.1.cell 0
        have s2 := hSw.2.1.cell 0
        have s3 := hSw.2.2.cell 2
        have s4 := hSw.2.2.cell 3
        simp at s1 s2 s3 s4
        (try simp only [List.getElem_toArray, List.getElem_cons_succ, List.getElem_cons_zero])
        (try simp only [resV])
        go_simp
        (try simp only [res_field0, res_field1, Result.andThen_ok])
      (try simp only [List.getElem_toArray, List.getElem_cons_succ, List.getElem_cons_zero, Act.put, List.setIfInBounds_toArray, List.set_cons_zero, List.set_cons_succ])
      refine wpAnyH_take (i := 2) (oi := _) (v := .int .i64 tt) rfl (by kernel_rfl) (by kernel_rfl) (by kernel_rfl) (fun _ _ _ h => h) (Or.inl ⟨by rfl, ?_⟩) ⟨h.kd, h.kf, kp⟩ ?_
      · intro w' hSw
        have s1 := hSw.1.cell 0
        have s2 := hSw.2.1.cell 0
        have s3 := hSw.2.2.cell 2
        have s4 := hSw.2.2.cell 3
        simp at s1 s2 s3 s4
        (try simp only [List.getElem_toArray, List.getElem_cons_succ, List.getElem_cons_zero])
        (try simp only [resV])
        go_simp
        (try simp only [res_field0, res_field1, Result.andThen_ok])
      (try simp only [List.getElem_toArray, List.getElem_cons_succ, List.getElem_cons_zero, Act.put, List.setIfInBounds_toArray, List.set_cons_zero, List.set_cons_succ])
      refine wpAnyH_take (i := 4) (oi := _) (v := .pointer (some ⟨gp, 2, none⟩)) rfl (by kernel_rfl) (by kernel_rfl) (by kernel_rfl) (fun _ _ _ h => h) (Or.inl ⟨by rfl, ?_⟩) ⟨h.kd, h.kf, kp⟩ ?_
      · intro w' hSw
        have s1 := hSw.1.cell 0
        have s2 := hSw.2.1.cell 0
        have s3 := hSw.2.2.cell 2
        have s4 := hSw.2.2.cell 3
        simp at s1 s2 s3 s4
        (try simp only [List.getElem_toArray, List.getElem_cons_succ, List.getElem_cons_zero])
        (try simp only [resV])
        go_simp
        (try simp only [res_field0, res_field1, Result.andThen_ok])
      (try simp only [List.getElem_toArray, List.getElem_cons_succ, List.getElem_cons_zero, Act.put, List.setIfInBounds_toArray, List.set_cons_zero, List.set_cons_succ])
      refine wpAnyH_take (i := 5) (oi := _) (v := .int .i64 op.a) rfl (by kernel_rfl) (by kernel_rfl) (by kernel_rfl) (fun _ _ _ h => h) (Or.inl ⟨by rfl, ?_⟩) ⟨h.kd, h.kf, kp⟩ ?_
      · intro w' hSw
        have s1 := hSw.1.cell 0
        have s2 := hSw.2.1.cell 0
        have s3 := hSw.2.2.cell 2
        have s4 := hSw.2.2.cell 3
        simp at s1 s2 s3 s4
        (try simp only [List.getElem_toArray, List.getElem_cons_succ, List.getElem_cons_zero])
        (try simp only [resV])
        go_simp
        (try simp only [res_field0, res_field1, Result.andThen_ok])
      (try simp only [List.getElem_toArray, List.getElem_cons_succ, List.getElem_cons_zero, Act.put, List.setIfInBounds_toArray, List.set_cons_zero, List.set_cons_succ])
      refine wpAnyH_ready (rs := [3]) (by kernel_rfl) (by simp) ?_
      refine AllReadyH.cons (o := _) rfl (fun K hK => ?_) AllReadyH.nil
      (try simp only [List.getElem_toArray, List.getElem_cons_succ, List.getElem_cons_zero])
      go_simp
      (with_reducible refine (of_call l tt 3 gL _ h.kL f (by omega)).mono ?_)
      rintro e w5 ⟨rfl, hb⟩
      replace h := h.keep hb
      replace kp := kp.keep hb
      replace kr := kr.keep hb
      replace hst := hst.trans (.of_below gm hb)
      clear hb
      obtain ⟨c1, hc1⟩ : ∃ c, taskAt l tt 3 = c := ⟨_, rfl⟩
      rw [hc1]
      have Hc1 := Lib.hid hc1
      clear hc1
      refine hK.out _ _ ⟨h.kd, h.kf, kp⟩ (fun hS' => ?_)
      clear hS' hK K
      (try simp only [List.getElem_toArray, List.getElem_cons_succ, List.getElem_cons_zero, Act.put, List.setIfInBounds_toArray, List.set_cons_zero, List.set_cons_succ])
      refine wpAnyH_ready (rs := [6]) (by kernel_rfl) (by simp) ?_
      refine AllReadyH.cons (o := _) rfl (fun K hK => ?_) AllReadyH.nil
      (try simp only [List.getElem_toArray, List.getElem_cons_succ, List.getElem_cons_zero])
      go_simp
      cases hg1 : log[1]? with
      | none =>
        (with_reducible refine (do_asks 2 c1 0 op.a h.st (by have := List.getElem?_eq_none_iff.1 hg1; have := (List.getElem?_eq_some_iff.1 hg).1; omega)).mono ?_)
        rintro e w6 ⟨rfl, hb⟩
        replace hst := hst.trans (.of_below gm hb)
        clear hb
        have hr : ans = .ask 2 c1 0 op.a := by rw [← HA.out]; rw [askM_none hg1, Hc1.out]
        refine ⟨rfl, ?_⟩
        rw [hr]
        exact ⟨rfl, hst⟩
      | some y1 =>
        (with_reducible refine (do_told 2 c1 0 op.a h.st hg1).mono ?_)
        rintro e w6 ⟨rfl, hd, hs⟩
        replace h := h.step hs hd
        replace kp := hs.keep kp np
        replace kr := hs.keep kr nr
        replace hst := hst.trans hs
        clear hd hs
        refine hK.out _ _ ⟨h.kd, h.kf, kp⟩ (fun hS' => ?_)
        clear hS' hK K
        (try simp only [List.getElem_toArray, List.getElem_cons_succ, List.getElem_cons_zero, Act.put, List.setIfInBounds_toArray, List.set_cons_zero, List.set_cons_succ])
        refine wpAnyH_done (by kernel_rfl) ?_ _
        go_wp2_with fail
        refine wp_region_held_drew (S := fun w' => Bk w' gd 83 #[doV gm gl] ∧ Bk w' gf 92 #[ofV gL] ∧ Bk w' gp 30 (oprC op)) (by kernel_rfl) ⟨h.kd.drew, h.kf.drew, kp.drew⟩ (fun hHeld => ?_)
        clear hHeld
        replace h := h.drew
        replace kp := kp.drew
        replace kr := kr.drew
        replace hst := hst.drew
        generalize w6.drew = w7 at *
        refine wpAnyH_take (i := 0) (oi := _) (v := doV gm gl) rfl (by kernel_rfl) (by kernel_rfl) (by kernel_rfl) (fun _ _ _ h => h) (Or.inl ⟨by rfl, ?_⟩) ⟨h.kd, h.kf, kp⟩ ?_
        · intro w' hSw
          have s1 := hSw.1.cell 0
          have s2 := hSw.2.1.cell 0
          have s3 := hSw.2.2.cell 2
          have s4 := hSw.2.2.cell 3
          simp at s1 s2 s3 s4
          (try simp only [List.getElem_toArray, List.getElem_cons_zero])
          (try simp only [resV])
          go_simp
          (try simp only [res_field0, res_field1, Result.andThen_ok])
        (try simp only [List.getElem_toArray, List.getElem_cons_zero, Act.put, List.setIfInBounds_toArray, List.set_cons_zero, List.set_cons_succ])
        refine wpAnyH_take (i := 1) (oi := _) (v := ofV gL) rfl (by kernel_rfl) (by kernel_rfl) (by kernel_rfl) (fun _ _ _ h => h) (Or.inl ⟨by rfl, ?_⟩) ⟨h.kd, h.kf, kp⟩ ?_
        · intro w' hSw
          have s1 := hSw.1.cell 0
          have s2 := hSw.2.1.cell 0
          have s3 := hSw.2.2.cell 2
          have s4 := hSw.2.2.cell 3
          simp at s1 s2 s3 s4
          (try simp only [List.getElem_toArray, List.getElem_cons_succ, List.getElem_cons_zero])
          (try simp only [resV])
          go_simp
          (try simp only [res_field0, res_field1, Result.andThen_ok])
        (try simp only [List.getElem_toArray, List.getElem_cons_succ, List.getElem_cons_zero, Act.put, List.setIfInBounds_toArray, List.set_cons_zero, List.set_cons_succ])
        refine wpAnyH_take (i := 2) (oi := _) (v := .int .i64 tt) rfl (by kernel_rfl) (by kernel_rfl) (by kernel_rfl) (fun _ _ _ h => h) (Or.inl ⟨by rfl, ?_⟩) ⟨h.kd, h.kf, kp⟩ ?_
        · intro w' hSw
          have s1 := hSw.1.cell 0
          have s2 := hSw.2.1.cell 0
          have s3 := hSw.2.2.cell 2
          have s4 := hSw.2.2.cell 3
          simp at s1 s2 s3 s4
          (try simp only [List.getElem_toArray, List.getElem_cons_succ, List.getElem_cons_zero])
          (try simp only [resV])
          go_simp
          (try simp only [res_field0, res_field1, Result.andThen_ok])
        (try simp only [List.getElem_toArray, List.getElem_cons_succ, List.getElem_cons_zero, Act.put, List.setIfInBounds_toArray, List.set_cons_zero, List.set_cons_succ])
        refine wpAnyH_ready (rs := [3]) (by kernel_rfl) (by simp) ?_
        refine AllReadyH.cons (o := _) rfl (fun K hK => ?_) AllReadyH.nil
        (try simp only [List.getElem_toArray, List.getElem_cons_succ, List.getElem_cons_zero])
        go_simp
        (with_reducible refine (of_call l tt 1 gL _ h.kL f (by omega)).mono ?_)
        rintro e w8 ⟨rfl, hb⟩
        replace h := h.keep hb
        replace kp := kp.keep hb
        replace kr := kr.keep hb
        replace hst := hst.trans (.of_below gm hb)
        clear hb
        obtain ⟨c2, hc2⟩ : ∃ c, taskAt l tt 1 = c := ⟨_, rfl⟩
        rw [hc2]
        have Hc2 := Lib.hid hc2
        clear hc2
        refine hK.out _ _ ⟨h.kd, h.kf, kp⟩ (fun hS' => ?_)
        clear hS' hK K
        (try simp only [List.getElem_toArray, List.getElem_cons_succ, List.getElem_cons_zero, Act.put, List.setIfInBounds_toArray, List.set_cons_zero, List.set_cons_succ])
        refine wpAnyH_ready (rs := [4]) (by kernel_rfl) (by simp) ?_
        refine AllReadyH.cons (o := _) rfl (fun K hK => ?_) AllReadyH.nil
        (try simp only [List.getElem_toArray, List.getElem_cons_succ, List.getElem_cons_zero])
        go_simp
        cases hg2 : log[2]? with
        | none =>
          (with_reducible refine (do_asks 2 c2 0 1 h.st (by have := List.getElem?_eq_none_iff.1 hg2; have := (List.getElem?_eq_some_iff.1 hg1).1; omega)).mono ?_)
          rintro e w9 ⟨rfl, hb⟩
          replace hst := hst.trans (.of_below gm hb)
          clear hb
          have hr : ans = .ask 2 c2 0 1 := by rw [← HA.out]; rw [askM_some hg1, askM_none hg2, Hc2.out]
          refine ⟨rfl, ?_⟩
          rw [hr]
          exact ⟨rfl, hst⟩
        | some y2 =>
          (with_reducible refine (do_told 2 c2 0 1 h.st hg2).mono ?_)
          rintro e w9 ⟨rfl, hd, hs⟩
          replace h := h.step hs hd
          replace kp := hs.keep kp np
          replace kr := hs.keep kr nr
          replace hst := hst.trans hs
          clear hd hs
          refine hK.out _ _ ⟨h.kd, h.kf, kp⟩ (fun hS' => ?_)
          clear hS' hK K
          (try simp only [List.getElem_toArray, List.getElem_cons_succ, List.getElem_cons_zero, Act.put, List.setIfInBounds_toArray, List.set_cons_zero, List.set_cons_succ])
          refine wpAnyH_done (by kernel_rfl) ?_ _
          go_wp2_with fail
          refine wp_region_held_drew (S := fun w' => Bk w' gd 83 #[doV gm gl] ∧ Bk w' gf 92 #[ofV gL] ∧ Bk w' gp 30 (oprC op)) (by kernel_rfl) ⟨h.kd.drew, h.kf.drew, kp.drew⟩ (fun hHeld => ?_)
          clear hHeld
          replace h := h.drew
          replace kp := kp.drew
          replace kr := kr.drew
          replace hst := hst.drew
          generalize w9.drew = w10 at *
          refine wpAnyH_take (i := 0) (oi := _) (v := doV gm gl) rfl (by kernel_rfl) (by kernel_rfl) (by kernel_rfl) (fun _ _ _ h => h) (Or.inl ⟨by rfl, ?_⟩) ⟨h.kd, h.kf, kp⟩ ?_
          · intro w' hSw
            have s1 := hSw.1.cell 0
            have s2 := hSw.2.1.cell 0
            have s3 := hSw.2.2.cell 2
            have s4 := hSw.2.2.cell 3
            simp at s1 s2 s3 s4
            (try simp only [List.getElem_toArray, List.getElem_cons_zero])
            (try simp only [resV])
            go_simp
            (try simp only [res_field0, res_field1, Result.andThen_ok])
          (try simp only [List.getElem_toArray, List.getElem_cons_zero, Act.put, List.setIfInBounds_toArray, List.set_cons_zero, List.set_cons_succ])
          refine wpAnyH_take (i := 1) (oi := _) (v := ofV gL) rfl (by kernel_rfl) (by kernel_rfl) (by kernel_rfl) (fun _ _ _ h => h) (Or.inl ⟨by rfl, ?_⟩) ⟨h.kd, h.kf, kp⟩ ?_
          · intro w' hSw
            have s1 := hSw.1.cell 0
            have s2 := hSw.2.1.cell 0
            have s3 := hSw.2.2.cell 2
            have s4 := hSw.2.2.cell 3
            simp at s1 s2 s3 s4
            (try simp only [List.getElem_toArray, List.getElem_cons_succ, List.getElem_cons_zero])
            (try simp only [resV])
            go_simp
            (try simp only [res_field0, res_field1, Result.andThen_ok])
          (try simp only [List.getElem_toArray, List.getElem_cons_succ, List.getElem_cons_zero, Act.put, List.setIfInBounds_toArray, List.set_cons_zero, List.set_cons_succ])
          refine wpAnyH_take (i := 2) (oi := _) (v := .pointer (some ⟨gp, 2, none⟩)) rfl (by kernel_rfl) (by kernel_rfl) (by kernel_rfl) (fun _ _ _ h => h) (Or.inl ⟨by rfl, ?_⟩) ⟨h.kd, h.kf, kp⟩ ?_
          · intro w' hSw
            have s1 := hSw.1.cell 0
            have s2 := hSw.2.1.cell 0
            have s3 := hSw.2.2.cell 2
            have s4 := hSw.2.2.cell 3
            simp at s1 s2 s3 s4
            (try simp only [List.getElem_toArray, List.getElem_cons_succ, List.getElem_cons_zero])
            (try simp only [resV])
            go_simp
            (try simp only [res_field0, res_field1, Result.andThen_ok])
          (try simp only [List.getElem_toArray, List.getElem_cons_succ, List.getElem_cons_zero, Act.put, List.setIfInBounds_toArray, List.set_cons_zero, List.set_cons_succ])
          refine wpAnyH_take (i := 3) (oi := _) (v := .int .i64 op.a) rfl (by kernel_rfl) (by kernel_rfl) (by kernel_rfl) (fun _ _ _ h => h) (Or.inl ⟨by rfl, ?_⟩) ⟨h.kd, h.kf, kp⟩ ?_
          · intro w' hSw
            have s1 := hSw.1.cell 0
            have s2 := hSw.2.1.cell 0
            have s3 := hSw.2.2.cell 2
            have s4 := hSw.2.2.cell 3
            simp at s1 s2 s3 s4
            (try simp only [List.getElem_toArray, List.getElem_cons_succ, List.getElem_cons_zero])
            (try simp only [resV])
            go_simp
            (try simp only [res_field0, res_field1, Result.andThen_ok])
          (try simp only [List.getElem_toArray, List.getElem_cons_succ, List.getElem_cons_zero, Act.put, List.setIfInBounds_toArray, List.set_cons_zero, List.set_cons_succ])
          refine wpAnyH_ready (rs := [4]) (by kernel_rfl) (by simp) ?_
          refine AllReadyH.cons (o := _) rfl (fun K hK => ?_) AllReadyH.nil
          (try simp only [List.getElem_toArray, List.getElem_cons_succ, List.getElem_cons_zero])
          go_simp
          (with_reducible refine (of_call l op.a 1 gL _ h.kL f (by omega)).mono ?_)
          rintro e w11 ⟨rfl, hb⟩
          replace h := h.keep hb
          replace kp := kp.keep hb
          replace kr := kr.keep hb
          replace hst := hst.trans (.of_below gm hb)
          clear hb
          obtain ⟨c3, hc3⟩ : ∃ c, taskAt l op.a 1 = c := ⟨_, rfl⟩
          rw [hc3]
          have Hc3 := Lib.hid hc3
          clear hc3
          refine hK.out _ _ ⟨h.kd, h.kf, kp⟩ (fun hS' => ?_)
          clear hS' hK K
          (try simp only [List.getElem_toArray, List.getElem_cons_succ, List.getElem_cons_zero, Act.put, List.setIfInBounds_toArray, List.set_cons_zero, List.set_cons_succ])
          refine wpAnyH_ready (rs := [5]) (by kernel_rfl) (by simp) ?_
          refine AllReadyH.cons (o := _) rfl (fun K hK => ?_) AllReadyH.nil
          (try simp only [List.getElem_toArray, List.getElem_cons_succ, List.getElem_cons_zero])
          go_simp
          cases hg3 : log[3]? with
          | none =>
            (with_reducible refine (do_asks 4 c3 0 1 h.st (by have := List.getElem?_eq_none_iff.1 hg3; have := (List.getElem?_eq_some_iff.1 hg2).1; omega)).mono ?_)
            rintro e w12 ⟨rfl, hb⟩
            replace hst := hst.trans (.of_below gm hb)
            clear hb
            have hr : ans = .ask 4 c3 0 1 := by rw [← HA.out]; rw [askM_some hg1, askM_some hg2, askM_none hg3, Hc3.out]
            refine ⟨rfl, ?_⟩
            rw [hr]
            exact ⟨rfl, hst⟩
          | some y3 =>
            (with_reducible refine (do_told 4 c3 0 1 h.st hg3).mono ?_)
            rintro e w12 ⟨rfl, hd, hs⟩
            replace h := h.step hs hd
            replace kp := hs.keep kp np
            replace kr := hs.keep kr nr
            replace hst := hst.trans hs
            clear hd hs
            refine hK.out _ _ ⟨h.kd, h.kf, kp⟩ (fun hS' => ?_)
            clear hS' hK K
            (try simp only [List.getElem_toArray, List.getElem_cons_succ, List.getElem_cons_zero, Act.put, List.setIfInBounds_toArray, List.set_cons_zero, List.set_cons_succ])
            refine wpAnyH_done (by kernel_rfl) ?_ _
            go_wp2_with fail
            refine wp_region_held_drew (S := fun w' => Bk w' gd 83 #[doV gm gl] ∧ Bk w' gf 92 #[ofV gL] ∧ Bk w' gp 30 (oprC op)) (by kernel_rfl) ⟨h.kd.drew, h.kf.drew, kp.drew⟩ (fun hHeld => ?_)
            clear hHeld
            replace h := h.drew
            replace kp := kp.drew
            replace kr := kr.drew
            replace hst := hst.drew
            generalize w12.drew = w13 at *
            refine wpAnyH_take (i := 0) (oi := _) (v := doV gm gl) rfl (by kernel_rfl) (by kernel_rfl) (by kernel_rfl) (fun _ _ _ h => h) (Or.inl ⟨by rfl, ?_⟩) ⟨h.kd, h.kf, kp⟩ ?_
            · intro w' hSw
              have s1 := hSw.1.cell 0
              have s2 := hSw.2.1.cell 0
              have s3 := hSw.2.2.cell 2
              have s4 := hSw.2.2.cell 3
              simp at s1 s2 s3 s4
              (try simp only [List.getElem_toArray, List.getElem_cons_zero])
              (try simp only [resV])
              go_simp
              (try simp only [res_field0, res_field1, Result.andThen_ok])
            (try simp only [List.getElem_toArray, List.getElem_cons_zero, Act.put, List.setIfInBounds_toArray, List.set_cons_zero, List.set_cons_succ])
            refine wpAnyH_take (i := 1) (oi := _) (v := ofV gL) rfl (by kernel_rfl) (by kernel_rfl) (by kernel_rfl) (fun _ _ _ h => h) (Or.inl ⟨by rfl, ?_⟩) ⟨h.kd, h.kf, kp⟩ ?_
            · intro w' hSw
              have s1 := hSw.1.cell 0
              have s2 := hSw.2.1.cell 0
              have s3 := hSw.2.2.cell 2
              have s4 := hSw.2.2.cell 3
              simp at s1 s2 s3 s4
              (try simp only [List.getElem_toArray, List.getElem_cons_succ, List.getElem_cons_zero])
              (try simp only [resV])
              go_simp
              (try simp only [res_field0, res_field1, Result.andThen_ok])
            (try simp only [List.getElem_toArray, List.getElem_cons_succ, List.getElem_cons_zero, Act.put, List.setIfInBounds_toArray, List.set_cons_zero, List.set_cons_succ])
            refine wpAnyH_take (i := 2) (oi := _) (v := .int .i64 tt) rfl (by kernel_rfl) (by kernel_rfl) (by kernel_rfl) (fun _ _ _ h => h) (Or.inl ⟨by rfl, ?_⟩) ⟨h.kd, h.kf, kp⟩ ?_
            · intro w' hSw
              have s1 := hSw.1.cell 0
              have s2 := hSw.2.1.cell 0
              have s3 := hSw.2.2.cell 2
              have s4 := hSw.2.2.cell 3
              simp at s1 s2 s3 s4
              (try simp only [List.getElem_toArray, List.getElem_cons_succ, List.getElem_cons_zero])
              (try simp only [resV])
              go_simp
              (try simp only [res_field0, res_field1, Result.andThen_ok])
            (try simp only [List.getElem_toArray, List.getElem_cons_succ, List.getElem_cons_zero, Act.put, List.setIfInBounds_toArray, List.set_cons_zero, List.set_cons_succ])
            refine wpAnyH_ready (rs := [3]) (by kernel_rfl) (by simp) ?_
            refine AllReadyH.cons (o := _) rfl (fun K hK => ?_) AllReadyH.nil
            (try simp only [List.getElem_toArray, List.getElem_cons_succ, List.getElem_cons_zero])
            go_simp
            (with_reducible refine (of_call l tt 0 gL _ h.kL f (by omega)).mono ?_)
            rintro e w14 ⟨rfl, hb⟩
            replace h := h.keep hb
            replace kp := kp.keep hb
            replace kr := kr.keep hb
            replace hst := hst.trans (.of_below gm hb)
            clear hb
            obtain ⟨c4, hc4⟩ : ∃ c, taskAt l tt 0 = c := ⟨_, rfl⟩
            rw [hc4]
            have Hc4 := Lib.hid hc4
            clear hc4
            refine hK.out _ _ ⟨h.kd, h.kf, kp⟩ (fun hS' => ?_)
            clear hS' hK K
            (try simp only [List.getElem_toArray, List.getElem_cons_succ, List.getElem_cons_zero, Act.put, List.setIfInBounds_toArray, List.set_cons_zero, List.set_cons_succ])
            refine wpAnyH_ready (rs := [4]) (by kernel_rfl) (by simp) ?_
            refine AllReadyH.cons (o := _) rfl (fun K hK => ?_) AllReadyH.nil
            (try simp only [List.getElem_toArray, List.getElem_cons_succ, List.getElem_cons_zero])
            go_simp
            cases hg4 : log[4]? with
            | none =>
              (with_reducible refine (do_asks 2 c4 0 1 h.st (by have := List.getElem?_eq_none_iff.1 hg4; have := (List.getElem?_eq_some_iff.1 hg3).1; omega)).mono ?_)
              rintro e w15 ⟨rfl, hb⟩
              replace hst := hst.trans (.of_below gm hb)
              clear hb
              have hr : ans = .ask 2 c4 0 1 := by rw [← HA.out]; rw [askM_some hg1, askM_some hg2, askM_some hg3, askM_none hg4, Hc4.out]
              refine ⟨rfl, ?_⟩
              rw [hr]
              exact ⟨rfl, hst⟩
            | some y4 =>
              (with_reducible refine (do_told 2 c4 0 1 h.st hg4).mono ?_)
              rintro e w15 ⟨rfl, hd, hs⟩
              replace h := h.step hs hd
              replace kp := hs.keep kp np
              replace kr := hs.keep kr nr
              replace hst := hst.trans hs
              clear hd hs
              refine hK.out _ _ ⟨h.kd, h.kf, kp⟩ (fun hS' => ?_)
              clear hS' hK K
              (try simp only [List.getElem_toArray, List.getElem_cons_succ, List.getElem_cons_zero, Act.put, List.setIfInBounds_toArray, List.set_cons_zero, List.set_cons_succ])
              refine wpAnyH_done (by kernel_rfl) ?_ _
              have hr : ans = .out tt true 0 4 := by rw [← HA.out, askM_some hg1, askM_some hg2, askM_some hg3, askM_some hg4]
              have hrow := setRow_heap _ _ outZ (outC tt true 0 4) 50 (0, 0) kr
              have hst2 := hst.setRow (cs := outC tt true 0 4) kr (Nat.le_refl _)
              clear h kp
              go_wp2_with (refine wpList_store_rowTo rfl 50 (.tmp 4) (.tmp 44) rfl rfl w.heap.size (outC tt true 0 4) rfl rfl 50 outZ kr (by kernel_rfl) rfl (by simp [Value.oneCell']) ?_)
              refine bodyPost_ret (v := .agg (outC tt true 0 4)) (results_cell_row (p := 4) (ty := 50) rfl _ _ w.heap.size 50 (outC tt true 0 4) (0, 0) _ rfl hrow Try.underlying50 rfl (by kernel_rfl)) rfl ?_
              rw [hr]
              exact ⟨rfl, hst2⟩
end Go.Proofs.Ytcjaomiihajjbaa
