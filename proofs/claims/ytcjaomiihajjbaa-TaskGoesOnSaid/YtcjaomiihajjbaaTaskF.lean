/- task.programs' end. Printed by make_gen.py. -/
import Derived.Test.YtcjaomiihajjbaaTaskE
namespace Go.Proofs.Ytcjaomiihajjbaa
open Go.RowKit
attribute [local go_sem ↓] Go.wp_at_zero Go.wp_at_succ

def endM (l : Ly) (op : Opr) (log : List (Int × Bool)) : Ans :=
  askM log 0 2 (taskAt l op.a 2) 0 op.b fun _ => askM log 1 2 (taskAt l op.a 0) 0 3 fun _ => askM log 2 1 (taskAt l op.a 3) 0 0 fun x =>
    if x.1 = 0 then askM log 3 2 l.done 0 1 fun _ => .out 0 true 0 1 else joinedM l log 3 x.1 fun b => .out (if b then x.1 else 0) false 0 1
set_option maxRecDepth 100000 in
set_option maxHeartbeats 8000000 in
theorem end_any {w : World} {l : Ly} {B gL gd gf gm gl gp gj : Nat} {A : Option Addr} {cap : Nat} {log : List (Int × Bool)} {op : Opr} (h : Env w l B gL gd gf gm gl A cap 0 log) (kp : Bk w gp 30 (oprC op)) (np : gp ≠ gm) (kj : Bk w gj 96 #[joV gd gf]) (nj : gj ≠ gm) (f : TkFit l) (ha : op.a ≤ 9223372036854775807) (hlo : ∀ x ∈ log, -9223372036854775808 ≤ x.1 ∧ x.1 ≤ 9223372036854775807) :
    Calls Try.prog 40 #[ptr gd, ptr gf, ptr gp, ptr gL, ptr gj] w (ProgPost gm (endM l op log) w) := by
  have hgm := h.st.km.lt
  have nr : w.heap.size ≠ gm := by omega
  have kr := Bk.made w 50 outZ
  have hst : Stp gm w (w.alloc (.cells outZ 50)) := (Stp.refl gm w).alloc (.cells outZ 50)
  replace h := h.keep (below_al (Below.refl _ _) (.cells outZ 50))
  replace kp := kp.alloc (.cells outZ 50)
  replace kj := kj.alloc (.cells outZ 50)
  obtain ⟨ans, hans⟩ : ∃ ans, endM l op log = ans := ⟨_, rfl⟩
  rw [hans]
  have HA := Lib.hid hans
  clear hans
  unfold endM at HA
  go_enter Try.func40, Try.ntmps40
  go_upto_region 1 with fail
  generalize w.alloc (.cells outZ 50) = w0 at *
  go_wp2_with fail
  refine wp_region_held_drew (S := fun w' => Bk w' gd 83 #[doV gm gl] ∧ Bk w' gf 92 #[ofV gL] ∧ Bk w' gp 30 (oprC op)) (by kernel_rfl) ⟨h.kd.drew, h.kf.drew, kp.drew⟩ (fun hHeld => ?_)
  clear hHeld
  replace h := h.drew
  replace kp := kp.drew
  replace kj := kj.drew
  replace kr := kr.drew
  replace hst := hst.drew
  generalize w0.drew = w1 at *
  refine wpAnyH_take (i := 0) (oi := _) (v := doV gm gl) rfl (by kernel_rfl) (by kernel_rfl) (by kernel_rfl) (fun _ _ _ h => h) (Or.inl ⟨by rfl, ?_⟩) ⟨h.kd, h.kf, kp⟩ ?_
  · intro w' hSw
    have s1 := hSw.1.cell 0
    have s2 := hSw.2.1.cell 0
    have s3 := hSw.2.2.cell 2
    have s4 := hSw.2.2.cell 3
    simp at s1 s2 s3 s4
    (try simp only [List.getElem_toArray, List.getElem_cons_zero])
    (try simp only [resV])
    go_simp
    (try simp only [res_field0, res_field1, Result.andThen_ok])
  (try simp only [List.getElem_toArray, List.getElem_cons_zero, Act.put, List.setIfInBounds_toArray, List.set_cons_zero, List.set_cons_succ])
  refine wpAnyH_take (i := 1) (oi := _) (v := ofV gL) rfl (by kernel_rfl) (by kernel_rfl) (by kernel_rfl) (fun _ _ _ h => h) (Or.inl ⟨by rfl, ?_⟩) ⟨h.kd, h.kf, kp⟩ ?_
  · intro w' hSw
    have s1 := hSw.1.cell 0
    have s2 := hSw.2.1.cell 0
    have s3 := hSw.2.2.cell 2
    have s4 := hSw.2.2.cell 3
    simp at s1 s2 s3 s4
    (try simp only [List.getElem_toArray, List.getElem_cons_succ, List.getElem_cons_zero])
    (try simp only [resV])
    go_simp
    (try simp only [res_field0, res_field1, Result.andThen_ok])
  (try simp only [List.getElem_toArray, List.getElem_cons_succ, List.getElem_cons_zero, Act.put, List.setIfInBounds_toArray, List.set_cons_zero, List.set_cons_succ])
  refine wpAnyH_take (i := 2) (oi := _) (v := .pointer (some ⟨gp, 2, none⟩)) rfl (by kernel_rfl) (by kernel_rfl) (by kernel_rfl) (fun _ _ _ h => h) (Or.inl ⟨by rfl, ?_⟩) ⟨h.kd, h.kf, kp⟩ ?_
  · intro w' hSw
    have s1 := hSw.1.cell 0
    have s2 := hSw.2.1.cell 0
    have s3 := hSw.2.2.cell 2
    have s4 := hSw.2.2.cell 3
    simp at s1 s2 s3 s4
    (try simp only [List.getElem_toArray, List.getElem_cons_succ, List.getElem_cons_zero])
    (try simp only [resV])
    go_simp
    (try simp only [res_field0, res_field1, Result.andThen_ok])
  (try simp only [List.getElem_toArray, List.getElem_cons_succ, List.getElem_cons_zero, Act.put, List.setIfInBounds_toArray, List.set_cons_zero, List.set_cons_succ])
  refine wpAnyH_take (i := 3) (oi := _) (v := .int .i64 op.a) rfl (by kernel_rfl) (by kernel_rfl) (by kernel_rfl) (fun _ _ _ h => h) (Or.inl ⟨by rfl, ?_⟩) ⟨h.kd, h.kf, kp⟩ ?_
  · intro w' hSw
    have s1 := hSw.1.cell 0
    have s2 := hSw.2.1.cell 0
    have s3 := hSw.2.2.cell 2
    have s4 := hSw.2.2.cell 3
    simp at s1 s2 s3 s4
    (try simp only [List.getElem_toArray, List.getElem_cons_succ, List.getElem_cons_zero])
    (try simp only [resV])
    go_simp
    (try simp only [res_field0, res_field1, Result.andThen_ok])
  (try simp only [List.getElem_toArray, List.getElem_cons_succ, List.getElem_cons_zero, Act.put, List.setIfInBounds_toArray, List.set_cons_zero, List.set_cons_succ])
  refine wpAnyH_take (i := 5) (oi := _) (v := .pointer (some ⟨gp, 3, none⟩)) rfl (by kernel_rfl) (by kernel_rfl) (by kernel_rfl) (fun _ _ _ h => h) (Or.inl ⟨by rfl, ?_⟩) ⟨h.kd, h.kf, kp⟩ ?_
  · intro w' hSw
    have s1 := hSw.1.cell 0
    have s2 := hSw.2.1.cell 0
    have s3 := hSw.2.2.cell 2
    have s4 := hSw.2.2.cell 3
    simp at s1 s2 s3 s4
    (try simp only [List.getElem_toArray, List.getElem_cons_succ, List.getElem_cons_zero])
    (try simp only [resV])
    go_simp
    (try simp only [res_field0, res_field1, Result.andThen_ok])
  (try simp only [List.getElem_toArray, List.getElem_cons_succ, List.getElem_cons_zero, Act.put, List.setIfInBounds_toArray, List.set_cons_zero, List.set_cons_succ])
  refine wpAnyH_take (i := 6) (oi := _) (v := .int .i64 op.b) rfl (by kernel_rfl) (by kernel_rfl) (by kernel_rfl) (fun _ _ _ h => h) (Or.inl ⟨by rfl, ?_⟩) ⟨h.kd, h.kf, kp⟩ ?_
  · intro w' hSw
    have s1 := hSw.1.cell 0
    have s2 := hSw.2.1.cell 0
    have s3 := hSw.2.2.cell 2
    have s4 := hSw.2.2.cell 3
    simp at s1 s2 s3 s4
    (try simp only [List.getElem_toArray, List.getElem_cons_succ, List.getElem_cons_zero])
    (try simp only [resV])
    go_simp
    (try simp only [res_field0, res_field1, Result.andThen_ok])
  (try simp only [List.getElem_toArray, List.getElem_cons_succ, List.getElem_cons_zero, Act.put, List.setIfInBounds_toArray, List.set_cons_zero, List.set_cons_succ])
  refine wpAnyH_ready (rs := [4]) (by kernel_rfl) (by simp) ?_
  refine AllReadyH.cons (o := _) rfl (fun K hK => ?_) AllReadyH.nil
  (try simp only [List.getElem_toArray, List.getElem_cons_succ, List.getElem_cons_zero])
  go_simp
  (with_reducible refine (of_call l op.a 2 gL _ h.kL f (by omega)).mono ?_)
  rintro e w2 ⟨rfl, hb⟩
  replace h := h.keep hb
  replace kp := kp.keep hb
  replace kj := kj.keep hb
  replace kr := kr.keep hb
  replace hst := hst.trans (.of_below gm hb)
  clear hb
  obtain ⟨c1, hc1⟩ : ∃ c, taskAt l op.a 2 = c := ⟨_, rfl⟩
  rw [hc1]
  have Hc1 := Lib.hid hc1
  clear hc1
  refine hK.out _ _ ⟨h.kd, h.kf, kp⟩ (fun hS' => ?_)
  clear hS' hK K
  (try simp only [List.getElem_toArray, List.getElem_cons_succ, List.getElem_cons_zero, Act.put, List.setIfInBounds_toArray, List.set_cons_zero, List.set_cons_succ])
  refine wpAnyH_ready (rs := [7]) (by kernel_rfl) (by simp) ?_
  refine AllReadyH.cons (o := _) rfl (fun K hK => ?_) AllReadyH.nil
  (try simp only [List.getElem_toArray, List.getElem_cons_succ, List.getElem_cons_zero])
  go_simp
  cases hg0 : log[0]? with
  | none =>
    (with_reducible refine (do_asks 2 c1 0 op.b h.st (by have := List.getElem?_eq_none_iff.1 hg0; have := h.st.le; omega)).mono ?_)
    rintro e w3 ⟨rfl, hb⟩
    replace hst := hst.trans (.of_below gm hb)
    clear hb
    have hr : ans = .ask 2 c1 0 op.b := by rw [← HA.out]; rw [askM_none hg0, Hc1.out]
    refine ⟨rfl, ?_⟩
    rw [hr]
    exact ⟨rfl, hst⟩
  | some y0 =>
    (with_reducible refine (do_told 2 c1 0 op.b h.st hg0).mono ?_)
    rintro e w3 ⟨rfl, hd, hs⟩
    replace h := h.step hs hd
    replace kp := hs.keep kp np
    replace kj := hs.keep kj nj
    replace kr := hs.keep kr nr
    replace hst := hst.trans hs
    clear hd hs
    refine hK.out _ _ ⟨h.kd, h.kf, kp⟩ (fun hS' => ?_)
    clear hS' hK K
    (try simp only [List.getElem_toArray, List.getElem_cons_succ, List.getElem_cons_zero, Act.put, List.setIfInBounds_toArray, List.set_cons_zero, List.set_cons_succ])
    refine wpAnyH_done (by kernel_rfl) ?_ _
    go_wp2_with fail
    refine wp_region_held_drew (S := fun w' => Bk w' gd 83 #[doV gm gl] ∧ Bk w' gf 92 #[ofV gL] ∧ Bk w' gp 30 (oprC op)) (by kernel_rfl) ⟨h.kd.drew, h.kf.drew, kp.drew⟩ (fun hHeld => ?_)
    clear hHeld
    replace h := h.drew
    replace kp := kp.drew
    replace kj := kj.drew
    replace kr := kr.drew
    replace hst := hst.drew
    generalize w3.drew = w4 at *
    refine wpAnyH_take (i := 0) (oi := _) (v := doV gm gl) rfl (by kernel_rfl) (by kernel_rfl) (by kernel_rfl) (fun _ _ _ h => h) (Or.inl ⟨by rfl, ?_⟩) ⟨h.kd, h.kf, kp⟩ ?_
    · intro w' hSw
      have s1 := hSw.1.cell 0
      have s2 := hSw.2.1.cell 0
      have s3 := hSw.2.2.cell 2
      have s4 := hSw.2.2.cell 3
      simp at s1 s2 s3 s4
      (try simp only [List.getElem_toArray, List.getElem_cons_zero])
      (try simp only [resV])
      go_simp
      (try simp only [res_field0, res_field1, Result.andThen_ok])
    (try simp only [List.getElem_toArray, List.getElem_cons_zero, Act.put, List.setIfInBounds_toArray, List.set_cons_zero, List.set_cons_succ])
    refine wpAnyH_take (i := 1) (oi := _) (v := ofV gL) rfl (by kernel_rfl) (by kernel_rfl) (by kernel_rfl) (fun _ _ _ h => h) (Or.inl ⟨by rfl, ?_⟩) ⟨h.kd, h.kf, kp⟩ ?_
    · intro w' hSw
      have s1 := hSw.1.cell 0
      have s2 := hSw.2.1.cell 0
      have s3 := hSw.2.2.cell 2
      have s4 := hSw.2.2.cell 3
      simp at s1 s2 s3 s4
      (try simp only [List.getElem_toArray, List.getElem_cons_succ, List.getElem_cons_zero])
      (try simp only [resV])
      go_simp
      (try simp only [res_field0, res_field1, Result.andThen_ok])
    (try simp only [List.getElem_toArray, List.getElem_cons_succ, List.getElem_cons_zero, Act.put, List.setIfInBounds_toArray, List.set_cons_zero, List.set_cons_succ])
    refine wpAnyH_take (i := 2) (oi := _) (v := .pointer (some ⟨gp, 2, none⟩)) rfl (by kernel_rfl) (by kernel_rfl) (by kernel_rfl) (fun _ _ _ h => h) (Or.inl ⟨by rfl, ?_⟩) ⟨h.kd, h.kf, kp⟩ ?_
    · intro w' hSw
      have s1 := hSw.1.cell 0
      have s2 := hSw.2.1.cell 0
      have s3 := hSw.2.2.cell 2
      have s4 := hSw.2.2.cell 3
      simp at s1 s2 s3 s4
      (try simp only [List.getElem_toArray, List.getElem_cons_succ, List.getElem_cons_zero])
      (try simp only [resV])
      go_simp
      (try simp only [res_field0, res_field1, Result.andThen_ok])
    (try simp only [List.getElem_toArray, List.getElem_cons_succ, List.getElem_cons_zero, Act.put, List.setIfInBounds_toArray, List.set_cons_zero, List.set_cons_succ])
    refine wpAnyH_take (i := 3) (oi := _) (v := .int .i64 op.a) rfl (by kernel_rfl) (by kernel_rfl) (by kernel_rfl) (fun _ _ _ h => h) (Or.inl ⟨by rfl, ?_⟩) ⟨h.kd, h.kf, kp⟩ ?_
    · intro w' hSw
      have s1 := hSw.1.cell 0
      have s2 := hSw.2.1.cell 0
      have s3 := hSw.2.2.cell 2
      have s4 := hSw.2.2.cell 3
      simp at s1 s2 s3 s4
      (try simp only [List.getElem_toArray, List.getElem_cons_succ, List.getElem_cons_zero])
      (try simp only [resV])
      go_simp
      (try simp only [res_field0, res_field1, Result.andThen_ok])
    (try simp only [List.getElem_toArray, List.getElem_cons_succ, List.getElem_cons_zero, Act.put, List.setIfInBounds_toArray, List.set_cons_zero, List.set_cons_succ])
    refine wpAnyH_ready (rs := [4]) (by kernel_rfl) (by simp) ?_
    refine AllReadyH.cons (o := _) rfl (fun K hK => ?_) AllReadyH.nil
    (try simp only [List.getElem_toArray, List.getElem_cons_succ, List.getElem_cons_zero])
    go_simp
    (with_reducible refine (of_call l op.a 0 gL _ h.kL f (by omega)).mono ?_)
    rintro e w5 ⟨rfl, hb⟩
    replace h := h.keep hb
    replace kp := kp.keep hb
    replace kj := kj.keep hb
    replace kr := kr.keep hb
    replace hst := hst.trans (.of_below gm hb)
    clear hb
    obtain ⟨c2, hc2⟩ : ∃ c, taskAt l op.a 0 = c := ⟨_, rfl⟩
    rw [hc2]
    have Hc2 := Lib.hid hc2
    clear hc2
    refine hK.out _ _ ⟨h.kd, h.kf, kp⟩ (fun hS' => ?_)
    clear hS' hK K
    (try simp only [List.getElem_toArray, List.getElem_cons_succ, List.getElem_cons_zero, Act.put, List.setIfInBounds_toArray, List.set_cons_zero, List.set_cons_succ])
    refine wpAnyH_ready (rs := [5]) (by kernel_rfl) (by simp) ?_
    refine AllReadyH.cons (o := _) rfl (fun K hK => ?_) AllReadyH.nil
    (try simp only [List.getElem_toArray, List.getElem_cons_succ, List.getElem_cons_zero])
    go_simp
    cases hg1 : log[1]? with
    | none =>
      (with_reducible refine (do_asks 2 c2 0 3 h.st (by have := List.getElem?_eq_none_iff.1 hg1; have := (List.getElem?_eq_some_iff.1 hg0).1; omega)).mono ?_)
      rintro e w6 ⟨rfl, hb⟩
      replace hst := hst.trans (.of_below gm hb)
      clear hb
      have hr : ans = .ask 2 c2 0 3 := by rw [← HA.out]; rw [askM_some hg0, askM_none hg1, Hc2.out]
      refine ⟨rfl, ?_⟩
      rw [hr]
      exact ⟨rfl, hst⟩
    | some y1 =>
      (with_reducible refine (do_told 2 c2 0 3 h.st hg1).mono ?_)
      rintro e w6 ⟨rfl, hd, hs⟩
      replace h := h.step hs hd
      replace kp := hs.keep kp np
      replace kj := hs.keep kj nj
      replace kr := hs.keep kr nr
      replace hst := hst.trans hs
      clear hd hs
      refine hK.out _ _ ⟨h.kd, h.kf, kp⟩ (fun hS' => ?_)
      clear hS' hK K
      (try simp only [List.getElem_toArray, List.getElem_cons_succ, List.getElem_cons_zero, Act.put, List.setIfInBounds_toArray, List.set_cons_zero, List.set_cons_succ])
      refine wpAnyH_done (by kernel_rfl) ?_ _
      go_wp2_with fail
      refine wp_region_held_drew (S := fun w' => Bk w' gd 83 #[doV gm gl] ∧ Bk w' gf 92 #[ofV gL] ∧ Bk w' gp 30 (oprC op)) (by kernel_rfl) ⟨h.kd.drew, h.kf.drew, kp.drew⟩ (fun hHeld => ?_)
      clear hHeld
      replace h := h.drew
      replace kp := kp.drew
      replace kj := kj.drew
      replace kr := kr.drew
      replace hst := hst.drew
      generalize w6.drew = w7 at *
      refine wpAnyH_take (i := 0) (oi := _) (v := doV gm gl) rfl (by kernel_rfl) (by kernel_rfl) (by kernel_rfl) (fun _ _ _ h => h) (Or.inl ⟨by rfl, ?_⟩) ⟨h.kd, h.kf, kp⟩ ?_
      · intro w' hSw
        have s1 := hSw.1.cell 0
        have s2 := hSw.2.1.cell 0
        have s3 := hSw.2.2.cell 2
        have s4 := hSw.2.2.cell 3
        simp at s1 s2 s3 s4
        (try simp only [List.getElem_toArray, List.getElem_cons_zero])
        (try simp only [resV])
        go_simp
        (try simp only [res_field0, res_field1, Result.andThen_ok])
      (try simp only [List.getElem_toArray, List.getElem_cons_zero, Act.put, List.setIfInBounds_toArray, List.set_cons_zero, List.set_cons_succ])
      refine wpAnyH_take (i := 1) (oi := _) (v := ofV gL) rfl (by kernel_rfl) (by kernel_rfl) (by kernel_rfl) (fun _ _ _ h => h) (Or.inl ⟨by rfl, ?_⟩) ⟨h.kd, h.kf, kp⟩ ?_
      · intro w' hSw
        have s1 := hSw.1.cell 0
        have s2 := hSw.2.1.cell 0
        have s3 := hSw.2.2.cell 2
        have s4 := hSw.2.2.cell 3
        simp at s1 s2 s3 s4
        (try simp only [List.getElem_toArray, List.getElem_cons_succ, List.getElem_cons_zero])
        (try simp only [resV])
        go_simp
        (try simp only [res_field0, res_field1, Result.andThen_ok])
      (try simp only [List.getElem_toArray, List.getElem_cons_succ, List.getElem_cons_zero, Act.put, List.setIfInBounds_toArray, List.set_cons_zero, List.set_cons_succ])
      refine wpAnyH_take (i := 2) (oi := _) (v := .pointer (some ⟨gp, 2, none⟩)) rfl (by kernel_rfl) (by kernel_rfl) (by kernel_rfl) (fun _ _ _ h => h) (Or.inl ⟨by rfl, ?_⟩) ⟨h.kd, h.kf, kp⟩ ?_
      · intro w' hSw
        have s1 := hSw.1.cell 0
        have s2 := hSw.2.1.cell 0
        have s3 := hSw.2.2.cell 2
        have s4 := hSw.2.2.cell 3
        simp at s1 s2 s3 s4
        (try simp only [List.getElem_toArray, List.getElem_cons_succ, List.getElem_cons_zero])
        (try simp only [resV])
        go_simp
        (try simp only [res_field0, res_field1, Result.andThen_ok])
      (try simp only [List.getElem_toArray, List.getElem_cons_succ, List.getElem_cons_zero, Act.put, List.setIfInBounds_toArray, List.set_cons_zero, List.set_cons_succ])
      refine wpAnyH_take (i := 3) (oi := _) (v := .int .i64 op.a) rfl (by kernel_rfl) (by kernel_rfl) (by kernel_rfl) (fun _ _ _ h => h) (Or.inl ⟨by rfl, ?_⟩) ⟨h.kd, h.kf, kp⟩ ?_
      · intro w' hSw
        have s1 := hSw.1.cell 0
        have s2 := hSw.2.1.cell 0
        have s3 := hSw.2.2.cell 2
        have s4 := hSw.2.2.cell 3
        simp at s1 s2 s3 s4
        (try simp only [List.getElem_toArray, List.getElem_cons_succ, List.getElem_cons_zero])
        (try simp only [resV])
        go_simp
        (try simp only [res_field0, res_field1, Result.andThen_ok])
      (try simp only [List.getElem_toArray, List.getElem_cons_succ, List.getElem_cons_zero, Act.put, List.setIfInBounds_toArray, List.set_cons_zero, List.set_cons_succ])
      refine wpAnyH_ready (rs := [4]) (by kernel_rfl) (by simp) ?_
      refine AllReadyH.cons (o := _) rfl (fun K hK => ?_) AllReadyH.nil
      (try simp only [List.getElem_toArray, List.getElem_cons_succ, List.getElem_cons_zero])
      go_simp
      (with_reducible refine (of_call l op.a 3 gL _ h.kL f (by omega)).mono ?_)
      rintro e w8 ⟨rfl, hb⟩
      replace h := h.keep hb
      replace kp := kp.keep hb
      replace kj := kj.keep hb
      replace kr := kr.keep hb
      replace hst := hst.trans (.of_below gm hb)
      clear hb
      obtain ⟨c3, hc3⟩ : ∃ c, taskAt l op.a 3 = c := ⟨_, rfl⟩
      rw [hc3]
      have Hc3 := Lib.hid hc3
      clear hc3
      refine hK.out _ _ ⟨h.kd, h.kf, kp⟩ (fun hS' => ?_)
      clear hS' hK K
      (try simp only [List.getElem_toArray, List.getElem_cons_succ, List.getElem_cons_zero, Act.put, List.setIfInBounds_toArray, List.set_cons_zero, List.set_cons_succ])
      refine wpAnyH_ready (rs := [5]) (by kernel_rfl) (by simp) ?_
      refine AllReadyH.cons (o := _) rfl (fun K hK => ?_) AllReadyH.nil
      (try simp only [List.getElem_toArray, List.getElem_cons_succ, List.getElem_cons_zero])
      go_simp
      cases hg2 : log[2]? with
      | none =>
        (with_reducible refine (do_asks 1 c3 0 0 h.st (by have := List.getElem?_eq_none_iff.1 hg2; have := (List.getElem?_eq_some_iff.1 hg1).1; omega)).mono ?_)
        rintro e w9 ⟨rfl, hb⟩
        replace hst := hst.trans (.of_below gm hb)
        clear hb
        have hr : ans = .ask 1 c3 0 0 := by rw [← HA.out]; rw [askM_some hg0, askM_some hg1, askM_none hg2, Hc3.out]
        refine ⟨rfl, ?_⟩
        rw [hr]
        exact ⟨rfl, hst⟩
      | some y2 =>
        obtain ⟨x1, x2⟩ := y2
        have hx := hlo _ (List.mem_of_getElem? hg2)
        dsimp only at hx
        clear hlo
        (with_reducible refine (do_told 1 c3 0 0 h.st hg2).mono ?_)
        rintro e w9 ⟨rfl, hd, hs⟩
        replace h := h.step hs hd
        replace kp := hs.keep kp np
        replace kj := hs.keep kj nj
        replace kr := hs.keep kr nr
        replace hst := hst.trans hs
        clear hd hs
        refine hK.out _ _ ⟨h.kd, h.kf, kp⟩ (fun hS' => ?_)
        clear hS' hK K
        (try simp only [])
        refine wpAnyH_take (i := 6) (oi := _) (v := .int .i64 x1) rfl (by kernel_rfl) (by kernel_rfl) (by kernel_rfl) (fun _ _ _ h => h) (Or.inl ⟨by rfl, ?_⟩) ⟨h.kd, h.kf, kp⟩ ?_
        · intro w' hSw
          have s1 := hSw.1.cell 0
          have s2 := hSw.2.1.cell 0
          have s3 := hSw.2.2.cell 2
          have s4 := hSw.2.2.cell 3
          simp at s1 s2 s3 s4
          (try simp only [List.getElem_toArray, List.getElem_cons_succ, List.getElem_cons_zero])
          (try simp only [resV])
          go_simp
          (try simp only [res_field0, Result.andThen_ok])
        (try simp only [List.getElem_toArray, List.getElem_cons_succ, List.getElem_cons_zero, Act.put, List.setIfInBounds_toArray, List.set_cons_zero, List.set_cons_succ])
        refine wpAnyH_take (i := 7) (oi := _) (v := .int .i64 x1) rfl (by kernel_rfl) (by kernel_rfl) (by kernel_rfl) (fun _ _ _ h => h) (Or.inl ⟨by rfl, ?_⟩) ⟨h.kd, h.kf, kp⟩ ?_
        · intro w' hSw
          have s1 := hSw.1.cell 0
          have s2 := hSw.2.1.cell 0
          have s3 := hSw.2.2.cell 2
          have s4 := hSw.2.2.cell 3
          simp at s1 s2 s3 s4
          (try simp only [List.getElem_toArray, List.getElem_cons_succ, List.getElem_cons_zero])
          (try simp only [resV])
          go_simp
          (try simp only [res_field0, res_field1, Result.andThen_ok])
        (try simp only [List.getElem_toArray, List.getElem_cons_succ, List.getElem_cons_zero, Act.put, List.setIfInBounds_toArray, List.set_cons_zero, List.set_cons_succ])
        refine wpAnyH_done (by kernel_rfl) ?_ _
        rw [askM_some hg0, askM_some hg1, askM_some hg2] at HA
        by_cases hz : x1 = 0
        · subst hz
          rw [if_pos rfl] at HA
          have q1 := h.kd.cell 0
          have q2 := h.kL.cell 9
          simp at q1 q2
          go_wp2_with fail
          clear q1 q2
          cases hg3 : log[3]? with
          | none =>
            (with_reducible refine (do_asks 2 l.done 0 1 h.st (by have := List.getElem?_eq_none_iff.1 hg3; have := (List.getElem?_eq_some_iff.1 hg2).1; omega)).mono ?_)
            rintro e w10 ⟨rfl, hb⟩
            replace hst := hst.trans (.of_below gm hb)
            clear hb
            have hr : ans = .ask 2 l.done 0 1 := by rw [← HA.out, askM_none hg3]
            refine ⟨rfl, ?_⟩
            rw [hr]
            exact ⟨rfl, hst⟩
          | some y3 =>
            (with_reducible refine (do_told 2 l.done 0 1 h.st hg3).mono ?_)
            rintro e w10 ⟨rfl, hd, hs⟩
            replace kr := hs.keep kr nr
            replace hst := hst.trans hs
            clear hd hs h kp kj
            have hr : ans = .out 0 true 0 1 := by rw [← HA.out, askM_some hg3]
            have hrow := setRow_heap _ _ outZ (outC 0 true 0 1) 50 (0, 0) kr
            have hst2 := hst.setRow (cs := outC 0 true 0 1) kr (Nat.le_refl _)
            go_wp2_with (refine wpList_store_rowTo rfl 50 (.tmp 5) (.tmp 35) rfl rfl w.heap.size (outC 0 true 0 1) rfl rfl 50 outZ kr (by kernel_rfl) rfl (by simp [Value.oneCell']) ?_)
            refine bodyPost_ret (v := .agg (outC 0 true 0 1)) (results_cell_row (p := 5) (ty := 50) rfl _ _ w.heap.size 50 (outC 0 true 0 1) (0, 0) _ rfl hrow Try.underlying50 rfl (by kernel_rfl)) rfl ?_
            rw [hr]
            exact ⟨rfl, hst2⟩
        · rw [if_neg hz] at HA
          have g1 : (x1 == 0) = false := by simp [hz]
          have kv := Bk.made w9 50 (outC 0 false 0 1)
          have n9 := hst.size
          have n9' := kr.lt
          have hgm9 := h.st.km.lt
          replace h := h.keep (below_al (Below.refl _ _) (.cells (outC 0 false 0 1) 50))
          replace kj := kj.alloc (.cells (outC 0 false 0 1) 50)
          replace kr := kr.alloc (.cells (outC 0 false 0 1) 50)
          replace hst := hst.alloc (.cells (outC 0 false 0 1) 50)
          go_upto_region 8 with (refine wpList_store_new rfl 50 (.tmp 7) (.tmp 36) rfl rfl w9.heap.size _ _ (outC 0 false 0 1) rfl rfl rfl rfl (by kernel_rfl) rfl (by simp [Value.oneCell']) ?_; (generalize w9.alloc (.cells (outC 0 false 0 1) 50) = w10 at *))
          have nv : w9.heap.size ≠ gm := by omega
          have nvr : w.heap.size ≠ w9.heap.size := by omega
          generalize hgv : w9.heap.size = gv at *
          clear hgv g1
          have q1 := kj.cell 0
          simp at q1
          go_wp2_with fail
          clear q1 kp
          cases hg3 : log[3]? with
          | none =>
            (with_reducible refine (joined_ask1 x1 h f hx.2 (by have := List.getElem?_eq_none_iff.1 hg3; have := (List.getElem?_eq_some_iff.1 hg2).1; omega)).mono ?_)
            rintro e w11 ⟨rfl, hs⟩
            have hr : ans = .ask 4 (taskAt l x1 1) 0 (-1) := by rw [← HA.out]; unfold joinedM; rw [askM_none hg3]
            refine ⟨rfl, ?_⟩
            rw [hr]
            exact ⟨rfl, hst.trans hs⟩
          | some y =>
            obtain ⟨y1, y2⟩ := y
            by_cases h1 : y1 = 1
            · subst h1
              cases hg4 : log[3 + 1]? with
              | none =>
                (with_reducible refine (joined_ask2 x1 h f hx.2 hg3 (by have := List.getElem?_eq_none_iff.1 hg4; have := (List.getElem?_eq_some_iff.1 hg3).1; omega)).mono ?_)
                rintro e w11 ⟨rfl, hs⟩
                have hr : ans = .ask 2 (taskAt l x1 1) 0 1 := by rw [← HA.out]; unfold joinedM; rw [askM_some hg3, if_pos rfl, askM_none hg4]
                refine ⟨rfl, ?_⟩
                rw [hr]
                exact ⟨rfl, hst.trans hs⟩
              | some z =>
                have hr : ans = .out x1 false 0 1 := by rw [← HA.out]; unfold joinedM; rw [askM_some hg3, if_pos rfl, askM_some hg4]; rfl
                (with_reducible refine (joined_yes x1 h f hx.2 hg3 hg4).mono ?_)
                rintro e w11 ⟨rfl, h2, hs⟩
                replace kr := hs.keep kr nr
                replace kv := hs.keep kv nv
                replace hst := hst.trans hs
                clear h hs h2 kj
                have v0 := kv.cell 0
                have vf := kv.free 0
                have vl := kv.lt
                simp at v0
                go_upto_region 10 with fail
                clear v0 vf vl
                have kv2 : Bk (w11.setCell ⟨gv, 0, none⟩ (.int .i64 x1)) gv 50 (outC x1 false 0 1) := kv.stored 0 (.int .i64 x1)
                replace kr := kr.other (p := ⟨gv, 0, none⟩) nvr (.int .i64 x1)
                replace hst : Stp gm w (w11.setCell ⟨gv, 0, none⟩ (.int .i64 x1)) := ⟨hst.os, hst.tape, hst.output, by simpa using hst.size, fun b hb hn => (Below.heap_setCell w11 _ _ b (by dsimp only; omega)).trans (hst.block b hb hn)⟩
                clear kv
                generalize w11.setCell ⟨gv, 0, none⟩ (.int .i64 x1) = w12 at *
                have hrow := setRow_heap _ _ outZ (outC x1 false 0 1) 50 (0, 0) kr
                have hst2 := hst.setRow (cs := outC x1 false 0 1) kr (Nat.le_refl _)
                go_wp2_with (first
                  | (refine wpList_load_row rfl 50 (.tmp 7) rfl gv rfl 50 (outC x1 false 0 1) (0, 0) _ kv2 Try.underlying50 rfl (by kernel_rfl) ?_)
                  | (refine wpList_store_rowTo rfl 50 (.tmp 5) (.tmp 42) rfl rfl w.heap.size (outC x1 false 0 1) rfl rfl 50 outZ kr (by kernel_rfl) rfl (by simp [Value.oneCell']) ?_))
                refine bodyPost_ret (v := .agg (outC x1 false 0 1)) (results_cell_row (p := 5) (ty := 50) rfl _ _ w.heap.size 50 (outC x1 false 0 1) (0, 0) _ rfl hrow Try.underlying50 rfl (by kernel_rfl)) rfl ?_
                rw [hr]
                exact ⟨rfl, hst2⟩
            · have hr : ans = .out 0 false 0 1 := by rw [← HA.out]; unfold joinedM; rw [askM_some hg3, if_neg h1]; rfl
              (with_reducible refine (joined_no x1 h f hx.2 hg3 h1).mono ?_)
              rintro e w11 ⟨rfl, h2, hs⟩
              replace kr := hs.keep kr nr
              replace kv := hs.keep kv nv
              replace hst := hst.trans hs
              clear h hs h2 kj
              have hrow := setRow_heap _ _ outZ (outC 0 false 0 1) 50 (0, 0) kr
              have hst2 := hst.setRow (cs := outC 0 false 0 1) kr (Nat.le_refl _)
              go_wp2_with (first
                | (refine wpList_load_row rfl 50 (.tmp 7) rfl gv rfl 50 (outC 0 false 0 1) (0, 0) _ kv Try.underlying50 rfl (by kernel_rfl) ?_)
                | (refine wpList_store_rowTo rfl 50 (.tmp 5) (.tmp 42) rfl rfl w.heap.size (outC 0 false 0 1) rfl rfl 50 outZ kr (by kernel_rfl) rfl (by simp [Value.oneCell']) ?_))
              refine bodyPost_ret (v := .agg (outC 0 false 0 1)) (results_cell_row (p := 5) (ty := 50) rfl _ _ w.heap.size 50 (outC 0 false 0 1) (0, 0) _ rfl hrow Try.underlying50 rfl (by kernel_rfl)) rfl ?_
              rw [hr]
              exact ⟨rfl, hst2⟩
end Go.Proofs.Ytcjaomiihajjbaa
