/- task.programs' claim, fetch. Printed by prog_gen.py. -/
import Derived.Test.YtcjaomiihajjbaaTaskC
namespace Go.Proofs.Ytcjaomiihajjbaa
open Go.RowKit
set_option linter.unusedVariables false
attribute [local go_sem ↓] Go.wp_at_zero Go.wp_at_succ

/-- What a program does next: an access, or what it tells. -/
inductive Ans where
  | ask (k c o v : Int)
  | out (val : Int) (is : Bool) (err point : Int)
def askM (log : List (Int × Bool)) (i : Nat) (k c o v : Int) (f : Int × Bool → Ans) : Ans :=
  match log[i]? with
  | none => .ask k c o v
  | some x => f x
theorem askM_none {log : List (Int × Bool)} {i : Nat} (h : log[i]? = none) (k c o v : Int) (f : Int × Bool → Ans) : askM log i k c o v f = .ask k c o v := by unfold askM; rw [h]
theorem askM_some {log : List (Int × Bool)} {i : Nat} {x : Int × Bool} (h : log[i]? = some x) (k c o v : Int) (f : Int × Bool → Ans) : askM log i k c o v f = f x := by unfold askM; rw [h]
def claimM (l : Ly) (op : Opr) (log : List (Int × Bool)) : Ans := askM log 0 3 (taskAt l op.a 0) 1 2 fun x => .out 0 x.2 0 0
def fetchM (l : Ly) (op : Opr) (log : List (Int × Bool)) : Ans := askM log 0 1 (taskAt l op.a 2) 0 0 fun x => .out x.1 true 0 0
abbrev outC (val : Int) (is : Bool) (err point : Int) : Array Value := #[.int .i64 val, .bool is, .int .i64 err, .int .i64 point, .slice none 0 0]
abbrev outZ : Array Value := outC 0 false 0 0
def ProgPost (gm : Nat) (r : Ans) (w : World) (e : Ending) (w' : World) : Prop :=
  match r with
  | .ask k c o v => e = .panicked [{ v := askV k c o v, recovered := false }] ∧ Stp gm w w'
  | .out val is err point => e = .returned (.agg (outC val is err point)) ∧ Stp gm w w'
theorem Stp.setRow {gm g : Nat} {w : World} {old cs : Array Value} {t : TypeId} (k : Bk w g t old) {w0 : World} (h : Stp gm w0 w) (hg : w0.heap.size ≤ g) : Stp gm w0 (w.setRow g cs) :=
  ⟨h.os, h.tape, h.output, by simpa [World.setRow] using h.size, fun b hb hn => (setRow_other w g b cs (by omega)).trans (h.block b hb hn)⟩

set_option maxRecDepth 100000 in
set_option maxHeartbeats 4000000 in
theorem claim_any {w : World} {l : Ly} {B gL gd gf gm gl gp : Nat} {A : Option Addr} {cap : Nat} {log : List (Int × Bool)} {op : Opr} (h : Env w l B gL gd gf gm gl A cap 0 log) (kp : Bk w gp 30 (oprC op)) (np : gp ≠ gm) (f : TkFit l) (ha : op.a ≤ 9223372036854775807) :
    Calls Try.prog 38 #[ptr gd, ptr gf, ptr gp] w (ProgPost gm (claimM l op log) w) := by
  have hgm := h.st.km.lt
  have bd := h.kd.lt
  have bf := h.kf.lt
  have bp := kp.lt
  have nr : w.heap.size ≠ gm := by omega
  have kr := Bk.made w 50 outZ
  have hst : Stp gm w (w.alloc (.cells outZ 50)).drew := (Stp.refl gm w).alloc (.cells outZ 50) |>.trans ⟨rfl, rfl, rfl, Nat.le_refl _, fun _ _ _ => rfl⟩
  replace h := h.keep (below_al (Below.refl _ _) (.cells outZ 50))
  replace kp := kp.alloc (.cells outZ 50)
  replace h := h.step (w' := (w.alloc (.cells outZ 50)).drew) ⟨rfl, rfl, rfl, Nat.le_refl _, fun _ _ _ => rfl⟩ ⟨h.st.km, h.st.kl, h.st.sl, h.st.bm, h.st.ne, h.st.le⟩
  replace kp := kp.drew
  replace kr := kr.drew
  obtain ⟨ans, hans⟩ : ∃ ans, claimM l op log = ans := ⟨_, rfl⟩
  rw [hans]
  have HA := Lib.hid hans
  clear hans
  go_enter Try.func38, Try.ntmps38
  go_wp2_with fail
  refine wp_region_held_drew (S := fun w' => Bk w' gd 83 #[doV gm gl] ∧ Bk w' gf 92 #[ofV gL] ∧ Bk w' gp 30 (oprC op)) (by kernel_rfl) ⟨h.kd, h.kf, kp⟩ (fun hHeld => ?_)
  clear hHeld
  generalize (w.alloc (.cells outZ 50)).drew = w1 at *
  refine wpAnyH_take (i := 0) (oi := _) (v := doV gm gl) rfl (by kernel_rfl) (by kernel_rfl) (by kernel_rfl) (fun _ _ _ h => h) (Or.inl ⟨by rfl, ?_⟩) ⟨h.kd, h.kf, kp⟩ ?_
  · intro w' hSw
    have s1 := hSw.1.cell 0
    have s2 := hSw.2.1.cell 0
    have s3 := hSw.2.2.cell 2
    have s4 := hSw.2.2.cell 3
    simp at s1 s2 s3 s4
    (try simp only [List.getElem_toArray, List.getElem_cons_zero])
    (try simp only [resV])
    go_simp
    (try simp only [res_field0, res_field1, Result.andThen_ok])
  (try simp only [List.getElem_toArray, List.getElem_cons_zero, Act.put, List.setIfInBounds_toArray, List.set_cons_zero, List.set_cons_succ])
  refine wpAnyH_take (i := 1) (oi := _) (v := ofV gL) rfl (by kernel_rfl) (by kernel_rfl) (by kernel_rfl) (fun _ _ _ h => h) (Or.inl ⟨by rfl, ?_⟩) ⟨h.kd, h.kf, kp⟩ ?_
  · intro w' hSw
    have s1 := hSw.1.cell 0
    have s2 := hSw.2.1.cell 0
    have s3 := hSw.2.2.cell 2
    have s4 := hSw.2.2.cell 3
    simp at s1 s2 s3 s4
    (try simp only [List.getElem_toArray, List.getElem_cons_succ, List.getElem_cons_zero])
    (try simp only [resV])
    go_simp
    (try simp only [res_field0, res_field1, Result.andThen_ok])
  (try simp only [List.getElem_toArray, List.getElem_cons_succ, List.getElem_cons_zero, Act.put, List.setIfInBounds_toArray, List.set_cons_zero, List.set_cons_succ])
  refine wpAnyH_take (i := 2) (oi := _) (v := .pointer (some ⟨gp, 2, none⟩)) rfl (by kernel_rfl) (by kernel_rfl) (by kernel_rfl) (fun _ _ _ h => h) (Or.inl ⟨by rfl, ?_⟩) ⟨h.kd, h.kf, kp⟩ ?_
  · intro w' hSw
    have s1 := hSw.1.cell 0
    have s2 := hSw.2.1.cell 0
    have s3 := hSw.2.2.cell 2
    have s4 := hSw.2.2.cell 3
    simp at s1 s2 s3 s4
    (try simp only [List.getElem_toArray, List.getElem_cons_succ, List.getElem_cons_zero])
    (try simp only [resV])
    go_simp
    (try simp only [res_field0, res_field1, Result.andThen_ok])
  (try simp only [List.getElem_toArray, List.getElem_cons_succ, List.getElem_cons_zero, Act.put, List.setIfInBounds_toArray, List.set_cons_zero, List.set_cons_succ])
  refine wpAnyH_take (i := 3) (oi := _) (v := .int .i64 op.a) rfl (by kernel_rfl) (by kernel_rfl) (by kernel_rfl) (fun _ _ _ h => h) (Or.inl ⟨by rfl, ?_⟩) ⟨h.kd, h.kf, kp⟩ ?_
  · intro w' hSw
    have s1 := hSw.1.cell 0
    have s2 := hSw.2.1.cell 0
    have s3 := hSw.2.2.cell 2
    have s4 := hSw.2.2.cell 3
    simp at s1 s2 s3 s4
    (try simp only [List.getElem_toArray, List.getElem_cons_succ, List.getElem_cons_zero])
    (try simp only [resV])
    go_simp
    (try simp only [res_field0, res_field1, Result.andThen_ok])
  (try simp only [List.getElem_toArray, List.getElem_cons_succ, List.getElem_cons_zero, Act.put, List.setIfInBounds_toArray, List.set_cons_zero, List.set_cons_succ])
  refine wpAnyH_ready (rs := [4]) (by kernel_rfl) (by simp) ?_
  refine AllReadyH.cons (o := _) rfl (fun K hK => ?_) AllReadyH.nil
  (try simp only [List.getElem_toArray, List.getElem_cons_succ, List.getElem_cons_zero])
  go_simp
  (with_reducible refine (of_call l op.a 0 gL _ h.kL f (by omega)).mono ?_)
  rintro e w2 ⟨rfl, hb⟩
  replace h := h.keep hb
  replace kp := kp.keep hb
  replace kr := kr.keep hb
  replace hst := hst.trans (.of_below gm hb)
  clear hb
  obtain ⟨c1, hc1⟩ : ∃ c, taskAt l op.a 0 = c := ⟨_, rfl⟩
  rw [hc1]
  have Hc1 := Lib.hid hc1
  clear hc1
  refine hK.out _ _ ⟨h.kd, h.kf, kp⟩ (fun hS' => ?_)
  clear hS' hK K
  (try simp only [List.getElem_toArray, List.getElem_cons_succ, List.getElem_cons_zero, Act.put, List.setIfInBounds_toArray, List.set_cons_zero, List.set_cons_succ])
  refine wpAnyH_ready (rs := [5]) (by kernel_rfl) (by simp) ?_
  refine AllReadyH.cons (o := _) rfl (fun K hK => ?_) AllReadyH.nil
  (try simp only [List.getElem_toArray, List.getElem_cons_succ, List.getElem_cons_zero])
  go_simp
  cases hg : log[0]? with
  | none =>
    (with_reducible refine (do_asks 3 c1 1 2 h.st (by have := List.getElem?_eq_none_iff.1 hg; have := h.st.le; omega)).mono ?_)
    rintro e w3 ⟨rfl, hb⟩
    replace hst := hst.trans (.of_below gm hb)
    clear hb
    have hr : ans = .ask 3 c1 1 2 := by rw [← HA.out]; unfold claimM; rw [askM_none hg, Hc1.out]
    refine ⟨rfl, ?_⟩
    rw [hr]
    exact ⟨rfl, hst⟩
  | some x =>
    obtain ⟨x1, x2⟩ := x
    (with_reducible refine (do_told 3 c1 1 2 h.st hg).mono ?_)
    rintro e w3 ⟨rfl, hd, hs⟩
    replace h := h.step hs hd
    replace kp := hs.keep kp np
    replace kr := hs.keep kr nr
    replace hst := hst.trans hs
    clear hd hs
    refine hK.out _ _ ⟨h.kd, h.kf, kp⟩ (fun hS' => ?_)
    clear hS' hK K
    (try simp only [])
    refine wpAnyH_take (i := 6) (oi := _) (v := .bool x2) rfl (by kernel_rfl) (by kernel_rfl) (by kernel_rfl) (fun _ _ _ h => h) (Or.inl ⟨by rfl, ?_⟩) ⟨h.kd, h.kf, kp⟩ ?_
    · intro w' hSw
      have s1 := hSw.1.cell 0
      have s2 := hSw.2.1.cell 0
      have s3 := hSw.2.2.cell 2
      have s4 := hSw.2.2.cell 3
      simp at s1 s2 s3 s4
      (try simp only [List.getElem_toArray, List.getElem_cons_succ, List.getElem_cons_zero])
      (try simp only [resV])
      go_simp
      (try simp only [res_field1, Result.andThen_ok])
    (try simp only [List.getElem_toArray, List.getElem_cons_succ, List.getElem_cons_zero, Act.put, List.setIfInBounds_toArray, List.set_cons_zero, List.set_cons_succ])
    refine wpAnyH_take (i := 7) (oi := _) (v := .agg (outC 0 x2 0 0)) rfl (by kernel_rfl) (by kernel_rfl) (by kernel_rfl) (fun _ _ _ h => h) (Or.inl ⟨by rfl, ?_⟩) ⟨h.kd, h.kf, kp⟩ ?_
    · intro w' hSw
      have s1 := hSw.1.cell 0
      have s2 := hSw.2.1.cell 0
      have s3 := hSw.2.2.cell 2
      have s4 := hSw.2.2.cell 3
      simp at s1 s2 s3 s4
      (try simp only [List.getElem_toArray, List.getElem_cons_succ, List.getElem_cons_zero])
      (try simp only [resV])
      go_simp
      (try simp only [res_field0, res_field1, Result.andThen_ok])
    (try simp only [List.getElem_toArray, List.getElem_cons_succ, List.getElem_cons_zero, Act.put, List.setIfInBounds_toArray, List.set_cons_zero, List.set_cons_succ])
    refine wpAnyH_ready (rs := [8]) (by kernel_rfl) (by simp) ?_
    refine AllReadyH.cons (o := _) rfl (fun K hK => ?_) AllReadyH.nil
    rw [if_pos (by rfl)]
    refine wp_store_row 50 (.tmp 3) (.tmp 11) rfl w.heap.size (outC 0 x2 0 0) rfl rfl 50 outZ kr (by kernel_rfl) rfl (by simp [Value.oneCell']) ?_
    have hrow := setRow_heap _ _ outZ (outC 0 x2 0 0) 50 (0, 0) kr
    have hst2 := hst.setRow (cs := outC 0 x2 0 0) kr (Nat.le_refl _)
    refine hK.out _ _ ⟨(setRow_other _ _ _ _ (by omega)).trans h.kd, (setRow_other _ _ _ _ (by omega)).trans h.kf, (setRow_other _ _ _ _ (by omega)).trans kp⟩ (fun hS' => ?_)
    clear hS' hK K
    (try simp only [List.getElem_toArray, List.getElem_cons_succ, List.getElem_cons_zero, Act.put])
    have hr : ans = .out 0 x2 0 0 := by rw [← HA.out]; unfold claimM; rw [askM_some hg]
    refine wpAnyH_done (by kernel_rfl) ?_ _
    go_wp2_with fail
    refine bodyPost_ret (v := .agg (outC 0 x2 0 0)) (results_cell_row (p := 3) (ty := 50) rfl _ _ w.heap.size 50 (outC 0 x2 0 0) (0, 0) _ rfl hrow Try.underlying50 rfl (by kernel_rfl)) rfl ?_
    rw [hr]
    exact ⟨rfl, hst2⟩

set_option maxRecDepth 100000 in
set_option maxHeartbeats 4000000 in
theorem fetch_any {w : World} {l : Ly} {B gL gd gf gm gl gp : Nat} {A : Option Addr} {cap : Nat} {log : List (Int × Bool)} {op : Opr} (h : Env w l B gL gd gf gm gl A cap 0 log) (kp : Bk w gp 30 (oprC op)) (np : gp ≠ gm) (f : TkFit l) (ha : op.a ≤ 9223372036854775807) :
    Calls Try.prog 41 #[ptr gd, ptr gf, ptr gp] w (ProgPost gm (fetchM l op log) w) := by
  have hgm := h.st.km.lt
  have bd := h.kd.lt
  have bf := h.kf.lt
  have bp := kp.lt
  have nr : w.heap.size ≠ gm := by omega
  have kr := Bk.made w 50 outZ
  have hst : Stp gm w (w.alloc (.cells outZ 50)).drew := (Stp.refl gm w).alloc (.cells outZ 50) |>.trans ⟨rfl, rfl, rfl, Nat.le_refl _, fun _ _ _ => rfl⟩
  replace h := h.keep (below_al (Below.refl _ _) (.cells outZ 50))
  replace kp := kp.alloc (.cells outZ 50)
  replace h := h.step (w' := (w.alloc (.cells outZ 50)).drew) ⟨rfl, rfl, rfl, Nat.le_refl _, fun _ _ _ => rfl⟩ ⟨h.st.km, h.st.kl, h.st.sl, h.st.bm, h.st.ne, h.st.le⟩
  replace kp := kp.drew
  replace kr := kr.drew
  obtain ⟨ans, hans⟩ : ∃ ans, fetchM l op log = ans := ⟨_, rfl⟩
  rw [hans]
  have HA := Lib.hid hans
  clear hans
  go_enter Try.func41, Try.ntmps41
  go_wp2_with fail
  refine wp_region_held_drew (S := fun w' => Bk w' gd 83 #[doV gm gl] ∧ Bk w' gf 92 #[ofV gL] ∧ Bk w' gp 30 (oprC op)) (by kernel_rfl) ⟨h.kd, h.kf, kp⟩ (fun hHeld => ?_)
  clear hHeld
  generalize (w.alloc (.cells outZ 50)).drew = w1 at *
  refine wpAnyH_take (i := 0) (oi := _) (v := doV gm gl) rfl (by kernel_rfl) (by kernel_rfl) (by kernel_rfl) (fun _ _ _ h => h) (Or.inl ⟨by rfl, ?_⟩) ⟨h.kd, h.kf, kp⟩ ?_
  · intro w' hSw
    have s1 := hSw.1.cell 0
    have s2 := hSw.2.1.cell 0
    have s3 := hSw.2.2.cell 2
    have s4 := hSw.2.2.cell 3
    simp at s1 s2 s3 s4
    (try simp only [List.getElem_toArray, List.getElem_cons_zero])
    (try simp only [resV])
    go_simp
    (try simp only [res_field0, res_field1, Result.andThen_ok])
  (try simp only [List.getElem_toArray, List.getElem_cons_zero, Act.put, List.setIfInBounds_toArray, List.set_cons_zero, List.set_cons_succ])
  refine wpAnyH_take (i := 1) (oi := _) (v := ofV gL) rfl (by kernel_rfl) (by kernel_rfl) (by kernel_rfl) (fun _ _ _ h => h) (Or.inl ⟨by rfl, ?_⟩) ⟨h.kd, h.kf, kp⟩ ?_
  · intro w' hSw
    have s1 := hSw.1.cell 0
    have s2 := hSw.2.1.cell 0
    have s3 := hSw.2.2.cell 2
    have s4 := hSw.2.2.cell 3
    simp at s1 s2 s3 s4
    (try simp only [List.getElem_toArray, List.getElem_cons_succ, List.getElem_cons_zero])
    (try simp only [resV])
    go_simp
    (try simp only [res_field0, res_field1, Result.andThen_ok])
  (try simp only [List.getElem_toArray, List.getElem_cons_succ, List.getElem_cons_zero, Act.put, List.setIfInBounds_toArray, List.set_cons_zero, List.set_cons_succ])
  refine wpAnyH_take (i := 2) (oi := _) (v := .pointer (some ⟨gp, 2, none⟩)) rfl (by kernel_rfl) (by kernel_rfl) (by kernel_rfl) (fun _ _ _ h => h) (Or.inl ⟨by rfl, ?_⟩) ⟨h.kd, h.kf, kp⟩ ?_
  · intro w' hSw
    have s1 := hSw.1.cell 0
    have s2 := hSw.2.1.cell 0
    have s3 := hSw.2.2.cell 2
    have s4 := hSw.2.2.cell 3
    simp at s1 s2 s3 s4
    (try simp only [List.getElem_toArray, List.getElem_cons_succ, List.getElem_cons_zero])
    (try simp only [resV])
    go_simp
    (try simp only [res_field0, res_field1, Result.andThen_ok])
  (try simp only [List.getElem_toArray, List.getElem_cons_succ, List.getElem_cons_zero, Act.put, List.setIfInBounds_toArray, List.set_cons_zero, List.set_cons_succ])
  refine wpAnyH_take (i := 3) (oi := _) (v := .int .i64 op.a) rfl (by kernel_rfl) (by kernel_rfl) (by kernel_rfl) (fun _ _ _ h => h) (Or.inl ⟨by rfl, ?_⟩) ⟨h.kd, h.kf, kp⟩ ?_
  · intro w' hSw
    have s1 := hSw.1.cell 0
    have s2 := hSw.2.1.cell 0
    have s3 := hSw.2.2.cell 2
    have s4 := hSw.2.2.cell 3
    simp at s1 s2 s3 s4
    (try simp only [List.getElem_toArray, List.getElem_cons_succ, List.getElem_cons_zero])
    (try simp only [resV])
    go_simp
    (try simp only [res_field0, res_field1, Result.andThen_ok])
  (try simp only [List.getElem_toArray, List.getElem_cons_succ, List.getElem_cons_zero, Act.put, List.setIfInBounds_toArray, List.set_cons_zero, List.set_cons_succ])
  refine wpAnyH_ready (rs := [4]) (by kernel_rfl) (by simp) ?_
  refine AllReadyH.cons (o := _) rfl (fun K hK => ?_) AllReadyH.nil
  (try simp only [List.getElem_toArray, List.getElem_cons_succ, List.getElem_cons_zero])
  go_simp
  (with_reducible refine (of_call l op.a 2 gL _ h.kL f (by omega)).mono ?_)
  rintro e w2 ⟨rfl, hb⟩
  replace h := h.keep hb
  replace kp := kp.keep hb
  replace kr := kr.keep hb
  replace hst := hst.trans (.of_below gm hb)
  clear hb
  obtain ⟨c1, hc1⟩ : ∃ c, taskAt l op.a 2 = c := ⟨_, rfl⟩
  rw [hc1]
  have Hc1 := Lib.hid hc1
  clear hc1
  refine hK.out _ _ ⟨h.kd, h.kf, kp⟩ (fun hS' => ?_)
  clear hS' hK K
  (try simp only [List.getElem_toArray, List.getElem_cons_succ, List.getElem_cons_zero, Act.put, List.setIfInBounds_toArray, List.set_cons_zero, List.set_cons_succ])
  refine wpAnyH_ready (rs := [5]) (by kernel_rfl) (by simp) ?_
  refine AllReadyH.cons (o := _) rfl (fun K hK => ?_) AllReadyH.nil
  (try simp only [List.getElem_toArray, List.getElem_cons_succ, List.getElem_cons_zero])
  go_simp
  cases hg : log[0]? with
  | none =>
    (with_reducible refine (do_asks 1 c1 0 0 h.st (by have := List.getElem?_eq_none_iff.1 hg; have := h.st.le; omega)).mono ?_)
    rintro e w3 ⟨rfl, hb⟩
    replace hst := hst.trans (.of_below gm hb)
    clear hb
    have hr : ans = .ask 1 c1 0 0 := by rw [← HA.out]; unfold fetchM; rw [askM_none hg, Hc1.out]
    refine ⟨rfl, ?_⟩
    rw [hr]
    exact ⟨rfl, hst⟩
  | some x =>
    obtain ⟨x1, x2⟩ := x
    (with_reducible refine (do_told 1 c1 0 0 h.st hg).mono ?_)
    rintro e w3 ⟨rfl, hd, hs⟩
    replace h := h.step hs hd
    replace kp := hs.keep kp np
    replace kr := hs.keep kr nr
    replace hst := hst.trans hs
    clear hd hs
    refine hK.out _ _ ⟨h.kd, h.kf, kp⟩ (fun hS' => ?_)
    clear hS' hK K
    (try simp only [])
    refine wpAnyH_take (i := 6) (oi := _) (v := .int .i64 x1) rfl (by kernel_rfl) (by kernel_rfl) (by kernel_rfl) (fun _ _ _ h => h) (Or.inl ⟨by rfl, ?_⟩) ⟨h.kd, h.kf, kp⟩ ?_
    · intro w' hSw
      have s1 := hSw.1.cell 0
      have s2 := hSw.2.1.cell 0
      have s3 := hSw.2.2.cell 2
      have s4 := hSw.2.2.cell 3
      simp at s1 s2 s3 s4
      (try simp only [List.getElem_toArray, List.getElem_cons_succ, List.getElem_cons_zero])
      (try simp only [resV])
      go_simp
      (try simp only [res_field0, Result.andThen_ok])
    (try simp only [List.getElem_toArray, List.getElem_cons_succ, List.getElem_cons_zero, Act.put, List.setIfInBounds_toArray, List.set_cons_zero, List.set_cons_succ])
    refine wpAnyH_take (i := 7) (oi := _) (v := .agg (outC x1 true 0 0)) rfl (by kernel_rfl) (by kernel_rfl) (by kernel_rfl) (fun _ _ _ h => h) (Or.inl ⟨by rfl, ?_⟩) ⟨h.kd, h.kf, kp⟩ ?_
    · intro w' hSw
      have s1 := hSw.1.cell 0
      have s2 := hSw.2.1.cell 0
      have s3 := hSw.2.2.cell 2
      have s4 := hSw.2.2.cell 3
      simp at s1 s2 s3 s4
      (try simp only [List.getElem_toArray, List.getElem_cons_succ, List.getElem_cons_zero])
      (try simp only [resV])
      go_simp
      (try simp only [res_field0, res_field1, Result.andThen_ok])
    (try simp only [List.getElem_toArray, List.getElem_cons_succ, List.getElem_cons_zero, Act.put, List.setIfInBounds_toArray, List.set_cons_zero, List.set_cons_succ])
    refine wpAnyH_ready (rs := [8]) (by kernel_rfl) (by simp) ?_
    refine AllReadyH.cons (o := _) rfl (fun K hK => ?_) AllReadyH.nil
    rw [if_pos (by rfl)]
    refine wp_store_row 50 (.tmp 3) (.tmp 11) rfl w.heap.size (outC x1 true 0 0) rfl rfl 50 outZ kr (by kernel_rfl) rfl (by simp [Value.oneCell']) ?_
    have hrow := setRow_heap _ _ outZ (outC x1 true 0 0) 50 (0, 0) kr
    have hst2 := hst.setRow (cs := outC x1 true 0 0) kr (Nat.le_refl _)
    refine hK.out _ _ ⟨(setRow_other _ _ _ _ (by omega)).trans h.kd, (setRow_other _ _ _ _ (by omega)).trans h.kf, (setRow_other _ _ _ _ (by omega)).trans kp⟩ (fun hS' => ?_)
    clear hS' hK K
    (try simp only [List.getElem_toArray, List.getElem_cons_succ, List.getElem_cons_zero, Act.put])
    have hr : ans = .out x1 true 0 0 := by rw [← HA.out]; unfold fetchM; rw [askM_some hg]
    refine wpAnyH_done (by kernel_rfl) ?_ _
    go_wp2_with fail
    refine bodyPost_ret (v := .agg (outC x1 true 0 0)) (results_cell_row (p := 3) (ty := 50) rfl _ _ w.heap.size 50 (outC x1 true 0 0) (0, 0) _ rfl hrow Try.underlying50 rfl (by kernel_rfl)) rfl ?_
    rw [hr]
    exact ⟨rfl, hst2⟩
def joinedM (l : Ly) (log : List (Int × Bool)) (i : Nat) (t : Int) (f : Bool → Ans) : Ans :=
  askM log i 4 (taskAt l t 1) 0 (-1) fun x => if x.1 = 1 then askM log (i + 1) 2 (taskAt l t 1) 0 1 fun _ => f true else f false
def syncM (l : Ly) (op : Opr) (log : List (Int × Bool)) : Ans := joinedM l log 0 op.a fun b => .out 0 b 0 0
set_option maxRecDepth 100000 in
set_option maxHeartbeats 4000000 in
theorem sync_any {w : World} {l : Ly} {B gL gd gf gm gl gp gj : Nat} {A : Option Addr} {cap : Nat} {log : List (Int × Bool)} {op : Opr} (h : Env w l B gL gd gf gm gl A cap 0 log) (kp : Bk w gp 30 (oprC op)) (np : gp ≠ gm) (kj : Bk w gj 96 #[joV gd gf]) (f : TkFit l) (ha : op.a ≤ 9223372036854775807) :
    Calls Try.prog 39 #[ptr gj, ptr gp] w (ProgPost gm (syncM l op log) w) := by
  have hgm := h.st.km.lt
  have bp := kp.lt
  have bj := kj.lt
  have nr : w.heap.size ≠ gm := by omega
  have kr := Bk.made w 50 outZ
  have hst : Stp gm w (w.alloc (.cells outZ 50)) := (Stp.refl gm w).alloc (.cells outZ 50)
  replace h := h.keep (below_al (Below.refl _ _) (.cells outZ 50))
  have q1 := kj.cell 0
  have q2 := kp.cell 2
  simp at q1 q2
  obtain ⟨ans, hans⟩ : ∃ ans, syncM l op log = ans := ⟨_, rfl⟩
  rw [hans]
  have HA := Lib.hid hans
  clear hans kp kj
  go_enter Try.func39, Try.ntmps39
  go_wp2_with fail
  clear q1 q2
  generalize w.alloc (.cells outZ 50) = w1 at *
  cases hg : log[0]? with
  | none =>
    (with_reducible refine (joined_ask1 op.a h f ha (by have := List.getElem?_eq_none_iff.1 hg; have := h.st.le; omega)).mono ?_)
    rintro e w2 ⟨rfl, hs⟩
    have hr : ans = .ask 4 (taskAt l op.a 1) 0 (-1) := by rw [← HA.out]; unfold syncM joinedM; rw [askM_none hg]
    refine ⟨rfl, ?_⟩
    rw [hr]
    exact ⟨rfl, hst.trans hs⟩
  | some x =>
    obtain ⟨x1, x2⟩ := x
    by_cases h1 : x1 = 1
    · subst h1
      cases hg2 : log[1]? with
      | none =>
        (with_reducible refine (joined_ask2 op.a h f ha hg (by have := List.getElem?_eq_none_iff.1 hg2; have := (List.getElem?_eq_some_iff.1 hg).1; omega)).mono ?_)
        rintro e w2 ⟨rfl, hs⟩
        have hr : ans = .ask 2 (taskAt l op.a 1) 0 1 := by rw [← HA.out]; unfold syncM joinedM; rw [askM_some hg, if_pos rfl, askM_none hg2]
        refine ⟨rfl, ?_⟩
        rw [hr]
        exact ⟨rfl, hst.trans hs⟩
      | some y =>
        have hr : ans = .out 0 true 0 0 := by rw [← HA.out]; unfold syncM joinedM; rw [askM_some hg, if_pos rfl, askM_some hg2]
        (with_reducible refine (joined_yes op.a h f ha hg hg2).mono ?_)
        rintro e w2 ⟨rfl, h2, hs⟩
        replace kr := hs.keep kr nr
        replace hst := hst.trans hs
        clear h hs h2
        have hrow := setRow_heap _ _ outZ (outC 0 true 0 0) 50 (0, 0) kr
        have hst2 := hst.setRow (cs := outC 0 true 0 0) kr (Nat.le_refl _)
        go_wp2_with (refine wpList_store_rowTo rfl 50 (.tmp 2) (.tmp 7) rfl rfl w.heap.size (outC 0 true 0 0) rfl rfl 50 outZ kr (by kernel_rfl) rfl (by simp [Value.oneCell']) ?_)
        refine bodyPost_ret (v := .agg (outC 0 true 0 0)) (results_cell_row (p := 2) (ty := 50) rfl _ _ w.heap.size 50 (outC 0 true 0 0) (0, 0) _ rfl hrow Try.underlying50 rfl (by kernel_rfl)) rfl ?_
        rw [hr]
        exact ⟨rfl, hst2⟩
    · have hr : ans = .out 0 false 0 0 := by rw [← HA.out]; unfold syncM joinedM; rw [askM_some hg, if_neg h1]
      (with_reducible refine (joined_no op.a h f ha hg h1).mono ?_)
      rintro e w2 ⟨rfl, h2, hs⟩
      replace kr := hs.keep kr nr
      replace hst := hst.trans hs
      clear h hs h2
      have hrow := setRow_heap _ _ outZ (outC 0 false 0 0) 50 (0, 0) kr
      have hst2 := hst.setRow (cs := outC 0 false 0 0) kr (Nat.le_refl _)
      go_wp2_with (refine wpList_store_rowTo rfl 50 (.tmp 2) (.tmp 7) rfl rfl w.heap.size (outC 0 false 0 0) rfl rfl 50 outZ kr (by kernel_rfl) rfl (by simp [Value.oneCell']) ?_)
      refine bodyPost_ret (v := .agg (outC 0 false 0 0)) (results_cell_row (p := 2) (ty := 50) rfl _ _ w.heap.size 50 (outC 0 false 0 0) (0, 0) _ rfl hrow Try.underlying50 rfl (by kernel_rfl)) rfl ?_
      rw [hr]
      exact ⟨rfl, hst2⟩
end Go.Proofs.Ytcjaomiihajjbaa
