/- task.programs' joined. Printed by joined_gen.py. -/
import Derived.Test.YtcjaomiihajjbaaTaskB
namespace Go.Proofs.Ytcjaomiihajjbaa
open Go.RowKit
attribute [local go_sem ↓] Go.wp_at_zero Go.wp_at_succ

/-- What the closures hold: do's and of's variables, the layout, do's own state. -/
structure Env (w : World) (l : Ly) (B gL gd gf gm gl : Nat) (A : Option Addr) (cap m : Nat) (log : List (Int × Bool)) : Prop where
  kL : Bk w gL 34 (lyC l)
  kd : Bk w gd 83 #[doV gm gl]
  kf : Bk w gf 92 #[ofV gL]
  st : DoSt w B gm gl A cap m log
  n1 : gL ≠ gm
  n2 : gd ≠ gm
  n3 : gf ≠ gm
theorem Env.keep {w w' : World} {l : Ly} {B gL gd gf gm gl : Nat} {A : Option Addr} {cap m : Nat} {log : List (Int × Bool)} (h : Env w l B gL gd gf gm gl A cap m log) (hb : Below w.heap.size w w') : Env w' l B gL gd gf gm gl A cap m log :=
  ⟨h.kL.keep hb, h.kd.keep hb, h.kf.keep hb, h.st.keep hb, h.n1, h.n2, h.n3⟩
theorem Env.step {w w' : World} {l : Ly} {B gL gd gf gm gl : Nat} {A : Option Addr} {cap m m' : Nat} {log : List (Int × Bool)} (h : Env w l B gL gd gf gm gl A cap m log) (s : Stp gm w w') (d : DoSt w' B gm gl A cap m' log) : Env w' l B gL gd gf gm gl A cap m' log :=
  ⟨s.keep h.kL h.n1, s.keep h.kd h.n2, s.keep h.kf h.n3, d, h.n1, h.n2, h.n3⟩
theorem res_field0 (a : Int) (b : Bool) (w : World) : (Instr.field 46 (.agg #[.int .i64 a, .bool b]) 0).run Try.prog w = .ok (.int .i64 a) w := by kernel_rfl
theorem res_field1 (a : Int) (b : Bool) (w : World) : (Instr.field 46 (.agg #[.int .i64 a, .bool b]) 1).run Try.prog w = .ok (.bool b) w := by kernel_rfl
/-- It asks: do's state is no more of use. -/
def AsksS (gm : Nat) (k c o v : Int) (w : World) (e : Ending) (w' : World) : Prop := e = .panicked [{ v := askV k c o v, recovered := false }] ∧ Stp gm w w'

set_option maxRecDepth 100000 in
set_option maxHeartbeats 4000000 in
theorem joined_ask1 {w : World} {l : Ly} {B gL gd gf gm gl : Nat} {A : Option Addr} {cap m : Nat} {log : List (Int × Bool)} (t : Int) (h : Env w l B gL gd gf gm gl A cap m log) (f : TkFit l) (ht : t ≤ 9223372036854775807) (hm : m = log.length) :
    Calls Try.prog 36 #[.int .i64 t, ptr gd, ptr gf] w (AsksS gm 4 (taskAt l t 1) 0 (-1) w) := by
  have H := Lib.hid h
  have hS : Bk w.drew gd 83 #[doV gm gl] ∧ Bk w.drew gf 92 #[ofV gL] := ⟨h.kd, h.kf⟩
  have hst : Stp gm w w.drew := ⟨rfl, rfl, rfl, Nat.le_refl _, fun _ _ _ => rfl⟩
  replace h : Env w.drew l B gL gd gf gm gl A cap m log := h.step hst ⟨h.st.km, h.st.kl, h.st.sl, h.st.bm, h.st.ne, h.st.le⟩
  obtain ⟨c1, hc1⟩ : ∃ c, taskAt l t 1 = c := ⟨_, rfl⟩
  have HC := Lib.hid hc1
  clear hc1 H
  go_enter Try.func36, Try.ntmps36
  go_wp2_with fail
  refine wp_region_held_drew (S := fun w' => Bk w' gd 83 #[doV gm gl] ∧ Bk w' gf 92 #[ofV gL]) (by kernel_rfl) hS (fun hHeld => ?_)
  clear hHeld
  generalize w.drew = w1 at *
  rw [HC.out]
  refine wpAnyH_take (i := 0) (oi := _) (v := doV gm gl) rfl (by kernel_rfl) (by kernel_rfl) (by kernel_rfl) (fun _ _ _ h => h) (Or.inl ⟨by rfl, ?_⟩) hS ?_
  · intro w' hSw
    have s1 := hSw.1.cell 0
    have s2 := hSw.2.cell 0
    simp at s1 s2
    (try simp only [List.getElem_toArray, List.getElem_cons_zero])
    (try simp only [resV])
    go_simp
    (try simp only [res_field0, res_field1, Result.andThen_ok])
  (try simp only [List.getElem_toArray, List.getElem_cons_zero, Act.put, List.setIfInBounds_toArray, List.set_cons_zero, List.set_cons_succ])
  refine wpAnyH_take (i := 1) (oi := _) (v := ofV gL) rfl (by kernel_rfl) (by kernel_rfl) (by kernel_rfl) (fun _ _ _ h => h) (Or.inl ⟨by rfl, ?_⟩) hS ?_
  · intro w' hSw
    have s1 := hSw.1.cell 0
    have s2 := hSw.2.cell 0
    simp at s1 s2
    (try simp only [List.getElem_toArray, List.getElem_cons_succ, List.getElem_cons_zero])
    (try simp only [resV])
    go_simp
    (try simp only [res_field0, res_field1, Result.andThen_ok])
  (try simp only [List.getElem_toArray, List.getElem_cons_succ, List.getElem_cons_zero, Act.put, List.setIfInBounds_toArray, List.set_cons_zero, List.set_cons_succ])
  refine wpAnyH_take (i := 2) (oi := _) (v := .int .i64 t) rfl (by kernel_rfl) (by kernel_rfl) (by kernel_rfl) (fun _ _ _ h => h) (Or.inl ⟨by rfl, ?_⟩) hS ?_
  · intro w' hSw
    have s1 := hSw.1.cell 0
    have s2 := hSw.2.cell 0
    simp at s1 s2
    (try simp only [List.getElem_toArray, List.getElem_cons_succ, List.getElem_cons_zero])
    (try simp only [resV])
    go_simp
    (try simp only [res_field0, res_field1, Result.andThen_ok])
  (try simp only [List.getElem_toArray, List.getElem_cons_succ, List.getElem_cons_zero, Act.put, List.setIfInBounds_toArray, List.set_cons_zero, List.set_cons_succ])
  clear hS
  refine wpAnyH_ready (rs := [3]) (by kernel_rfl) (by simp) ?_
  refine AllReadyH.cons (o := _) rfl (fun K hK => ?_) AllReadyH.nil
  (try simp only [List.getElem_toArray, List.getElem_cons_succ, List.getElem_cons_zero])
  go_simp
  (with_reducible refine (of_call l t 1 gL _ h.kL f ht).mono ?_)
  rintro e w2 ⟨rfl, hb⟩
  rw [HC.out]
  replace h := h.keep hb
  replace hst := hst.trans (.of_below gm hb)
  clear hb
  refine hK.out _ _ ⟨h.kd, h.kf⟩ (fun hS' => ?_)
  clear hS' hK K
  (try simp only [List.getElem_toArray, List.getElem_cons_succ, List.getElem_cons_zero, Act.put, List.setIfInBounds_toArray, List.set_cons_zero, List.set_cons_succ])
  refine wpAnyH_ready (rs := [4]) (by kernel_rfl) (by simp) ?_
  refine AllReadyH.cons (o := _) rfl (fun K hK => ?_) AllReadyH.nil
  (try simp only [List.getElem_toArray, List.getElem_cons_succ, List.getElem_cons_zero])
  go_simp
  (with_reducible refine (do_asks 4 c1 0 (-1) h.st (by omega)).mono ?_)
  rintro e w3 ⟨rfl, hb⟩
  replace hst := hst.trans (.of_below gm hb)
  clear hb
  exact ⟨rfl, rfl, hst⟩
/-- It tells v, and has made so many accesses. -/
def Gives (l : Ly) (B gL gd gf gm gl : Nat) (A : Option Addr) (cap m : Nat) (log : List (Int × Bool)) (v : Value) (w : World) (e : Ending) (w' : World) : Prop := e = .returned v ∧ Env w' l B gL gd gf gm gl A cap m log ∧ Stp gm w w'

set_option maxRecDepth 100000 in
set_option maxHeartbeats 4000000 in
theorem joined_no {w : World} {l : Ly} {B gL gd gf gm gl : Nat} {A : Option Addr} {cap m : Nat} {log : List (Int × Bool)} (t : Int) (h : Env w l B gL gd gf gm gl A cap m log) (f : TkFit l) (ht : t ≤ 9223372036854775807) {x1 : Int} {x2 : Bool} (hx : log[m]? = some (x1, x2)) (h1 : x1 ≠ 1) :
    Calls Try.prog 36 #[.int .i64 t, ptr gd, ptr gf] w (Gives l B gL gd gf gm gl A cap (m + 1) log (.bool false) w) := by
  have H := Lib.hid h
  have hS : Bk w.drew gd 83 #[doV gm gl] ∧ Bk w.drew gf 92 #[ofV gL] := ⟨h.kd, h.kf⟩
  have hst : Stp gm w w.drew := ⟨rfl, rfl, rfl, Nat.le_refl _, fun _ _ _ => rfl⟩
  replace h : Env w.drew l B gL gd gf gm gl A cap m log := h.step hst ⟨h.st.km, h.st.kl, h.st.sl, h.st.bm, h.st.ne, h.st.le⟩
  obtain ⟨c1, hc1⟩ : ∃ c, taskAt l t 1 = c := ⟨_, rfl⟩
  have HC := Lib.hid hc1
  clear hc1 H
  go_enter Try.func36, Try.ntmps36
  go_wp2_with fail
  refine wp_region_held_drew (S := fun w' => Bk w' gd 83 #[doV gm gl] ∧ Bk w' gf 92 #[ofV gL]) (by kernel_rfl) hS (fun hHeld => ?_)
  clear hHeld
  generalize w.drew = w1 at *
  have g1 : (x1 != 1) = true := by simp [h1]
  have HX := Lib.hid hx
  clear hx h1
  refine wpAnyH_take (i := 0) (oi := _) (v := doV gm gl) rfl (by kernel_rfl) (by kernel_rfl) (by kernel_rfl) (fun _ _ _ h => h) (Or.inl ⟨by rfl, ?_⟩) hS ?_
  · intro w' hSw
    have s1 := hSw.1.cell 0
    have s2 := hSw.2.cell 0
    simp at s1 s2
    (try simp only [List.getElem_toArray, List.getElem_cons_zero])
    (try simp only [resV])
    go_simp
    (try simp only [res_field0, res_field1, Result.andThen_ok])
  (try simp only [List.getElem_toArray, List.getElem_cons_zero, Act.put, List.setIfInBounds_toArray, List.set_cons_zero, List.set_cons_succ])
  refine wpAnyH_take (i := 1) (oi := _) (v := ofV gL) rfl (by kernel_rfl) (by kernel_rfl) (by kernel_rfl) (fun _ _ _ h => h) (Or.inl ⟨by rfl, ?_⟩) hS ?_
  · intro w' hSw
    have s1 := hSw.1.cell 0
    have s2 := hSw.2.cell 0
    simp at s1 s2
    (try simp only [List.getElem_toArray, List.getElem_cons_succ, List.getElem_cons_zero])
    (try simp only [resV])
    go_simp
    (try simp only [res_field0, res_field1, Result.andThen_ok])
  (try simp only [List.getElem_toArray, List.getElem_cons_succ, List.getElem_cons_zero, Act.put, List.setIfInBounds_toArray, List.set_cons_zero, List.set_cons_succ])
  refine wpAnyH_take (i := 2) (oi := _) (v := .int .i64 t) rfl (by kernel_rfl) (by kernel_rfl) (by kernel_rfl) (fun _ _ _ h => h) (Or.inl ⟨by rfl, ?_⟩) hS ?_
  · intro w' hSw
    have s1 := hSw.1.cell 0
    have s2 := hSw.2.cell 0
    simp at s1 s2
    (try simp only [List.getElem_toArray, List.getElem_cons_succ, List.getElem_cons_zero])
    (try simp only [resV])
    go_simp
    (try simp only [res_field0, res_field1, Result.andThen_ok])
  (try simp only [List.getElem_toArray, List.getElem_cons_succ, List.getElem_cons_zero, Act.put, List.setIfInBounds_toArray, List.set_cons_zero, List.set_cons_succ])
  clear hS
  refine wpAnyH_ready (rs := [3]) (by kernel_rfl) (by simp) ?_
  refine AllReadyH.cons (o := _) rfl (fun K hK => ?_) AllReadyH.nil
  (try simp only [List.getElem_toArray, List.getElem_cons_succ, List.getElem_cons_zero])
  go_simp
  (with_reducible refine (of_call l t 1 gL _ h.kL f ht).mono ?_)
  rintro e w2 ⟨rfl, hb⟩
  rw [HC.out]
  replace h := h.keep hb
  replace hst := hst.trans (.of_below gm hb)
  clear hb
  refine hK.out _ _ ⟨h.kd, h.kf⟩ (fun hS' => ?_)
  clear hS' hK K
  (try simp only [List.getElem_toArray, List.getElem_cons_succ, List.getElem_cons_zero, Act.put, List.setIfInBounds_toArray, List.set_cons_zero, List.set_cons_succ])
  refine wpAnyH_ready (rs := [4]) (by kernel_rfl) (by simp) ?_
  refine AllReadyH.cons (o := _) rfl (fun K hK => ?_) AllReadyH.nil
  (try simp only [List.getElem_toArray, List.getElem_cons_succ, List.getElem_cons_zero])
  go_simp
  (with_reducible refine (do_told 4 c1 0 (-1) h.st HX.out).mono ?_)
  rintro e w3 ⟨rfl, hd, hs⟩
  replace h := h.step hs hd
  replace hst := hst.trans hs
  clear hd hs
  refine hK.out _ _ ⟨h.kd, h.kf⟩ (fun hS' => ?_)
  clear hS' hK K
  (try simp only [])
  refine wpAnyH_take (i := 5) (oi := _) (v := .int .i64 x1) rfl (by kernel_rfl) (by kernel_rfl) (by kernel_rfl) (fun _ _ _ h => h) (Or.inl ⟨by rfl, ?_⟩) ⟨h.kd, h.kf⟩ ?_
  · intro w' hSw
    have s1 := hSw.1.cell 0
    have s2 := hSw.2.cell 0
    simp at s1 s2
    (try simp only [List.getElem_toArray, List.getElem_cons_succ, List.getElem_cons_zero])
    (try simp only [resV])
    go_simp
    (try simp only [res_field0, Result.andThen_ok])
  (try simp only [List.getElem_toArray, List.getElem_cons_succ, List.getElem_cons_zero, Act.put, List.setIfInBounds_toArray, List.set_cons_zero, List.set_cons_succ])
  refine wpAnyH_take (i := 6) (oi := _) (v := .bool true) rfl (by kernel_rfl) (by kernel_rfl) (by kernel_rfl) (fun _ _ _ h => h) (Or.inl ⟨by rfl, ?_⟩) ⟨h.kd, h.kf⟩ ?_
  · intro w' hSw
    have s1 := hSw.1.cell 0
    have s2 := hSw.2.cell 0
    simp at s1 s2
    (try simp only [List.getElem_toArray, List.getElem_cons_succ, List.getElem_cons_zero])
    (try simp only [resV])
    go_simp
    (try simp only [res_field0, res_field1, Result.andThen_ok])
  (try simp only [List.getElem_toArray, List.getElem_cons_succ, List.getElem_cons_zero, Act.put, List.setIfInBounds_toArray, List.set_cons_zero, List.set_cons_succ])
  refine wpAnyH_done (by kernel_rfl) ?_ _
  go_wp2
  go_ret
  exact ⟨rfl, h, hst⟩

set_option maxRecDepth 100000 in
set_option maxHeartbeats 4000000 in
theorem joined_ask2 {w : World} {l : Ly} {B gL gd gf gm gl : Nat} {A : Option Addr} {cap m : Nat} {log : List (Int × Bool)} (t : Int) (h : Env w l B gL gd gf gm gl A cap m log) (f : TkFit l) (ht : t ≤ 9223372036854775807) {x2 : Bool} (hx : log[m]? = some (1, x2)) (hm : m + 1 = log.length) :
    Calls Try.prog 36 #[.int .i64 t, ptr gd, ptr gf] w (AsksS gm 2 (taskAt l t 1) 0 1 w) := by
  have H := Lib.hid h
  have hS : Bk w.drew gd 83 #[doV gm gl] ∧ Bk w.drew gf 92 #[ofV gL] := ⟨h.kd, h.kf⟩
  have hst : Stp gm w w.drew := ⟨rfl, rfl, rfl, Nat.le_refl _, fun _ _ _ => rfl⟩
  replace h : Env w.drew l B gL gd gf gm gl A cap m log := h.step hst ⟨h.st.km, h.st.kl, h.st.sl, h.st.bm, h.st.ne, h.st.le⟩
  obtain ⟨c1, hc1⟩ : ∃ c, taskAt l t 1 = c := ⟨_, rfl⟩
  have HC := Lib.hid hc1
  clear hc1 H
  go_enter Try.func36, Try.ntmps36
  go_wp2_with fail
  refine wp_region_held_drew (S := fun w' => Bk w' gd 83 #[doV gm gl] ∧ Bk w' gf 92 #[ofV gL]) (by kernel_rfl) hS (fun hHeld => ?_)
  clear hHeld
  generalize w.drew = w1 at *
  rw [HC.out]
  have HX := Lib.hid hx
  clear hx
  refine wpAnyH_take (i := 0) (oi := _) (v := doV gm gl) rfl (by kernel_rfl) (by kernel_rfl) (by kernel_rfl) (fun _ _ _ h => h) (Or.inl ⟨by rfl, ?_⟩) hS ?_
  · intro w' hSw
    have s1 := hSw.1.cell 0
    have s2 := hSw.2.cell 0
    simp at s1 s2
    (try simp only [List.getElem_toArray, List.getElem_cons_zero])
    (try simp only [resV])
    go_simp
    (try simp only [res_field0, res_field1, Result.andThen_ok])
  (try simp only [List.getElem_toArray, List.getElem_cons_zero, Act.put, List.setIfInBounds_toArray, List.set_cons_zero, List.set_cons_succ])
  refine wpAnyH_take (i := 1) (oi := _) (v := ofV gL) rfl (by kernel_rfl) (by kernel_rfl) (by kernel_rfl) (fun _ _ _ h => h) (Or.inl ⟨by rfl, ?_⟩) hS ?_
  · intro w' hSw
    have s1 := hSw.1.cell 0
    have s2 := hSw.2.cell 0
    simp at s1 s2
    (try simp only [List.getElem_toArray, List.getElem_cons_succ, List.getElem_cons_zero])
    (try simp only [resV])
    go_simp
    (try simp only [res_field0, res_field1, Result.andThen_ok])
  (try simp only [List.getElem_toArray, List.getElem_cons_succ, List.getElem_cons_zero, Act.put, List.setIfInBounds_toArray, List.set_cons_zero, List.set_cons_succ])
  refine wpAnyH_take (i := 2) (oi := _) (v := .int .i64 t) rfl (by kernel_rfl) (by kernel_rfl) (by kernel_rfl) (fun _ _ _ h => h) (Or.inl ⟨by rfl, ?_⟩) hS ?_
  · intro w' hSw
    have s1 := hSw.1.cell 0
    have s2 := hSw.2.cell 0
    simp at s1 s2
    (try simp only [List.getElem_toArray, List.getElem_cons_succ, List.getElem_cons_zero])
    (try simp only [resV])
    go_simp
    (try simp only [res_field0, res_field1, Result.andThen_ok])
  (try simp only [List.getElem_toArray, List.getElem_cons_succ, List.getElem_cons_zero, Act.put, List.setIfInBounds_toArray, List.set_cons_zero, List.set_cons_succ])
  clear hS
  refine wpAnyH_ready (rs := [3]) (by kernel_rfl) (by simp) ?_
  refine AllReadyH.cons (o := _) rfl (fun K hK => ?_) AllReadyH.nil
  (try simp only [List.getElem_toArray, List.getElem_cons_succ, List.getElem_cons_zero])
  go_simp
  (with_reducible refine (of_call l t 1 gL _ h.kL f ht).mono ?_)
  rintro e w2 ⟨rfl, hb⟩
  rw [HC.out]
  replace h := h.keep hb
  replace hst := hst.trans (.of_below gm hb)
  clear hb
  refine hK.out _ _ ⟨h.kd, h.kf⟩ (fun hS' => ?_)
  clear hS' hK K
  (try simp only [List.getElem_toArray, List.getElem_cons_succ, List.getElem_cons_zero, Act.put, List.setIfInBounds_toArray, List.set_cons_zero, List.set_cons_succ])
  refine wpAnyH_ready (rs := [4]) (by kernel_rfl) (by simp) ?_
  refine AllReadyH.cons (o := _) rfl (fun K hK => ?_) AllReadyH.nil
  (try simp only [List.getElem_toArray, List.getElem_cons_succ, List.getElem_cons_zero])
  go_simp
  (with_reducible refine (do_told 4 c1 0 (-1) h.st HX.out).mono ?_)
  rintro e w3 ⟨rfl, hd, hs⟩
  replace h := h.step hs hd
  replace hst := hst.trans hs
  clear hd hs
  refine hK.out _ _ ⟨h.kd, h.kf⟩ (fun hS' => ?_)
  clear hS' hK K
  (try simp only [])
  refine wpAnyH_take (i := 5) (oi := _) (v := .int .i64 1) rfl (by kernel_rfl) (by kernel_rfl) (by kernel_rfl) (fun _ _ _ h => h) (Or.inl ⟨by rfl, ?_⟩) ⟨h.kd, h.kf⟩ ?_
  · intro w' hSw
    have s1 := hSw.1.cell 0
    have s2 := hSw.2.cell 0
    simp at s1 s2
    (try simp only [List.getElem_toArray, List.getElem_cons_succ, List.getElem_cons_zero])
    (try simp only [resV])
    go_simp
    (try simp only [res_field0, Result.andThen_ok])
  (try simp only [List.getElem_toArray, List.getElem_cons_succ, List.getElem_cons_zero, Act.put, List.setIfInBounds_toArray, List.set_cons_zero, List.set_cons_succ])
  refine wpAnyH_take (i := 6) (oi := _) (v := .bool false) rfl (by kernel_rfl) (by kernel_rfl) (by kernel_rfl) (fun _ _ _ h => h) (Or.inl ⟨by rfl, ?_⟩) ⟨h.kd, h.kf⟩ ?_
  · intro w' hSw
    have s1 := hSw.1.cell 0
    have s2 := hSw.2.cell 0
    simp at s1 s2
    (try simp only [List.getElem_toArray, List.getElem_cons_succ, List.getElem_cons_zero])
    (try simp only [resV])
    go_simp
    (try simp only [res_field0, res_field1, Result.andThen_ok])
  (try simp only [List.getElem_toArray, List.getElem_cons_succ, List.getElem_cons_zero, Act.put, List.setIfInBounds_toArray, List.set_cons_zero, List.set_cons_succ])
  refine wpAnyH_done (by kernel_rfl) ?_ _
  have hS : Bk w3.drew gd 83 #[doV gm gl] ∧ Bk w3.drew gf 92 #[ofV gL] := ⟨h.kd, h.kf⟩
  have hs2 : Stp gm w3 w3.drew := ⟨rfl, rfl, rfl, Nat.le_refl _, fun _ _ _ => rfl⟩
  replace h : Env w3.drew l B gL gd gf gm gl A cap (m + 1) log := h.step hs2 ⟨h.st.km, h.st.kl, h.st.sl, h.st.bm, h.st.ne, h.st.le⟩
  replace hst := hst.trans hs2
  clear hs2
  go_wp2_with fail
  refine wp_region_held_drew (S := fun w' => Bk w' gd 83 #[doV gm gl] ∧ Bk w' gf 92 #[ofV gL]) (by kernel_rfl) hS (fun hHeld => ?_)
  clear hHeld
  generalize w3.drew = w4 at *
  refine wpAnyH_take (i := 0) (oi := _) (v := doV gm gl) rfl (by kernel_rfl) (by kernel_rfl) (by kernel_rfl) (fun _ _ _ h => h) (Or.inl ⟨by rfl, ?_⟩) hS ?_
  · intro w' hSw
    have s1 := hSw.1.cell 0
    have s2 := hSw.2.cell 0
    simp at s1 s2
    (try simp only [List.getElem_toArray, List.getElem_cons_zero])
    (try simp only [resV])
    go_simp
    (try simp only [res_field0, res_field1, Result.andThen_ok])
  (try simp only [List.getElem_toArray, List.getElem_cons_zero, Act.put, List.setIfInBounds_toArray, List.set_cons_zero, List.set_cons_succ])
  refine wpAnyH_take (i := 1) (oi := _) (v := ofV gL) rfl (by kernel_rfl) (by kernel_rfl) (by kernel_rfl) (fun _ _ _ h => h) (Or.inl ⟨by rfl, ?_⟩) hS ?_
  · intro w' hSw
    have s1 := hSw.1.cell 0
    have s2 := hSw.2.cell 0
    simp at s1 s2
    (try simp only [List.getElem_toArray, List.getElem_cons_succ, List.getElem_cons_zero])
    (try simp only [resV])
    go_simp
    (try simp only [res_field0, res_field1, Result.andThen_ok])
  (try simp only [List.getElem_toArray, List.getElem_cons_succ, List.getElem_cons_zero, Act.put, List.setIfInBounds_toArray, List.set_cons_zero, List.set_cons_succ])
  refine wpAnyH_take (i := 2) (oi := _) (v := .int .i64 t) rfl (by kernel_rfl) (by kernel_rfl) (by kernel_rfl) (fun _ _ _ h => h) (Or.inl ⟨by rfl, ?_⟩) hS ?_
  · intro w' hSw
    have s1 := hSw.1.cell 0
    have s2 := hSw.2.cell 0
    simp at s1 s2
    (try simp only [List.getElem_toArray, List.getElem_cons_succ, List.getElem_cons_zero])
    (try simp only [resV])
    go_simp
    (try simp only [res_field0, res_field1, Result.andThen_ok])
  (try simp only [List.getElem_toArray, List.getElem_cons_succ, List.getElem_cons_zero, Act.put, List.setIfInBounds_toArray, List.set_cons_zero, List.set_cons_succ])
  clear hS
  refine wpAnyH_ready (rs := [3]) (by kernel_rfl) (by simp) ?_
  refine AllReadyH.cons (o := _) rfl (fun K hK => ?_) AllReadyH.nil
  (try simp only [List.getElem_toArray, List.getElem_cons_succ, List.getElem_cons_zero])
  go_simp
  (with_reducible refine (of_call l t 1 gL _ h.kL f ht).mono ?_)
  rintro e w5 ⟨rfl, hb⟩
  rw [HC.out]
  replace h := h.keep hb
  replace hst := hst.trans (.of_below gm hb)
  clear hb
  refine hK.out _ _ ⟨h.kd, h.kf⟩ (fun hS' => ?_)
  clear hS' hK K
  (try simp only [List.getElem_toArray, List.getElem_cons_succ, List.getElem_cons_zero, Act.put, List.setIfInBounds_toArray, List.set_cons_zero, List.set_cons_succ])
  refine wpAnyH_ready (rs := [4]) (by kernel_rfl) (by simp) ?_
  refine AllReadyH.cons (o := _) rfl (fun K hK => ?_) AllReadyH.nil
  (try simp only [List.getElem_toArray, List.getElem_cons_succ, List.getElem_cons_zero])
  go_simp
  (with_reducible refine (do_asks 2 c1 0 1 h.st (by omega)).mono ?_)
  rintro e w6 ⟨rfl, hb⟩
  replace hst := hst.trans (.of_below gm hb)
  clear hb
  exact ⟨rfl, by rw [HC.out], hst⟩

set_option maxRecDepth 100000 in
set_option maxHeartbeats 4000000 in
theorem joined_yes {w : World} {l : Ly} {B gL gd gf gm gl : Nat} {A : Option Addr} {cap m : Nat} {log : List (Int × Bool)} (t : Int) (h : Env w l B gL gd gf gm gl A cap m log) (f : TkFit l) (ht : t ≤ 9223372036854775807) {x2 : Bool} {y : Int × Bool} (hx : log[m]? = some (1, x2)) (hy : log[m + 1]? = some y) :
    Calls Try.prog 36 #[.int .i64 t, ptr gd, ptr gf] w (Gives l B gL gd gf gm gl A cap (m + 1 + 1) log (.bool true) w) := by
  have H := Lib.hid h
  have hS : Bk w.drew gd 83 #[doV gm gl] ∧ Bk w.drew gf 92 #[ofV gL] := ⟨h.kd, h.kf⟩
  have hst : Stp gm w w.drew := ⟨rfl, rfl, rfl, Nat.le_refl _, fun _ _ _ => rfl⟩
  replace h : Env w.drew l B gL gd gf gm gl A cap m log := h.step hst ⟨h.st.km, h.st.kl, h.st.sl, h.st.bm, h.st.ne, h.st.le⟩
  obtain ⟨c1, hc1⟩ : ∃ c, taskAt l t 1 = c := ⟨_, rfl⟩
  have HC := Lib.hid hc1
  clear hc1 H
  go_enter Try.func36, Try.ntmps36
  go_wp2_with fail
  refine wp_region_held_drew (S := fun w' => Bk w' gd 83 #[doV gm gl] ∧ Bk w' gf 92 #[ofV gL]) (by kernel_rfl) hS (fun hHeld => ?_)
  clear hHeld
  generalize w.drew = w1 at *
  have HX := Lib.hid hx
  have HY := Lib.hid hy
  clear hx hy
  refine wpAnyH_take (i := 0) (oi := _) (v := doV gm gl) rfl (by kernel_rfl) (by kernel_rfl) (by kernel_rfl) (fun _ _ _ h => h) (Or.inl ⟨by rfl, ?_⟩) hS ?_
  · intro w' hSw
    have s1 := hSw.1.cell 0
    have s2 := hSw.2.cell 0
    simp at s1 s2
    (try simp only [List.getElem_toArray, List.getElem_cons_zero])
    (try simp only [resV])
    go_simp
    (try simp only [res_field0, res_field1, Result.andThen_ok])
  (try simp only [List.getElem_toArray, List.getElem_cons_zero, Act.put, List.setIfInBounds_toArray, List.set_cons_zero, List.set_cons_succ])
  refine wpAnyH_take (i := 1) (oi := _) (v := ofV gL) rfl (by kernel_rfl) (by kernel_rfl) (by kernel_rfl) (fun _ _ _ h => h) (Or.inl ⟨by rfl, ?_⟩) hS ?_
  · intro w' hSw
    have s1 := hSw.1.cell 0
    have s2 := hSw.2.cell 0
    simp at s1 s2
    (try simp only [List.getElem_toArray, List.getElem_cons_succ, List.getElem_cons_zero])
    (try simp only [resV])
    go_simp
    (try simp only [res_field0, res_field1, Result.andThen_ok])
  (try simp only [List.getElem_toArray, List.getElem_cons_succ, List.getElem_cons_zero, Act.put, List.setIfInBounds_toArray, List.set_cons_zero, List.set_cons_succ])
  refine wpAnyH_take (i := 2) (oi := _) (v := .int .i64 t) rfl (by kernel_rfl) (by kernel_rfl) (by kernel_rfl) (fun _ _ _ h => h) (Or.inl ⟨by rfl, ?_⟩) hS ?_
  · intro w' hSw
    have s1 := hSw.1.cell 0
    have s2 := hSw.2.cell 0
    simp at s1 s2
    (try simp only [List.getElem_toArray, List.getElem_cons_succ, List.getElem_cons_zero])
    (try simp only [resV])
    go_simp
    (try simp only [res_field0, res_field1, Result.andThen_ok])
  (try simp only [List.getElem_toArray, List.getElem_cons_succ, List.getElem_cons_zero, Act.put, List.setIfInBounds_toArray, List.set_cons_zero, List.set_cons_succ])
  clear hS
  refine wpAnyH_ready (rs := [3]) (by kernel_rfl) (by simp) ?_
  refine AllReadyH.cons (o := _) rfl (fun K hK => ?_) AllReadyH.nil
  (try simp only [List.getElem_toArray, List.getElem_cons_succ, List.getElem_cons_zero])
  go_simp
  (with_reducible refine (of_call l t 1 gL _ h.kL f ht).mono ?_)
  rintro e w2 ⟨rfl, hb⟩
  rw [HC.out]
  replace h := h.keep hb
  replace hst := hst.trans (.of_below gm hb)
  clear hb
  refine hK.out _ _ ⟨h.kd, h.kf⟩ (fun hS' => ?_)
  clear hS' hK K
  (try simp only [List.getElem_toArray, List.getElem_cons_succ, List.getElem_cons_zero, Act.put, List.setIfInBounds_toArray, List.set_cons_zero, List.set_cons_succ])
  refine wpAnyH_ready (rs := [4]) (by kernel_rfl) (by simp) ?_
  refine AllReadyH.cons (o := _) rfl (fun K hK => ?_) AllReadyH.nil
  (try simp only [List.getElem_toArray, List.getElem_cons_succ, List.getElem_cons_zero])
  go_simp
  (with_reducible refine (do_told 4 c1 0 (-1) h.st HX.out).mono ?_)
  rintro e w3 ⟨rfl, hd, hs⟩
  replace h := h.step hs hd
  replace hst := hst.trans hs
  clear hd hs
  refine hK.out _ _ ⟨h.kd, h.kf⟩ (fun hS' => ?_)
  clear hS' hK K
  (try simp only [])
  refine wpAnyH_take (i := 5) (oi := _) (v := .int .i64 1) rfl (by kernel_rfl) (by kernel_rfl) (by kernel_rfl) (fun _ _ _ h => h) (Or.inl ⟨by rfl, ?_⟩) ⟨h.kd, h.kf⟩ ?_
  · intro w' hSw
    have s1 := hSw.1.cell 0
    have s2 := hSw.2.cell 0
    simp at s1 s2
    (try simp only [List.getElem_toArray, List.getElem_cons_succ, List.getElem_cons_zero])
    (try simp only [resV])
    go_simp
    (try simp only [res_field0, Result.andThen_ok])
  (try simp only [List.getElem_toArray, List.getElem_cons_succ, List.getElem_cons_zero, Act.put, List.setIfInBounds_toArray, List.set_cons_zero, List.set_cons_succ])
  refine wpAnyH_take (i := 6) (oi := _) (v := .bool false) rfl (by kernel_rfl) (by kernel_rfl) (by kernel_rfl) (fun _ _ _ h => h) (Or.inl ⟨by rfl, ?_⟩) ⟨h.kd, h.kf⟩ ?_
  · intro w' hSw
    have s1 := hSw.1.cell 0
    have s2 := hSw.2.cell 0
    simp at s1 s2
    (try simp only [List.getElem_toArray, List.getElem_cons_succ, List.getElem_cons_zero])
    (try simp only [resV])
    go_simp
    (try simp only [res_field0, res_field1, Result.andThen_ok])
  (try simp only [List.getElem_toArray, List.getElem_cons_succ, List.getElem_cons_zero, Act.put, List.setIfInBounds_toArray, List.set_cons_zero, List.set_cons_succ])
  refine wpAnyH_done (by kernel_rfl) ?_ _
  have hS : Bk w3.drew gd 83 #[doV gm gl] ∧ Bk w3.drew gf 92 #[ofV gL] := ⟨h.kd, h.kf⟩
  have hs2 : Stp gm w3 w3.drew := ⟨rfl, rfl, rfl, Nat.le_refl _, fun _ _ _ => rfl⟩
  replace h : Env w3.drew l B gL gd gf gm gl A cap (m + 1) log := h.step hs2 ⟨h.st.km, h.st.kl, h.st.sl, h.st.bm, h.st.ne, h.st.le⟩
  replace hst := hst.trans hs2
  clear hs2
  go_wp2_with fail
  refine wp_region_held_drew (S := fun w' => Bk w' gd 83 #[doV gm gl] ∧ Bk w' gf 92 #[ofV gL]) (by kernel_rfl) hS (fun hHeld => ?_)
  clear hHeld
  generalize w3.drew = w4 at *
  refine wpAnyH_take (i := 0) (oi := _) (v := doV gm gl) rfl (by kernel_rfl) (by kernel_rfl) (by kernel_rfl) (fun _ _ _ h => h) (Or.inl ⟨by rfl, ?_⟩) hS ?_
  · intro w' hSw
    have s1 := hSw.1.cell 0
    have s2 := hSw.2.cell 0
    simp at s1 s2
    (try simp only [List.getElem_toArray, List.getElem_cons_zero])
    (try simp only [resV])
    go_simp
    (try simp only [res_field0, res_field1, Result.andThen_ok])
  (try simp only [List.getElem_toArray, List.getElem_cons_zero, Act.put, List.setIfInBounds_toArray, List.set_cons_zero, List.set_cons_succ])
  refine wpAnyH_take (i := 1) (oi := _) (v := ofV gL) rfl (by kernel_rfl) (by kernel_rfl) (by kernel_rfl) (fun _ _ _ h => h) (Or.inl ⟨by rfl, ?_⟩) hS ?_
  · intro w' hSw
    have s1 := hSw.1.cell 0
    have s2 := hSw.2.cell 0
    simp at s1 s2
    (try simp only [List.getElem_toArray, List.getElem_cons_succ, List.getElem_cons_zero])
    (try simp only [resV])
    go_simp
    (try simp only [res_field0, res_field1, Result.andThen_ok])
  (try simp only [List.getElem_toArray, List.getElem_cons_succ, List.getElem_cons_zero, Act.put, List.setIfInBounds_toArray, List.set_cons_zero, List.set_cons_succ])
  refine wpAnyH_take (i := 2) (oi := _) (v := .int .i64 t) rfl (by kernel_rfl) (by kernel_rfl) (by kernel_rfl) (fun _ _ _ h => h) (Or.inl ⟨by rfl, ?_⟩) hS ?_
  · intro w' hSw
    have s1 := hSw.1.cell 0
    have s2 := hSw.2.cell 0
    simp at s1 s2
    (try simp only [List.getElem_toArray, List.getElem_cons_succ, List.getElem_cons_zero])
    (try simp only [resV])
    go_simp
    (try simp only [res_field0, res_field1, Result.andThen_ok])
  (try simp only [List.getElem_toArray, List.getElem_cons_succ, List.getElem_cons_zero, Act.put, List.setIfInBounds_toArray, List.set_cons_zero, List.set_cons_succ])
  clear hS
  refine wpAnyH_ready (rs := [3]) (by kernel_rfl) (by simp) ?_
  refine AllReadyH.cons (o := _) rfl (fun K hK => ?_) AllReadyH.nil
  (try simp only [List.getElem_toArray, List.getElem_cons_succ, List.getElem_cons_zero])
  go_simp
  (with_reducible refine (of_call l t 1 gL _ h.kL f ht).mono ?_)
  rintro e w5 ⟨rfl, hb⟩
  rw [HC.out]
  replace h := h.keep hb
  replace hst := hst.trans (.of_below gm hb)
  clear hb
  refine hK.out _ _ ⟨h.kd, h.kf⟩ (fun hS' => ?_)
  clear hS' hK K
  (try simp only [List.getElem_toArray, List.getElem_cons_succ, List.getElem_cons_zero, Act.put, List.setIfInBounds_toArray, List.set_cons_zero, List.set_cons_succ])
  refine wpAnyH_ready (rs := [4]) (by kernel_rfl) (by simp) ?_
  refine AllReadyH.cons (o := _) rfl (fun K hK => ?_) AllReadyH.nil
  (try simp only [List.getElem_toArray, List.getElem_cons_succ, List.getElem_cons_zero])
  go_simp
  (with_reducible refine (do_told 2 c1 0 1 h.st HY.out).mono ?_)
  rintro e w6 ⟨rfl, hd, hs⟩
  replace h := h.step hs hd
  replace hst := hst.trans hs
  clear hd hs
  refine hK.out _ _ ⟨h.kd, h.kf⟩ (fun hS' => ?_)
  clear hS' hK K
  (try simp only [List.getElem_toArray, List.getElem_cons_succ, List.getElem_cons_zero, Act.put, List.setIfInBounds_toArray, List.set_cons_zero, List.set_cons_succ])
  refine wpAnyH_done (by kernel_rfl) ?_ _
  go_wp2
  go_ret
  exact ⟨rfl, h, hst⟩
end Go.Proofs.Ytcjaomiihajjbaa
