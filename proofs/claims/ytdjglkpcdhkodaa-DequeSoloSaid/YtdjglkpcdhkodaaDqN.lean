/- deque.Next, and what recovers. Printed by dqnext_gen.py. -/
import Derived.Test.YtdjglkpcdhkodaaDqPu
import Derived.Defers
import Derived.Recover
namespace Go.Proofs.Ytdjglkpcdhkodaa
open Go.RowKit
set_option linter.unusedVariables false
attribute [local go_sem ↓] Go.wp_at_zero Go.wp_at_succ

abbrev accZ : Array Value := #[.int .i64 0, .int .i64 0, .int .i64 0, .int .i64 0]
theorem results_ccc {P : Program} {fn : Func} {p q t : Tmp} {t1 t2 t3 : TypeId} (h : fn.results = #[.cell p t1, .cell q t2, .cell t t3]) (tmps : Array Value) (w : World) (g1 g2 g3 : Nat) (cs1 cs2 : Array Value) (fr1 fr2 : Nat × Nat) (d1 d2 : TypeDesc) (v : Value)
    (hp : tmps.getD p undef = .pointer (some ⟨g1, 0, none⟩)) (hq : tmps.getD q undef = .pointer (some ⟨g2, 0, none⟩)) (hv : tmps.getD t undef = .pointer (some ⟨g3, 0, none⟩)) (k1 : w.heap[g1]? = some (.cells cs1 t1 fr1)) (k2 : w.heap[g2]? = some (.cells cs2 t2 fr2))
    (hu1 : P.underlying t1 = some d1) (hd1 : (match d1 with | .struct _ | .array _ _ => true | _ => false) = true) (hi1 : (P.info? t1).map (·.size) = some cs1.size)
    (hu2 : P.underlying t2 = some d2) (hd2 : (match d2 with | .struct _ | .array _ _ => true | _ => false) = true) (hi2 : (P.info? t2).map (·.size) = some cs2.size) (hl : (loadVar t3 ⟨g3, 0, none⟩).run P w = .ok v w) :
    (results fn tmps).run P w = .ok (.tuple #[.agg cs1, .agg cs2, v]) w := by
  have hp' : tmps[p]?.getD undef = .pointer (some ⟨g1, 0, none⟩) := by simpa using hp
  have hq' : tmps[q]?.getD undef = .pointer (some ⟨g2, 0, none⟩) := by simpa using hq
  have hv' : tmps[t]?.getD undef = .pointer (some ⟨g3, 0, none⟩) := by simpa using hv
  simp [results, h, hp', hq', hv', asAddr, run_loadVar_row w g1 t1 t1 cs1 fr1 d1 k1 hu1 hd1 hi1, run_loadVar_row w g2 t2 t2 cs2 fr2 d2 k2 hu2 hd2 hi2, hl]
theorem load_bool (w : World) (g : Nat) (b : Bool) (k : Bk w g 4 #[.bool b]) : (loadVar 4 ⟨g, 0, none⟩).run Try.prog w = .ok (.bool b) w := by
  have c := k.cell 0
  simp at c
  simp [go_sem, c]
theorem leaves_congr {P : Program} {fn : Func} {t t' : Array Value} {R : Ending → World → Prop} (h : results fn t = results fn t') : ∀ (ds : List Deferred) (u : FrameMode) (w : World), Leaves P fn t R ds u w → Leaves P fn t' R ds u w := by
  intro ds
  induction ds with
  | nil =>
    intro u w hl
    cases u with
    | returning =>
      obtain ⟨v, h1, h2⟩ := hl
      exact ⟨v, by rw [← h]; exact h1, h2⟩
    | panicking c => exact hl
    | run => exact hl.elim
  | cons d ds ih =>
    intro u w hl
    obtain ⟨hu, fv, cap, f, args, h1, h2, h3⟩ := hl
    refine ⟨hu, fv, cap, f, args, h1, h2, h3.mono (fun e u' w' hq => ?_)⟩
    cases e with
    | returned v => exact ih _ _ hq
    | panicked c => exact ih _ _ hq
    | outgrown => exact hq
theorem next_put {R : Ending → World → Prop} {K : Act → World → Prop} {c : List PanicEntry} {a : Act} {w : World} {d : Nat} {v : Value} (hd : d ≠ 10 ∧ d ≠ 11 ∧ d ≠ 12) (h : Exit.then K (bodyPostD Try.prog Try.f19 R) (Exit.panic c) (a.put (some d) v) w) : Exit.then K (bodyPostD Try.prog Try.f19 R) (Exit.panic c) a w := by
  have hres : results Try.f19 (a.put (some d) v).tmps = results Try.f19 a.tmps := by
    have hr : Try.f19.results = #[.cell 10 63, .cell 11 50, .cell 12 4] := Try.results19
    simp [results, Act.put, Array.getElem?_setIfInBounds, hd.1, hd.2.1, hd.2.2]
  exact leaves_congr hres _ _ _ h
set_option maxRecDepth 100000 in
theorem clone_nil (w : World) : Calls Try.prog 30 #[.slice none 0 0] w (fun e w' => e = .returned (.slice none 0 0) ∧ Below w.heap.size w w') := by
  have q : ∀ w : World, (binOp .eql 48 (.slice none 0 0) (.slice none 0 0)).run Try.prog w = .ok (.bool true) w := fun _ => by kernel_rfl
  go_enter Try.func30, Try.ntmps30
  go_wp2
  go_ret
  exact ⟨rfl, Below.refl _ _⟩
def CatchPost (k c o v : Int) (ga go gb : Nat) (w : World) (e : Ending) (u' : FrameMode) (w' : World) : Prop :=
  e = .returned (.tuple #[]) ∧ u' = .panicking [{ v := askV k c o v, recovered := true }] ∧ Bk w' ga 63 (accC k c o v) ∧ Bk w' go 50 outZ ∧ Bk w' gb 4 #[.bool false] ∧ ∀ a : World, a.heap.size ≤ ga → a.heap.size ≤ go → a.heap.size ≤ gb → Below a.heap.size a w → Below a.heap.size a w'
set_option maxRecDepth 100000 in
set_option maxHeartbeats 2000000 in
theorem catch_idle (ga go gb : Nat) (w : World) :
    CallsD Try.prog 28 #[ptr ga, ptr go, ptr gb] .returning w fun e u' w' => e = .returned (.tuple #[]) ∧ u' = .returning ∧ w' = w := by
  refine callsD_of_wpS Try.func28 rfl fun c₀ cs hu => ?_
  apply wpS_seq
  apply wpS_region
  simp [wpOpsS, go_sem, recoverD, hu, Try.ntmps28, Exit.thenS]
  refine wpS_of_wp ?_
  have hn : ∀ w : World, (binOp .neq 20 .nilIface .nilIface).run Try.prog w = .ok (.bool false) w := fun _ => by kernel_rfl
  have heq : ∀ w : World, (eqGuard .neq 20 (.tmp 7) (.const .nilIface) .nilIface .nilIface).run Try.prog w = .ok () w := fun _ => by kernel_rfl
  have hfr : (#[ptr ga, ptr go, ptr gb] ++ ((Array.replicate 17 undef).setIfInBounds 3 .nilIface).setIfInBounds 0 .nilIface) = #[ptr ga, ptr go, ptr gb, .nilIface, undef, undef, .nilIface, undef, undef, undef, undef, undef, undef, undef, undef, undef, undef, undef, undef, undef] := by kernel_rfl
  rw [hfr]
  clear hfr
  go_wp2
  cases c₀
  simp only at hu
  subst hu
  exact ⟨rfl, _, rfl, _, results_none rfl _ _ _, rfl, rfl, rfl⟩
set_option maxRecDepth 100000 in
set_option maxHeartbeats 2000000 in
theorem catch_asked (k c o v : Int) (ga go gb : Nat) (w : World) (ka : Bk w ga 63 accZ) (ko : Bk w go 50 outZ) (kb : Bk w gb 4 #[.bool false]) (hne : ga < go ∧ go < gb) :
    CallsD Try.prog 28 #[ptr ga, ptr go, ptr gb] (.panicking [{ v := askV k c o v, recovered := false }]) w (CatchPost k c o v ga go gb w) := by
  refine callsD_of_wpS Try.func28 rfl fun c₀ cs hu => ?_
  apply wpS_seq
  apply wpS_region
  simp [wpOpsS, go_sem, recoverD, hu, Try.ntmps28, Exit.thenS]
  refine wpS_of_wp ?_
  have hn : ∀ w : World, (binOp .neq 20 (askV k c o v) .nilIface).run Try.prog w = .ok (.bool true) w := fun _ => by kernel_rfl
  have heq : ∀ w : World, (eqGuard .neq 20 (.tmp 7) (.const .nilIface) (askV k c o v) .nilIface).run Try.prog w = .ok () w := fun _ => by kernel_rfl
  have hfr : (#[ptr ga, ptr go, ptr gb] ++ ((Array.replicate 17 undef).setIfInBounds 3 (askV k c o v)).setIfInBounds 0 (askV k c o v)) = #[ptr ga, ptr go, ptr gb, askV k c o v, undef, undef, askV k c o v, undef, undef, undef, undef, undef, undef, undef, undef, undef, undef, undef, undef, undef] := by kernel_rfl
  rw [hfr]
  clear hfr
  have hta : ∀ w : World, (Instr.typeAssert (askV k c o v) 20 81 true).run Try.prog w = .ok (.tuple #[.agg (accC k c o v), .bool true]) w := fun _ => by kernel_rfl
  have l0 := ka.lt
  have l1 := ko.lt
  have l2 := kb.lt
  have kx := Bk.made w 81 (accC k c o v)
  have ka1 := ka.alloc (.cells (accC k c o v) 81)
  have ko1 := ko.alloc (.cells (accC k c o v) 81)
  have kb1 := kb.alloc (.cells (accC k c o v) 81)
  have hbz : ∀ a : World, Below a.heap.size a w → Below a.heap.size a (w.alloc (.cells (accC k c o v) 81)) := fun a ha => below_al ha _
  go_upto_region 5 with (refine wpList_store_new rfl 81 (.tmp 4) (.tmp 12) rfl rfl w.heap.size _ _ (accC k c o v) rfl rfl rfl rfl (by kernel_rfl) rfl (by simp [Value.oneCell']) ?_)
  generalize w.alloc (.cells (accC k c o v) 81) = w1 at *
  generalize w.heap.size = gx at *
  have ka2 : Bk (w1.setRow ga (accC k c o v)) ga 63 (accC k c o v) := setRow_heap _ _ accZ (accC k c o v) 63 (0, 0) ka1
  have ko2 : Bk (w1.setRow ga (accC k c o v)) go 50 outZ := (setRow_other _ _ _ _ (by omega)).trans ko1
  have kb2 : Bk (w1.setRow ga (accC k c o v)) gb 4 #[.bool false] := (setRow_other _ _ _ _ (by omega)).trans kb1
  have ko3 : Bk ((w1.setRow ga (accC k c o v)).setRow go outZ) go 50 outZ := setRow_heap _ _ outZ outZ 50 (0, 0) ko2
  have ka3 : Bk ((w1.setRow ga (accC k c o v)).setRow go outZ) ga 63 (accC k c o v) := (setRow_other _ _ _ _ (by omega)).trans ka2
  have kb3 : Bk ((w1.setRow ga (accC k c o v)).setRow go outZ) gb 4 #[.bool false] := (setRow_other _ _ _ _ (by omega)).trans kb2
  have q0 := kb3.cell 0
  have f0 := kb3.free 0
  have l3 := kb3.lt
  simp at q0
  go_wp2_with (first
    | (refine wpList_load_row rfl 63 (.tmp 17) rfl gx rfl 81 (accC k c o v) (0, 0) _ kx Try.underlying63 rfl (by kernel_rfl) ?_)
    | (refine wpList_store_rowTo rfl 63 (.tmp 0) (.tmp 18) rfl rfl ga (accC k c o v) rfl rfl 63 accZ ka1 (by kernel_rfl) rfl (by simp [Value.oneCell']) ?_)
    | (refine wpList_store_rowTo rfl 50 (.tmp 1) (.tmp 19) rfl rfl go outZ rfl rfl 50 outZ ko2 (by kernel_rfl) rfl (by simp [Value.oneCell']) ?_))
  refine ⟨rfl, _, rfl, _, results_none rfl _ _ _, rfl, rfl, ka3.other (p := ⟨gb, 0, none⟩) (by dsimp only; omega) _, ko3.other (p := ⟨gb, 0, none⟩) (by dsimp only; omega) _, kb3.stored 0 (.bool false), fun a h1 h2 h3 ha => ?_⟩
  exact below_set (below_setRow (below_setRow (hbz a ha) h1 _) h2 _) (p := ⟨gb, 0, none⟩) h3 _
def NextPost (r : Ans) (w : World) (e : Ending) (w' : World) : Prop :=
  match r with
  | .ask k c o v => e = .returned (.tuple #[.agg (accC k c o v), .agg outZ, .bool false]) ∧ Below w.heap.size w w'
  | .out val is err point => e = .returned (.tuple #[.agg accZ, .agg (outC val is err point), .bool true]) ∧ Below w.heap.size w w'
theorem programs_any (w : World) : Calls Try.prog 29 #[] w (fun e w' => e = .returned (.agg #[.func (.func 41) #[] #[], .func (.func 42) #[] #[], .func (.func 43) #[] #[]]) ∧ Below w.heap.size w w') := by
  go_enter Try.func29, Try.ntmps29
  go_wp2_with (refine wpList_store_new rfl 87 (.tmp 0) (.tmp 1) rfl rfl w.heap.size _ _ #[.func (.func 41) #[] #[], .func (.func 42) #[] #[], .func (.func 43) #[] #[]] rfl rfl rfl rfl (by kernel_rfl) rfl (by simp [Value.oneCell']) ?_)
  exact bodyPost_ret (v := .agg #[.func (.func 41) #[] #[], .func (.func 42) #[] #[], .func (.func 43) #[] #[]]) (results_cell_row (p := 0) (ty := 87) rfl _ _ w.heap.size 87 _ (0, 0) _ rfl (Bk.made w 87 _) Try.underlying87 rfl (by kernel_rfl)) rfl ⟨rfl, below_al (Below.refl _ _) _⟩
set_option maxRecDepth 100000 in
set_option maxHeartbeats 8000000 in
theorem next_bad (l : Ly) (me : Int) (op : Opr) (A : Option Addr) (cap : Nat) (log : Log) (w : World) (hk : op.kind = 8 ∨ op.kind = 9 ∨ op.kind = 10) (ho : 0 ≤ op.obj ∧ l.c.seats ≤ op.obj) :
    Calls Try.prog 19 #[lyV l, .int .i64 me, .slice none 0 0, .agg (oprC op), .slice A log.length cap] w (NextPost (.out 0 false 1 (-1)) w) := by
  have hmf : ∀ (fn : Fn) (first cap : Array Value) (w : World), (Instr.makeFunc fn first cap).run Try.prog w = .ok (.func fn first cap) w := fun _ _ _ _ => rfl
  have k0 := ((((Bk.made w 31 (lyC l)).alloc (.cells (oprC op) 39)).alloc (.cells accZ 63)).alloc (.cells outZ 50)).alloc (.cells #[.bool false] 4)
  have k1 := (((Bk.new (w.alloc (.cells (lyC l) 31)) (g := w.heap.size + 1) (by simp) 39 (oprC op)).alloc (.cells accZ 63)).alloc (.cells outZ 50)).alloc (.cells #[.bool false] 4)
  have k2 := ((Bk.new ((w.alloc (.cells (lyC l) 31)).alloc (.cells (oprC op) 39)) (g := w.heap.size + 1 + 1) (by simp) 63 accZ).alloc (.cells outZ 50)).alloc (.cells #[.bool false] 4)
  have k3 := (Bk.new (((w.alloc (.cells (lyC l) 31)).alloc (.cells (oprC op) 39)).alloc (.cells accZ 63)) (g := w.heap.size + 1 + 1 + 1) (by simp) 50 outZ).alloc (.cells #[.bool false] 4)
  have k4 := Bk.new ((((w.alloc (.cells (lyC l) 31)).alloc (.cells (oprC op) 39)).alloc (.cells accZ 63)).alloc (.cells outZ 50)) (g := w.heap.size + 1 + 1 + 1 + 1) (by simp) 4 #[.bool false]
  have hbl := below_al (below_al (below_al (below_al (below_al (Below.refl w.heap.size w) (.cells (lyC l) 31)) (.cells (oprC op) 39)) (.cells accZ 63)) (.cells outZ 50)) (.cells #[.bool false] 4)
  go_enter_defers Try.func19, Try.ntmps19
  go_upto_region 2 with fail
  generalize ((((w.alloc (.cells (lyC l) 31)).alloc (.cells (oprC op) 39)).alloc (.cells accZ 63)).alloc (.cells outZ 50)).alloc (.cells #[.bool false] 4) = w8 at *
  obtain ⟨b0, hb0⟩ : ∃ g, w.heap.size = g := ⟨_, rfl⟩
  obtain ⟨b1, hb1⟩ : ∃ g, w.heap.size + 1 = g := ⟨_, rfl⟩
  obtain ⟨b2, hb2⟩ : ∃ g, w.heap.size + 1 + 1 = g := ⟨_, rfl⟩
  obtain ⟨b3, hb3⟩ : ∃ g, w.heap.size + 1 + 1 + 1 = g := ⟨_, rfl⟩
  obtain ⟨b4, hb4⟩ : ∃ g, w.heap.size + 1 + 1 + 1 + 1 = g := ⟨_, rfl⟩
  rw [hb4] at k4 ⊢
  rw [hb3] at k3 ⊢
  rw [hb2] at k2 ⊢
  rw [hb1] at k1 ⊢
  rw [hb0] at k0 ⊢
  have n0 : w.heap.size ≤ b0 := by omega
  have n1 : w.heap.size ≤ b1 := by omega
  have n2 : w.heap.size ≤ b2 := by omega
  have n3 : w.heap.size ≤ b3 := by omega
  have n4 : w.heap.size ≤ b4 := by omega
  have hch : b0 < b1 ∧ b1 < b2 ∧ b2 < b3 ∧ b3 < b4 := by omega
  clear hb0 hb1 hb2 hb3 hb4
  have y0 := k1.cell 0
  have y1 := k1.cell 1
  have x0 := k0.cell 0
  simp at y0 y1 x0
  have gk1 : decide (op.kind < 8) = false := by simp; omega
  have gk2 : decide (10 < op.kind) = false := by simp; omega
  have gk3 : decide (op.obj < 0) = false := by simp; omega
  have gk4 : decide (l.c.seats ≤ op.obj) = true := by simp; omega
  have a3 : Bk (w8.setRow b3 (outC 0 false 1 (-1))) b3 50 (outC 0 false 1 (-1)) := setRow_heap _ _ outZ (outC 0 false 1 (-1)) 50 (0, 0) k3
  have a2 : Bk (w8.setRow b3 (outC 0 false 1 (-1))) b2 63 accZ := (setRow_other _ _ _ _ (by omega)).trans k2
  have a4 : Bk (w8.setRow b3 (outC 0 false 1 (-1))) b4 4 #[.bool false] := (setRow_other _ _ _ _ (by omega)).trans k4
  replace hbl := below_setRow hbl n3 (outC 0 false 1 (-1))
  go_upto_region 6 with (refine wpList_store_rowTo rfl 50 (.tmp 11) (.tmp 36) rfl rfl b3 (outC 0 false 1 (-1)) rfl rfl 50 outZ k3 (by kernel_rfl) rfl (by simp [Value.oneCell']) ?_)
  clear k0 k1 k2 k3 k4 y0 y1 x0 gk1 gk2 gk3 gk4
  generalize w8.setRow b3 (outC 0 false 1 (-1)) = w14 at *
  go_wp2_with fail
  (with_reducible refine (clone_nil _).mono ?_)
  rintro e w15 ⟨rfl, hb⟩
  replace a2 := a2.keep hb
  replace a3 := a3.keep hb
  replace a4 := a4.keep hb
  replace hbl := below_tr hbl hb
  clear hb
  have q4 := a3.cell 4
  have f4 := a3.free 4
  have l4 := a3.lt
  simp at q4
  go_upto_region 7 with fail
  clear q4 f4 l4
  replace a3 : Bk (w15.setCell ⟨b3, 4, none⟩ (.slice none 0 0)) b3 50 (outC 0 false 1 (-1)) := a3.stored 4 (.slice none 0 0)
  replace a2 := a2.other (p := ⟨b3, 4, none⟩) (by dsimp only; omega) (.slice none 0 0)
  replace a4 := a4.other (p := ⟨b3, 4, none⟩) (by dsimp only; omega) (.slice none 0 0)
  replace hbl := below_set hbl (p := ⟨b3, 4, none⟩) n3 (.slice none 0 0)
  generalize w15.setCell ⟨b3, 4, none⟩ (.slice none 0 0) = w16 at *
  refine wp_region_E (S := fun w' => Bk w' b3 50 (outC 0 false 1 (-1))) (E := fun _ => false) (by kernel_rfl) ?_
  replace a2 := a2.drew
  replace a3 := a3.drew
  replace a4 := a4.drew
  replace hbl := hbl.drew
  generalize w16.drew = w17 at *
  refine wpAnyE_take (i := 0) (oi := _) (v := .agg accZ) rfl (by kernel_rfl) (by kernel_rfl) (by kernel_rfl) (by kernel_rfl) (fun _ _ _ h => next_put (by omega) h) (Or.inl ⟨by rfl, ?_⟩) a3 ?_
  · intro w' hSw
    (try simp only [List.getElem_toArray, List.getElem_cons_zero])
    go_simp
  (try simp only [List.getElem_toArray, List.getElem_cons_zero, Act.put, List.setIfInBounds_toArray, List.set_cons_zero, List.set_cons_succ])
  refine wpAnyE_take (i := 1) (oi := _) (v := .agg (outC 0 false 1 (-1))) rfl (by kernel_rfl) (by kernel_rfl) (by kernel_rfl) (by kernel_rfl) (fun _ _ _ h => next_put (by omega) h) (Or.inl ⟨by rfl, ?_⟩) a3 ?_
  · intro w' hSw
    (try simp only [List.getElem_toArray, List.getElem_cons_succ, List.getElem_cons_zero])
    simp only [execOp, Instr.loadAt, Instr.sureAddr, Sem.run_bind, Sem.run_pure]
    rw [show (Act.eval _ (Operand.tmp 11)) = Value.pointer (some ⟨b3, 0, none⟩) from rfl]
    simp only [Sem.run_pure, Result.andThen_ok, run_loadVar_row w' b3 50 50 (outC 0 false 1 (-1)) (0, 0) _ hSw Try.underlying50 rfl (by kernel_rfl)]
  (try simp only [List.getElem_toArray, List.getElem_cons_succ, List.getElem_cons_zero, Act.put, List.setIfInBounds_toArray, List.set_cons_zero, List.set_cons_succ])
  refine wpAnyE_one (i := 2) (o := _) (by kernel_rfl) rfl (fun K hK => ?_)
  rw [if_pos (by rfl)]
  refine wp_store_row 63 (.tmp 10) (.tmp 54) rfl b2 accZ rfl rfl 63 accZ a2 (by kernel_rfl) rfl (by simp [Value.oneCell']) ?_
  have c2 : Bk (w17.setRow b2 accZ) b2 63 accZ := setRow_heap _ _ accZ accZ 63 (0, 0) a2
  replace a3 : Bk (w17.setRow b2 accZ) b3 50 (outC 0 false 1 (-1)) := (setRow_other _ _ _ _ (by omega)).trans a3
  replace a4 : Bk (w17.setRow b2 accZ) b4 4 #[.bool false] := (setRow_other _ _ _ _ (by omega)).trans a4
  replace hbl := below_setRow hbl n2 accZ
  refine hK.out _ _ (fun _ => a3) ?_
  clear hK K a2
  (try simp only [List.getElem_toArray, List.getElem_cons_succ, List.getElem_cons_zero, Act.put])
  generalize w17.setRow b2 accZ = w18 at *
  refine wpAnyE_one (i := 3) (o := _) (by kernel_rfl) rfl (fun K hK => ?_)
  rw [if_pos (by rfl)]
  refine wp_store_row 50 (.tmp 11) (.tmp 55) rfl b3 (outC 0 false 1 (-1)) rfl rfl 50 (outC 0 false 1 (-1)) a3 (by kernel_rfl) rfl (by simp [Value.oneCell']) ?_
  have c3 : Bk (w18.setRow b3 (outC 0 false 1 (-1))) b3 50 (outC 0 false 1 (-1)) := setRow_heap _ _ (outC 0 false 1 (-1)) (outC 0 false 1 (-1)) 50 (0, 0) a3
  replace c2 : Bk (w18.setRow b3 (outC 0 false 1 (-1))) b2 63 accZ := (setRow_other _ _ _ _ (by omega)).trans c2
  replace a4 : Bk (w18.setRow b3 (outC 0 false 1 (-1))) b4 4 #[.bool false] := (setRow_other _ _ _ _ (by omega)).trans a4
  replace hbl := below_setRow hbl n3 (outC 0 false 1 (-1))
  refine hK.out _ _ (fun _ => c3) ?_
  clear hK K a3
  (try simp only [List.getElem_toArray, List.getElem_cons_succ, List.getElem_cons_zero, Act.put])
  generalize w18.setRow b3 (outC 0 false 1 (-1)) = w19 at *
  have q6 := a4.cell 0
  have f6 := a4.free 0
  have l6 := a4.lt
  simp at q6
  refine wpAnyE_one (i := 4) (o := _) (by kernel_rfl) rfl (fun K hK => ?_)
  (try simp only [List.getElem_toArray, List.getElem_cons_succ, List.getElem_cons_zero])
  go_simp
  clear q6 f6 l6
  replace a4 : Bk (w19.setCell ⟨b4, 0, none⟩ (.bool true)) b4 4 #[.bool true] := a4.stored 0 (.bool true)
  replace c2 := c2.other (p := ⟨b4, 0, none⟩) (by dsimp only; omega) (.bool true)
  replace c3 := c3.other (p := ⟨b4, 0, none⟩) (by dsimp only; omega) (.bool true)
  replace hbl := below_set hbl (p := ⟨b4, 0, none⟩) n4 (.bool true)
  refine hK.out _ _ (fun _ => c3) ?_
  clear hK K
  (try simp only [List.getElem_toArray, List.getElem_cons_succ, List.getElem_cons_zero, Act.put, List.setIfInBounds_toArray, List.set_cons_zero, List.set_cons_succ])
  generalize w19.setCell ⟨b4, 0, none⟩ (.bool true) = w20 at *
  refine wpAnyE_done (by kernel_rfl) ?_ _
  go_wp2
  refine leaves_cons (f := 28) (args := #[ptr b2, ptr b3, ptr b4]) (by simp) (by simp [go_sem]) ?_
  refine (catch_idle b2 b3 b4 _).mono ?_
  rintro e u' w21 ⟨rfl, rfl, rfl⟩
  refine ⟨_, results_ccc (p := 10) (q := 11) (t := 12) (t1 := 63) (t2 := 50) (t3 := 4) rfl _ _ b2 b3 b4 accZ (outC 0 false 1 (-1)) (0, 0) (0, 0) _ _ _ rfl rfl rfl c2 c3 Try.underlying63 rfl (by kernel_rfl) Try.underlying50 rfl (by kernel_rfl) (load_bool _ b4 true a4), ?_⟩
  show NextPost (.out 0 false 1 (-1)) w _ _
  unfold NextPost
  exact ⟨rfl, hbl⟩
set_option maxRecDepth 100000 in
set_option maxHeartbeats 8000000 in
theorem next_any (l : Ly) (me : Int) (op : Opr) (A : Option Addr) (cap : Nat) (log : Log) (w : World) (f : DqLy l) (hk : op.kind = 8 ∨ op.kind = 9 ∨ op.kind = 10) (ho : op.obj = 0) (hin : LogIn log) (hs : SlRes w w.heap.size A log) (hl : log.length ≤ 1000) :
    Calls Try.prog 19 #[lyV l, .int .i64 me, .slice none 0 0, .agg (oprC op), .slice A log.length cap] w (NextPost (nextD l op log) w) := by
  have hmf : ∀ (fn : Fn) (first cap : Array Value) (w : World), (Instr.makeFunc fn first cap).run Try.prog w = .ok (.func fn first cap) w := fun _ _ _ _ => rfl
  have k0 := ((((Bk.made w 31 (lyC l)).alloc (.cells (oprC op) 39)).alloc (.cells accZ 63)).alloc (.cells outZ 50)).alloc (.cells #[.bool false] 4)
  have k1 := (((Bk.new (w.alloc (.cells (lyC l) 31)) (g := w.heap.size + 1) (by simp) 39 (oprC op)).alloc (.cells accZ 63)).alloc (.cells outZ 50)).alloc (.cells #[.bool false] 4)
  have k2 := ((Bk.new ((w.alloc (.cells (lyC l) 31)).alloc (.cells (oprC op) 39)) (g := w.heap.size + 1 + 1) (by simp) 63 accZ).alloc (.cells outZ 50)).alloc (.cells #[.bool false] 4)
  have k3 := (Bk.new (((w.alloc (.cells (lyC l) 31)).alloc (.cells (oprC op) 39)).alloc (.cells accZ 63)) (g := w.heap.size + 1 + 1 + 1) (by simp) 50 outZ).alloc (.cells #[.bool false] 4)
  have k4 := Bk.new ((((w.alloc (.cells (lyC l) 31)).alloc (.cells (oprC op) 39)).alloc (.cells accZ 63)).alloc (.cells outZ 50)) (g := w.heap.size + 1 + 1 + 1 + 1) (by simp) 4 #[.bool false]
  have hbl := below_al (below_al (below_al (below_al (below_al (Below.refl w.heap.size w) (.cells (lyC l) 31)) (.cells (oprC op) 39)) (.cells accZ 63)) (.cells outZ 50)) (.cells #[.bool false] 4)
  go_enter_defers Try.func19, Try.ntmps19
  go_upto_region 2 with fail
  generalize ((((w.alloc (.cells (lyC l) 31)).alloc (.cells (oprC op) 39)).alloc (.cells accZ 63)).alloc (.cells outZ 50)).alloc (.cells #[.bool false] 4) = w8 at *
  obtain ⟨b0, hb0⟩ : ∃ g, w.heap.size = g := ⟨_, rfl⟩
  obtain ⟨b1, hb1⟩ : ∃ g, w.heap.size + 1 = g := ⟨_, rfl⟩
  obtain ⟨b2, hb2⟩ : ∃ g, w.heap.size + 1 + 1 = g := ⟨_, rfl⟩
  obtain ⟨b3, hb3⟩ : ∃ g, w.heap.size + 1 + 1 + 1 = g := ⟨_, rfl⟩
  obtain ⟨b4, hb4⟩ : ∃ g, w.heap.size + 1 + 1 + 1 + 1 = g := ⟨_, rfl⟩
  rw [hb4] at k4 ⊢
  rw [hb3] at k3 ⊢
  rw [hb2] at k2 ⊢
  rw [hb1] at k1 ⊢
  rw [hb0] at k0 ⊢
  have n0 : w.heap.size ≤ b0 := by omega
  have n1 : w.heap.size ≤ b1 := by omega
  have n2 : w.heap.size ≤ b2 := by omega
  have n3 : w.heap.size ≤ b3 := by omega
  have n4 : w.heap.size ≤ b4 := by omega
  have hch : b0 < b1 ∧ b1 < b2 ∧ b2 < b3 ∧ b3 < b4 := by omega
  clear hb0 hb1 hb2 hb3 hb4
  have HSL := Lib.hid hs
  have HF := Lib.hid f
  clear hs f
  have y0 := k1.cell 0
  have y1 := k1.cell 1
  have x0 := k0.cell 0
  have hs1 := HF.out.s
  simp at y0 y1 x0
  rw [ho] at y1
  have gk1 : decide (op.kind < 8) = false := by simp; omega
  have gk2 : decide (10 < op.kind) = false := by simp; omega
  have gk3 : decide (l.c.seats ≤ (0 : Int)) = false := by simp; omega
  go_upto_region 5 with (refine wpList_load_row rfl 31 (.tmp 5) rfl b0 rfl 31 (lyC l) (0, 0) _ k0 Try.underlying31 rfl (by kernel_rfl) ?_)
  clear y0 y1 x0 gk1 gk2 gk3
  have kp := Bk.made w8 85 (progC l A log.length cap 0)
  have l4 := k4.lt
  replace k1 := k1.alloc (.cells (progC l A log.length cap 0) 85)
  replace k2 := k2.alloc (.cells (progC l A log.length cap 0) 85)
  replace k3 := k3.alloc (.cells (progC l A log.length cap 0) 85)
  replace k4 := k4.alloc (.cells (progC l A log.length cap 0) 85)
  have zp : w.heap.size ≤ w8.heap.size := hbl.size
  replace hbl := below_al hbl (.cells (progC l A log.length cap 0) 85)
  clear k0
  show Code.wp Try.prog _ _ _ (w8.alloc (.cells (progC l A log.length cap 0) 85))
  obtain ⟨gp, hgp⟩ : ∃ g, w8.heap.size = g := ⟨_, rfl⟩
  have hbg : b4 < gp := by omega
  have zp' : w.heap.size ≤ gp := by omega
  rw [hgp] at kp
  rw [hgp]
  have hp : PrSt (w8.alloc (.cells (progC l A log.length cap 0) 85)) w.heap.size gp l A cap 0 log := ⟨kp, HSL.out.below hbl, zp', hl⟩
  clear hgp kp l4
  generalize w8.alloc (.cells (progC l A log.length cap 0) 85) = w9 at *
  obtain ⟨kd, hkd⟩ : ∃ z, op.kind = z := ⟨_, rfl⟩
  have HKD := Lib.hid hkd
  rw [hkd] at hk
  have HIN := Lib.hid hin
  clear hkd hin ho hs1
  rcases hk with rfl | rfl | rfl
  · have HNX := Lib.hid (show nextD l op log = pushM l op.a log by unfold nextD; rw [HKD.out]; rfl)
    have y0 := k1.cell 0
    have l1 := k1.lt
    simp at y0
    rw [HKD.out] at y0
    refine wp_region_E (S := fun w' => Bk w' b1 39 (oprC op)) (E := fun i => i == 8) (by kernel_rfl) ?_
    replace k1 := k1.drew
    replace k2 := k2.drew
    replace k3 := k3.drew
    replace k4 := k4.drew
    replace hp := hp.drew
    replace hbl := hbl.drew
    clear y0 l1
    generalize w9.drew = w10 at *
    refine wpAnyE_take (i := 1) (oi := _) (v := .pointer (some ⟨b1, 0, none⟩)) rfl (by kernel_rfl) (by kernel_rfl) (by kernel_rfl) (by kernel_rfl) (fun _ _ _ h => next_put (by omega) h) (Or.inl ⟨by rfl, ?_⟩) k1 ?_
    · intro w' hSw
      (try simp only [List.getElem_toArray, List.getElem_cons_succ, List.getElem_cons_zero])
      go_simp
    (try simp only [List.getElem_toArray, List.getElem_cons_succ, List.getElem_cons_zero, Act.put, List.setIfInBounds_toArray, List.set_cons_zero, List.set_cons_succ])
    refine wpAnyE_take (i := 2) (oi := _) (v := .int .i64 8) rfl (by kernel_rfl) (by kernel_rfl) (by kernel_rfl) (by kernel_rfl) (fun _ _ _ h => next_put (by omega) h) (Or.inl ⟨by rfl, ?_⟩) k1 ?_
    · intro w' hSw
      have y0 := hSw.cell 0
      simp at y0
      rw [HKD.out] at y0
      (try simp only [List.getElem_toArray, List.getElem_cons_succ, List.getElem_cons_zero])
      go_simp
    (try simp only [List.getElem_toArray, List.getElem_cons_succ, List.getElem_cons_zero, Act.put, List.setIfInBounds_toArray, List.set_cons_zero, List.set_cons_succ])
    refine wpAnyE_take (i := 3) (oi := _) (v := .int .i64 0) rfl (by kernel_rfl) (by kernel_rfl) (by kernel_rfl) (by kernel_rfl) (fun _ _ _ h => next_put (by omega) h) (Or.inl ⟨by rfl, ?_⟩) k1 ?_
    · intro w' hSw
      (try simp only [List.getElem_toArray, List.getElem_cons_succ, List.getElem_cons_zero])
      go_simp
      (try rfl)
    (try simp only [List.getElem_toArray, List.getElem_cons_succ, List.getElem_cons_zero, Act.put, List.setIfInBounds_toArray, List.set_cons_zero, List.set_cons_succ])
    refine wpAnyE_take (i := 5) (oi := _) (v := .pointer (some ⟨gp, 0, none⟩)) rfl (by kernel_rfl) (by kernel_rfl) (by kernel_rfl) (by kernel_rfl) (fun _ _ _ h => next_put (by omega) h) (Or.inl ⟨by rfl, ?_⟩) k1 ?_
    · intro w' hSw
      (try simp only [List.getElem_toArray, List.getElem_cons_succ, List.getElem_cons_zero])
      go_simp
    (try simp only [List.getElem_toArray, List.getElem_cons_succ, List.getElem_cons_zero, Act.put, List.setIfInBounds_toArray, List.set_cons_zero, List.set_cons_succ])
    refine wpAnyE_take (i := 6) (oi := _) (v := .agg (oprC op)) rfl (by kernel_rfl) (by kernel_rfl) (by kernel_rfl) (by kernel_rfl) (fun _ _ _ h => next_put (by omega) h) (Or.inl ⟨by rfl, ?_⟩) k1 ?_
    · intro w' hSw
      have s1 := hSw.cell 0
      have s2 := hSw.cell 1
      have s3 := hSw.cell 2
      have s4 := hSw.cell 3
      (try simp at s1 s2 s3 s4)
      (try simp only [List.getElem_toArray, List.getElem_cons_succ, List.getElem_cons_zero])
      go_simp
    (try simp only [List.getElem_toArray, List.getElem_cons_succ, List.getElem_cons_zero, Act.put, List.setIfInBounds_toArray, List.set_cons_zero, List.set_cons_succ])
    refine wpAnyE_one (i := 0) (o := _) (by kernel_rfl) rfl (fun K hK => ?_)
    (try simp only [List.getElem_toArray, List.getElem_cons_zero])
    go_simp
    (with_reducible refine (programs_any _).mono ?_)
    rintro e w11 ⟨rfl, hb⟩
    replace k1 := k1.keep hb
    replace k2 := k2.keep hb
    replace k3 := k3.keep hb
    replace k4 := k4.keep hb
    replace hp := hp.keep hb
    replace hbl := below_tr hbl hb
    clear hb
    refine hK.out _ _ (fun _ => k1) ?_
    clear hK K
    (try simp only [List.getElem_toArray, List.getElem_cons_succ, List.getElem_cons_zero, Act.put, List.setIfInBounds_toArray, List.set_cons_zero, List.set_cons_succ])
    refine wpAnyE_take (i := 4) (oi := _) (v := .func (.func 41) #[] #[]) rfl (by kernel_rfl) (by kernel_rfl) (by kernel_rfl) (by kernel_rfl) (fun _ _ _ h => next_put (by omega) h) (Or.inl ⟨by rfl, ?_⟩) k1 ?_
    · intro w' hSw
      (try simp only [List.getElem_toArray, List.getElem_cons_succ, List.getElem_cons_zero])
      go_simp
      (try kernel_rfl)
    (try simp only [List.getElem_toArray, List.getElem_cons_succ, List.getElem_cons_zero, Act.put, List.setIfInBounds_toArray, List.set_cons_zero, List.set_cons_succ])
    refine wpAnyE_one (i := 7) (o := _) (by kernel_rfl) rfl (fun K hK => ?_)
    (try simp only [List.getElem_toArray, List.getElem_cons_succ, List.getElem_cons_zero])
    go_simp
    (with_reducible refine (push_any op hp HF.out HIN.out).mono ?_)
    intro e w13 hpost
    obtain ⟨ans, hans⟩ : ∃ a, pushM l op.a log = a := ⟨_, rfl⟩
    rw [hans] at hpost HNX
    have hk1b := k1
    clear hans hp k1
    cases ans with
    | ask k c o v =>
      obtain ⟨rfl, hst⟩ := hpost
      replace k2 := hst.keep k2 (by omega)
      replace k3 := hst.keep k3 (by omega)
      replace k4 := hst.keep k4 (by omega)
      replace hbl := hst.below zp' hbl
      refine leaves_cons (f := 28) (args := #[ptr b2, ptr b3, ptr b4]) (by simp) (by simp [go_sem]) ?_
      refine (catch_asked k c o v b2 b3 b4 _ k2 k3 k4 (by omega)).mono ?_
      rintro e u' w14 ⟨rfl, rfl, c2, c3, c4, hbz⟩
      refine ⟨_, results_ccc (p := 10) (q := 11) (t := 12) (t1 := 63) (t2 := 50) (t3 := 4) rfl _ _ b2 b3 b4 (accC k c o v) outZ (0, 0) (0, 0) _ _ _ rfl rfl rfl c2 c3 Try.underlying63 rfl (by kernel_rfl) Try.underlying50 rfl (by kernel_rfl) (load_bool _ b4 false c4), ?_⟩
      rw [HNX.out]
      exact ⟨rfl, hbz w n2 n3 n4 hbl⟩
    | out val is err point =>
      obtain ⟨rfl, hst⟩ := hpost
      replace k2 := hst.keep k2 (by omega)
      replace k3 := hst.keep k3 (by omega)
      replace k4 := hst.keep k4 (by omega)
      replace hbl := hst.below zp' hbl
      have hk1c := hst.keep hk1b (by omega)
      clear hst
      refine hK.out _ _ (fun _ => hk1c) ?_
      clear hK K hk1b
      (try simp only [List.getElem_toArray, List.getElem_cons_succ, List.getElem_cons_zero, Act.put, List.setIfInBounds_toArray, List.set_cons_zero, List.set_cons_succ])
      refine wpAnyE_one (i := 8) (o := _) (by kernel_rfl) rfl (fun K2 hK2 => ?_)
      rw [if_pos (by rfl)]
      have a3 : Bk (w13.setRow b3 (outC val is err point)) b3 50 (outC val is err point) := setRow_heap _ _ outZ (outC val is err point) 50 (0, 0) k3
      have a2 : Bk (w13.setRow b3 (outC val is err point)) b2 63 accZ := (setRow_other _ _ _ _ (by omega)).trans k2
      have a4 : Bk (w13.setRow b3 (outC val is err point)) b4 4 #[.bool false] := (setRow_other _ _ _ _ (by omega)).trans k4
      replace hbl := below_setRow hbl n3 (outC val is err point)
      refine wp_store_row 50 (.tmp 11) (.tmp 50) rfl b3 (outC val is err point) rfl rfl 50 outZ k3 (by kernel_rfl) rfl (by simp [Value.oneCell']) ?_
      refine hK2.out _ _ (fun h => absurd h (by decide)) ?_
      clear hK2 K2
      refine wpAnyE_done (by kernel_rfl) ?_ _
      clear k2 k3 k4 hk1c
      generalize w13.setRow b3 (outC val is err point) = w14 at *
      go_wp2_with fail
      (with_reducible refine (clone_nil _).mono ?_)
      rintro e w15 ⟨rfl, hb⟩
      replace a2 := a2.keep hb
      replace a3 := a3.keep hb
      replace a4 := a4.keep hb
      replace hbl := below_tr hbl hb
      clear hb
      have q4 := a3.cell 4
      have f4 := a3.free 4
      have l4 := a3.lt
      simp at q4
      go_upto_region 7 with fail
      clear q4 f4 l4
      replace a3 : Bk (w15.setCell ⟨b3, 4, none⟩ (.slice none 0 0)) b3 50 (outC val is err point) := a3.stored 4 (.slice none 0 0)
      replace a2 := a2.other (p := ⟨b3, 4, none⟩) (by dsimp only; omega) (.slice none 0 0)
      replace a4 := a4.other (p := ⟨b3, 4, none⟩) (by dsimp only; omega) (.slice none 0 0)
      replace hbl := below_set hbl (p := ⟨b3, 4, none⟩) n3 (.slice none 0 0)
      generalize w15.setCell ⟨b3, 4, none⟩ (.slice none 0 0) = w16 at *
      refine wp_region_E (S := fun w' => Bk w' b3 50 (outC val is err point)) (E := fun _ => false) (by kernel_rfl) ?_
      replace a2 := a2.drew
      replace a3 := a3.drew
      replace a4 := a4.drew
      replace hbl := hbl.drew
      generalize w16.drew = w17 at *
      refine wpAnyE_take (i := 0) (oi := _) (v := .agg accZ) rfl (by kernel_rfl) (by kernel_rfl) (by kernel_rfl) (by kernel_rfl) (fun _ _ _ h => next_put (by omega) h) (Or.inl ⟨by rfl, ?_⟩) a3 ?_
      · intro w' hSw
        (try simp only [List.getElem_toArray, List.getElem_cons_zero])
        go_simp
      (try simp only [List.getElem_toArray, List.getElem_cons_zero, Act.put, List.setIfInBounds_toArray, List.set_cons_zero, List.set_cons_succ])
      refine wpAnyE_take (i := 1) (oi := _) (v := .agg (outC val is err point)) rfl (by kernel_rfl) (by kernel_rfl) (by kernel_rfl) (by kernel_rfl) (fun _ _ _ h => next_put (by omega) h) (Or.inl ⟨by rfl, ?_⟩) a3 ?_
      · intro w' hSw
        (try simp only [List.getElem_toArray, List.getElem_cons_succ, List.getElem_cons_zero])
        simp only [execOp, Instr.loadAt, Instr.sureAddr, Sem.run_bind, Sem.run_pure]
        rw [show (Act.eval _ (Operand.tmp 11)) = Value.pointer (some ⟨b3, 0, none⟩) from rfl]
        simp only [Sem.run_pure, Result.andThen_ok, run_loadVar_row w' b3 50 50 (outC val is err point) (0, 0) _ hSw Try.underlying50 rfl (by kernel_rfl)]
      (try simp only [List.getElem_toArray, List.getElem_cons_succ, List.getElem_cons_zero, Act.put, List.setIfInBounds_toArray, List.set_cons_zero, List.set_cons_succ])
      refine wpAnyE_one (i := 2) (o := _) (by kernel_rfl) rfl (fun K hK => ?_)
      rw [if_pos (by rfl)]
      refine wp_store_row 63 (.tmp 10) (.tmp 54) rfl b2 accZ rfl rfl 63 accZ a2 (by kernel_rfl) rfl (by simp [Value.oneCell']) ?_
      have c2 : Bk (w17.setRow b2 accZ) b2 63 accZ := setRow_heap _ _ accZ accZ 63 (0, 0) a2
      replace a3 : Bk (w17.setRow b2 accZ) b3 50 (outC val is err point) := (setRow_other _ _ _ _ (by omega)).trans a3
      replace a4 : Bk (w17.setRow b2 accZ) b4 4 #[.bool false] := (setRow_other _ _ _ _ (by omega)).trans a4
      replace hbl := below_setRow hbl n2 accZ
      refine hK.out _ _ (fun _ => a3) ?_
      clear hK K a2
      (try simp only [List.getElem_toArray, List.getElem_cons_succ, List.getElem_cons_zero, Act.put])
      generalize w17.setRow b2 accZ = w18 at *
      refine wpAnyE_one (i := 3) (o := _) (by kernel_rfl) rfl (fun K hK => ?_)
      rw [if_pos (by rfl)]
      refine wp_store_row 50 (.tmp 11) (.tmp 55) rfl b3 (outC val is err point) rfl rfl 50 (outC val is err point) a3 (by kernel_rfl) rfl (by simp [Value.oneCell']) ?_
      have c3 : Bk (w18.setRow b3 (outC val is err point)) b3 50 (outC val is err point) := setRow_heap _ _ (outC val is err point) (outC val is err point) 50 (0, 0) a3
      replace c2 : Bk (w18.setRow b3 (outC val is err point)) b2 63 accZ := (setRow_other _ _ _ _ (by omega)).trans c2
      replace a4 : Bk (w18.setRow b3 (outC val is err point)) b4 4 #[.bool false] := (setRow_other _ _ _ _ (by omega)).trans a4
      replace hbl := below_setRow hbl n3 (outC val is err point)
      refine hK.out _ _ (fun _ => c3) ?_
      clear hK K a3
      (try simp only [List.getElem_toArray, List.getElem_cons_succ, List.getElem_cons_zero, Act.put])
      generalize w18.setRow b3 (outC val is err point) = w19 at *
      have q6 := a4.cell 0
      have f6 := a4.free 0
      have l6 := a4.lt
      simp at q6
      refine wpAnyE_one (i := 4) (o := _) (by kernel_rfl) rfl (fun K hK => ?_)
      (try simp only [List.getElem_toArray, List.getElem_cons_succ, List.getElem_cons_zero])
      go_simp
      clear q6 f6 l6
      replace a4 : Bk (w19.setCell ⟨b4, 0, none⟩ (.bool true)) b4 4 #[.bool true] := a4.stored 0 (.bool true)
      replace c2 := c2.other (p := ⟨b4, 0, none⟩) (by dsimp only; omega) (.bool true)
      replace c3 := c3.other (p := ⟨b4, 0, none⟩) (by dsimp only; omega) (.bool true)
      replace hbl := below_set hbl (p := ⟨b4, 0, none⟩) n4 (.bool true)
      refine hK.out _ _ (fun _ => c3) ?_
      clear hK K
      (try simp only [List.getElem_toArray, List.getElem_cons_succ, List.getElem_cons_zero, Act.put, List.setIfInBounds_toArray, List.set_cons_zero, List.set_cons_succ])
      generalize w19.setCell ⟨b4, 0, none⟩ (.bool true) = w20 at *
      refine wpAnyE_done (by kernel_rfl) ?_ _
      go_wp2
      refine leaves_cons (f := 28) (args := #[ptr b2, ptr b3, ptr b4]) (by simp) (by simp [go_sem]) ?_
      refine (catch_idle b2 b3 b4 _).mono ?_
      rintro e u' w21 ⟨rfl, rfl, rfl⟩
      refine ⟨_, results_ccc (p := 10) (q := 11) (t := 12) (t1 := 63) (t2 := 50) (t3 := 4) rfl _ _ b2 b3 b4 accZ (outC val is err point) (0, 0) (0, 0) _ _ _ rfl rfl rfl c2 c3 Try.underlying63 rfl (by kernel_rfl) Try.underlying50 rfl (by kernel_rfl) (load_bool _ b4 true a4), ?_⟩
      rw [HNX.out]
      exact ⟨rfl, hbl⟩
  · have HNX := Lib.hid (show nextD l op log = popM l log by unfold nextD; rw [HKD.out]; rfl)
    have y0 := k1.cell 0
    have l1 := k1.lt
    simp at y0
    rw [HKD.out] at y0
    refine wp_region_E (S := fun w' => Bk w' b1 39 (oprC op)) (E := fun i => i == 8) (by kernel_rfl) ?_
    replace k1 := k1.drew
    replace k2 := k2.drew
    replace k3 := k3.drew
    replace k4 := k4.drew
    replace hp := hp.drew
    replace hbl := hbl.drew
    clear y0 l1
    generalize w9.drew = w10 at *
    refine wpAnyE_take (i := 1) (oi := _) (v := .pointer (some ⟨b1, 0, none⟩)) rfl (by kernel_rfl) (by kernel_rfl) (by kernel_rfl) (by kernel_rfl) (fun _ _ _ h => next_put (by omega) h) (Or.inl ⟨by rfl, ?_⟩) k1 ?_
    · intro w' hSw
      (try simp only [List.getElem_toArray, List.getElem_cons_succ, List.getElem_cons_zero])
      go_simp
    (try simp only [List.getElem_toArray, List.getElem_cons_succ, List.getElem_cons_zero, Act.put, List.setIfInBounds_toArray, List.set_cons_zero, List.set_cons_succ])
    refine wpAnyE_take (i := 2) (oi := _) (v := .int .i64 9) rfl (by kernel_rfl) (by kernel_rfl) (by kernel_rfl) (by kernel_rfl) (fun _ _ _ h => next_put (by omega) h) (Or.inl ⟨by rfl, ?_⟩) k1 ?_
    · intro w' hSw
      have y0 := hSw.cell 0
      simp at y0
      rw [HKD.out] at y0
      (try simp only [List.getElem_toArray, List.getElem_cons_succ, List.getElem_cons_zero])
      go_simp
    (try simp only [List.getElem_toArray, List.getElem_cons_succ, List.getElem_cons_zero, Act.put, List.setIfInBounds_toArray, List.set_cons_zero, List.set_cons_succ])
    refine wpAnyE_take (i := 3) (oi := _) (v := .int .i64 1) rfl (by kernel_rfl) (by kernel_rfl) (by kernel_rfl) (by kernel_rfl) (fun _ _ _ h => next_put (by omega) h) (Or.inl ⟨by rfl, ?_⟩) k1 ?_
    · intro w' hSw
      (try simp only [List.getElem_toArray, List.getElem_cons_succ, List.getElem_cons_zero])
      go_simp
      (try rfl)
    (try simp only [List.getElem_toArray, List.getElem_cons_succ, List.getElem_cons_zero, Act.put, List.setIfInBounds_toArray, List.set_cons_zero, List.set_cons_succ])
    refine wpAnyE_take (i := 5) (oi := _) (v := .pointer (some ⟨gp, 0, none⟩)) rfl (by kernel_rfl) (by kernel_rfl) (by kernel_rfl) (by kernel_rfl) (fun _ _ _ h => next_put (by omega) h) (Or.inl ⟨by rfl, ?_⟩) k1 ?_
    · intro w' hSw
      (try simp only [List.getElem_toArray, List.getElem_cons_succ, List.getElem_cons_zero])
      go_simp
    (try simp only [List.getElem_toArray, List.getElem_cons_succ, List.getElem_cons_zero, Act.put, List.setIfInBounds_toArray, List.set_cons_zero, List.set_cons_succ])
    refine wpAnyE_take (i := 6) (oi := _) (v := .agg (oprC op)) rfl (by kernel_rfl) (by kernel_rfl) (by kernel_rfl) (by kernel_rfl) (fun _ _ _ h => next_put (by omega) h) (Or.inl ⟨by rfl, ?_⟩) k1 ?_
    · intro w' hSw
      have s1 := hSw.cell 0
      have s2 := hSw.cell 1
      have s3 := hSw.cell 2
      have s4 := hSw.cell 3
      (try simp at s1 s2 s3 s4)
      (try simp only [List.getElem_toArray, List.getElem_cons_succ, List.getElem_cons_zero])
      go_simp
    (try simp only [List.getElem_toArray, List.getElem_cons_succ, List.getElem_cons_zero, Act.put, List.setIfInBounds_toArray, List.set_cons_zero, List.set_cons_succ])
    refine wpAnyE_one (i := 0) (o := _) (by kernel_rfl) rfl (fun K hK => ?_)
    (try simp only [List.getElem_toArray, List.getElem_cons_zero])
    go_simp
    (with_reducible refine (programs_any _).mono ?_)
    rintro e w11 ⟨rfl, hb⟩
    replace k1 := k1.keep hb
    replace k2 := k2.keep hb
    replace k3 := k3.keep hb
    replace k4 := k4.keep hb
    replace hp := hp.keep hb
    replace hbl := below_tr hbl hb
    clear hb
    refine hK.out _ _ (fun _ => k1) ?_
    clear hK K
    (try simp only [List.getElem_toArray, List.getElem_cons_succ, List.getElem_cons_zero, Act.put, List.setIfInBounds_toArray, List.set_cons_zero, List.set_cons_succ])
    refine wpAnyE_take (i := 4) (oi := _) (v := .func (.func 42) #[] #[]) rfl (by kernel_rfl) (by kernel_rfl) (by kernel_rfl) (by kernel_rfl) (fun _ _ _ h => next_put (by omega) h) (Or.inl ⟨by rfl, ?_⟩) k1 ?_
    · intro w' hSw
      (try simp only [List.getElem_toArray, List.getElem_cons_succ, List.getElem_cons_zero])
      go_simp
      (try kernel_rfl)
    (try simp only [List.getElem_toArray, List.getElem_cons_succ, List.getElem_cons_zero, Act.put, List.setIfInBounds_toArray, List.set_cons_zero, List.set_cons_succ])
    refine wpAnyE_one (i := 7) (o := _) (by kernel_rfl) rfl (fun K hK => ?_)
    (try simp only [List.getElem_toArray, List.getElem_cons_succ, List.getElem_cons_zero])
    go_simp
    (with_reducible refine (pop_any op hp HF.out HIN.out).mono ?_)
    intro e w13 hpost
    obtain ⟨ans, hans⟩ : ∃ a, popM l log = a := ⟨_, rfl⟩
    rw [hans] at hpost HNX
    have hk1b := k1
    clear hans hp k1
    cases ans with
    | ask k c o v =>
      obtain ⟨rfl, hst⟩ := hpost
      replace k2 := hst.keep k2 (by omega)
      replace k3 := hst.keep k3 (by omega)
      replace k4 := hst.keep k4 (by omega)
      replace hbl := hst.below zp' hbl
      refine leaves_cons (f := 28) (args := #[ptr b2, ptr b3, ptr b4]) (by simp) (by simp [go_sem]) ?_
      refine (catch_asked k c o v b2 b3 b4 _ k2 k3 k4 (by omega)).mono ?_
      rintro e u' w14 ⟨rfl, rfl, c2, c3, c4, hbz⟩
      refine ⟨_, results_ccc (p := 10) (q := 11) (t := 12) (t1 := 63) (t2 := 50) (t3 := 4) rfl _ _ b2 b3 b4 (accC k c o v) outZ (0, 0) (0, 0) _ _ _ rfl rfl rfl c2 c3 Try.underlying63 rfl (by kernel_rfl) Try.underlying50 rfl (by kernel_rfl) (load_bool _ b4 false c4), ?_⟩
      rw [HNX.out]
      exact ⟨rfl, hbz w n2 n3 n4 hbl⟩
    | out val is err point =>
      obtain ⟨rfl, hst⟩ := hpost
      replace k2 := hst.keep k2 (by omega)
      replace k3 := hst.keep k3 (by omega)
      replace k4 := hst.keep k4 (by omega)
      replace hbl := hst.below zp' hbl
      have hk1c := hst.keep hk1b (by omega)
      clear hst
      refine hK.out _ _ (fun _ => hk1c) ?_
      clear hK K hk1b
      (try simp only [List.getElem_toArray, List.getElem_cons_succ, List.getElem_cons_zero, Act.put, List.setIfInBounds_toArray, List.set_cons_zero, List.set_cons_succ])
      refine wpAnyE_one (i := 8) (o := _) (by kernel_rfl) rfl (fun K2 hK2 => ?_)
      rw [if_pos (by rfl)]
      have a3 : Bk (w13.setRow b3 (outC val is err point)) b3 50 (outC val is err point) := setRow_heap _ _ outZ (outC val is err point) 50 (0, 0) k3
      have a2 : Bk (w13.setRow b3 (outC val is err point)) b2 63 accZ := (setRow_other _ _ _ _ (by omega)).trans k2
      have a4 : Bk (w13.setRow b3 (outC val is err point)) b4 4 #[.bool false] := (setRow_other _ _ _ _ (by omega)).trans k4
      replace hbl := below_setRow hbl n3 (outC val is err point)
      refine wp_store_row 50 (.tmp 11) (.tmp 50) rfl b3 (outC val is err point) rfl rfl 50 outZ k3 (by kernel_rfl) rfl (by simp [Value.oneCell']) ?_
      refine hK2.out _ _ (fun h => absurd h (by decide)) ?_
      clear hK2 K2
      refine wpAnyE_done (by kernel_rfl) ?_ _
      clear k2 k3 k4 hk1c
      generalize w13.setRow b3 (outC val is err point) = w14 at *
      go_wp2_with fail
      (with_reducible refine (clone_nil _).mono ?_)
      rintro e w15 ⟨rfl, hb⟩
      replace a2 := a2.keep hb
      replace a3 := a3.keep hb
      replace a4 := a4.keep hb
      replace hbl := below_tr hbl hb
      clear hb
      have q4 := a3.cell 4
      have f4 := a3.free 4
      have l4 := a3.lt
      simp at q4
      go_upto_region 7 with fail
      clear q4 f4 l4
      replace a3 : Bk (w15.setCell ⟨b3, 4, none⟩ (.slice none 0 0)) b3 50 (outC val is err point) := a3.stored 4 (.slice none 0 0)
      replace a2 := a2.other (p := ⟨b3, 4, none⟩) (by dsimp only; omega) (.slice none 0 0)
      replace a4 := a4.other (p := ⟨b3, 4, none⟩) (by dsimp only; omega) (.slice none 0 0)
      replace hbl := below_set hbl (p := ⟨b3, 4, none⟩) n3 (.slice none 0 0)
      generalize w15.setCell ⟨b3, 4, none⟩ (.slice none 0 0) = w16 at *
      refine wp_region_E (S := fun w' => Bk w' b3 50 (outC val is err point)) (E := fun _ => false) (by kernel_rfl) ?_
      replace a2 := a2.drew
      replace a3 := a3.drew
      replace a4 := a4.drew
      replace hbl := hbl.drew
      generalize w16.drew = w17 at *
      refine wpAnyE_take (i := 0) (oi := _) (v := .agg accZ) rfl (by kernel_rfl) (by kernel_rfl) (by kernel_rfl) (by kernel_rfl) (fun _ _ _ h => next_put (by omega) h) (Or.inl ⟨by rfl, ?_⟩) a3 ?_
      · intro w' hSw
        (try simp only [List.getElem_toArray, List.getElem_cons_zero])
        go_simp
      (try simp only [List.getElem_toArray, List.getElem_cons_zero, Act.put, List.setIfInBounds_toArray, List.set_cons_zero, List.set_cons_succ])
      refine wpAnyE_take (i := 1) (oi := _) (v := .agg (outC val is err point)) rfl (by kernel_rfl) (by kernel_rfl) (by kernel_rfl) (by kernel_rfl) (fun _ _ _ h => next_put (by omega) h) (Or.inl ⟨by rfl, ?_⟩) a3 ?_
      · intro w' hSw
        (try simp only [List.getElem_toArray, List.getElem_cons_succ, List.getElem_cons_zero])
        simp only [execOp, Instr.loadAt, Instr.sureAddr, Sem.run_bind, Sem.run_pure]
        rw [show (Act.eval _ (Operand.tmp 11)) = Value.pointer (some ⟨b3, 0, none⟩) from rfl]
        simp only [Sem.run_pure, Result.andThen_ok, run_loadVar_row w' b3 50 50 (outC val is err point) (0, 0) _ hSw Try.underlying50 rfl (by kernel_rfl)]
      (try simp only [List.getElem_toArray, List.getElem_cons_succ, List.getElem_cons_zero, Act.put, List.setIfInBounds_toArray, List.set_cons_zero, List.set_cons_succ])
      refine wpAnyE_one (i := 2) (o := _) (by kernel_rfl) rfl (fun K hK => ?_)
      rw [if_pos (by rfl)]
      refine wp_store_row 63 (.tmp 10) (.tmp 54) rfl b2 accZ rfl rfl 63 accZ a2 (by kernel_rfl) rfl (by simp [Value.oneCell']) ?_
      have c2 : Bk (w17.setRow b2 accZ) b2 63 accZ := setRow_heap _ _ accZ accZ 63 (0, 0) a2
      replace a3 : Bk (w17.setRow b2 accZ) b3 50 (outC val is err point) := (setRow_other _ _ _ _ (by omega)).trans a3
      replace a4 : Bk (w17.setRow b2 accZ) b4 4 #[.bool false] := (setRow_other _ _ _ _ (by omega)).trans a4
      replace hbl := below_setRow hbl n2 accZ
      refine hK.out _ _ (fun _ => a3) ?_
      clear hK K a2
      (try simp only [List.getElem_toArray, List.getElem_cons_succ, List.getElem_cons_zero, Act.put])
      generalize w17.setRow b2 accZ = w18 at *
      refine wpAnyE_one (i := 3) (o := _) (by kernel_rfl) rfl (fun K hK => ?_)
      rw [if_pos (by rfl)]
      refine wp_store_row 50 (.tmp 11) (.tmp 55) rfl b3 (outC val is err point) rfl rfl 50 (outC val is err point) a3 (by kernel_rfl) rfl (by simp [Value.oneCell']) ?_
      have c3 : Bk (w18.setRow b3 (outC val is err point)) b3 50 (outC val is err point) := setRow_heap _ _ (outC val is err point) (outC val is err point) 50 (0, 0) a3
      replace c2 : Bk (w18.setRow b3 (outC val is err point)) b2 63 accZ := (setRow_other _ _ _ _ (by omega)).trans c2
      replace a4 : Bk (w18.setRow b3 (outC val is err point)) b4 4 #[.bool false] := (setRow_other _ _ _ _ (by omega)).trans a4
      replace hbl := below_setRow hbl n3 (outC val is err point)
      refine hK.out _ _ (fun _ => c3) ?_
      clear hK K a3
      (try simp only [List.getElem_toArray, List.getElem_cons_succ, List.getElem_cons_zero, Act.put])
      generalize w18.setRow b3 (outC val is err point) = w19 at *
      have q6 := a4.cell 0
      have f6 := a4.free 0
      have l6 := a4.lt
      simp at q6
      refine wpAnyE_one (i := 4) (o := _) (by kernel_rfl) rfl (fun K hK => ?_)
      (try simp only [List.getElem_toArray, List.getElem_cons_succ, List.getElem_cons_zero])
      go_simp
      clear q6 f6 l6
      replace a4 : Bk (w19.setCell ⟨b4, 0, none⟩ (.bool true)) b4 4 #[.bool true] := a4.stored 0 (.bool true)
      replace c2 := c2.other (p := ⟨b4, 0, none⟩) (by dsimp only; omega) (.bool true)
      replace c3 := c3.other (p := ⟨b4, 0, none⟩) (by dsimp only; omega) (.bool true)
      replace hbl := below_set hbl (p := ⟨b4, 0, none⟩) n4 (.bool true)
      refine hK.out _ _ (fun _ => c3) ?_
      clear hK K
      (try simp only [List.getElem_toArray, List.getElem_cons_succ, List.getElem_cons_zero, Act.put, List.setIfInBounds_toArray, List.set_cons_zero, List.set_cons_succ])
      generalize w19.setCell ⟨b4, 0, none⟩ (.bool true) = w20 at *
      refine wpAnyE_done (by kernel_rfl) ?_ _
      go_wp2
      refine leaves_cons (f := 28) (args := #[ptr b2, ptr b3, ptr b4]) (by simp) (by simp [go_sem]) ?_
      refine (catch_idle b2 b3 b4 _).mono ?_
      rintro e u' w21 ⟨rfl, rfl, rfl⟩
      refine ⟨_, results_ccc (p := 10) (q := 11) (t := 12) (t1 := 63) (t2 := 50) (t3 := 4) rfl _ _ b2 b3 b4 accZ (outC val is err point) (0, 0) (0, 0) _ _ _ rfl rfl rfl c2 c3 Try.underlying63 rfl (by kernel_rfl) Try.underlying50 rfl (by kernel_rfl) (load_bool _ b4 true a4), ?_⟩
      rw [HNX.out]
      exact ⟨rfl, hbl⟩
  · have HNX := Lib.hid (show nextD l op log = stealM l log by unfold nextD; rw [HKD.out]; rfl)
    have y0 := k1.cell 0
    have l1 := k1.lt
    simp at y0
    rw [HKD.out] at y0
    refine wp_region_E (S := fun w' => Bk w' b1 39 (oprC op)) (E := fun i => i == 8) (by kernel_rfl) ?_
    replace k1 := k1.drew
    replace k2 := k2.drew
    replace k3 := k3.drew
    replace k4 := k4.drew
    replace hp := hp.drew
    replace hbl := hbl.drew
    clear y0 l1
    generalize w9.drew = w10 at *
    refine wpAnyE_take (i := 1) (oi := _) (v := .pointer (some ⟨b1, 0, none⟩)) rfl (by kernel_rfl) (by kernel_rfl) (by kernel_rfl) (by kernel_rfl) (fun _ _ _ h => next_put (by omega) h) (Or.inl ⟨by rfl, ?_⟩) k1 ?_
    · intro w' hSw
      (try simp only [List.getElem_toArray, List.getElem_cons_succ, List.getElem_cons_zero])
      go_simp
    (try simp only [List.getElem_toArray, List.getElem_cons_succ, List.getElem_cons_zero, Act.put, List.setIfInBounds_toArray, List.set_cons_zero, List.set_cons_succ])
    refine wpAnyE_take (i := 2) (oi := _) (v := .int .i64 10) rfl (by kernel_rfl) (by kernel_rfl) (by kernel_rfl) (by kernel_rfl) (fun _ _ _ h => next_put (by omega) h) (Or.inl ⟨by rfl, ?_⟩) k1 ?_
    · intro w' hSw
      have y0 := hSw.cell 0
      simp at y0
      rw [HKD.out] at y0
      (try simp only [List.getElem_toArray, List.getElem_cons_succ, List.getElem_cons_zero])
      go_simp
    (try simp only [List.getElem_toArray, List.getElem_cons_succ, List.getElem_cons_zero, Act.put, List.setIfInBounds_toArray, List.set_cons_zero, List.set_cons_succ])
    refine wpAnyE_take (i := 3) (oi := _) (v := .int .i64 2) rfl (by kernel_rfl) (by kernel_rfl) (by kernel_rfl) (by kernel_rfl) (fun _ _ _ h => next_put (by omega) h) (Or.inl ⟨by rfl, ?_⟩) k1 ?_
    · intro w' hSw
      (try simp only [List.getElem_toArray, List.getElem_cons_succ, List.getElem_cons_zero])
      go_simp
      (try rfl)
    (try simp only [List.getElem_toArray, List.getElem_cons_succ, List.getElem_cons_zero, Act.put, List.setIfInBounds_toArray, List.set_cons_zero, List.set_cons_succ])
    refine wpAnyE_take (i := 5) (oi := _) (v := .pointer (some ⟨gp, 0, none⟩)) rfl (by kernel_rfl) (by kernel_rfl) (by kernel_rfl) (by kernel_rfl) (fun _ _ _ h => next_put (by omega) h) (Or.inl ⟨by rfl, ?_⟩) k1 ?_
    · intro w' hSw
      (try simp only [List.getElem_toArray, List.getElem_cons_succ, List.getElem_cons_zero])
      go_simp
    (try simp only [List.getElem_toArray, List.getElem_cons_succ, List.getElem_cons_zero, Act.put, List.setIfInBounds_toArray, List.set_cons_zero, List.set_cons_succ])
    refine wpAnyE_take (i := 6) (oi := _) (v := .agg (oprC op)) rfl (by kernel_rfl) (by kernel_rfl) (by kernel_rfl) (by kernel_rfl) (fun _ _ _ h => next_put (by omega) h) (Or.inl ⟨by rfl, ?_⟩) k1 ?_
    · intro w' hSw
      have s1 := hSw.cell 0
      have s2 := hSw.cell 1
      have s3 := hSw.cell 2
      have s4 := hSw.cell 3
      (try simp at s1 s2 s3 s4)
      (try simp only [List.getElem_toArray, List.getElem_cons_succ, List.getElem_cons_zero])
      go_simp
    (try simp only [List.getElem_toArray, List.getElem_cons_succ, List.getElem_cons_zero, Act.put, List.setIfInBounds_toArray, List.set_cons_zero, List.set_cons_succ])
    refine wpAnyE_one (i := 0) (o := _) (by kernel_rfl) rfl (fun K hK => ?_)
    (try simp only [List.getElem_toArray, List.getElem_cons_zero])
    go_simp
    (with_reducible refine (programs_any _).mono ?_)
    rintro e w11 ⟨rfl, hb⟩
    replace k1 := k1.keep hb
    replace k2 := k2.keep hb
    replace k3 := k3.keep hb
    replace k4 := k4.keep hb
    replace hp := hp.keep hb
    replace hbl := below_tr hbl hb
    clear hb
    refine hK.out _ _ (fun _ => k1) ?_
    clear hK K
    (try simp only [List.getElem_toArray, List.getElem_cons_succ, List.getElem_cons_zero, Act.put, List.setIfInBounds_toArray, List.set_cons_zero, List.set_cons_succ])
    refine wpAnyE_take (i := 4) (oi := _) (v := .func (.func 43) #[] #[]) rfl (by kernel_rfl) (by kernel_rfl) (by kernel_rfl) (by kernel_rfl) (fun _ _ _ h => next_put (by omega) h) (Or.inl ⟨by rfl, ?_⟩) k1 ?_
    · intro w' hSw
      (try simp only [List.getElem_toArray, List.getElem_cons_succ, List.getElem_cons_zero])
      go_simp
      (try kernel_rfl)
    (try simp only [List.getElem_toArray, List.getElem_cons_succ, List.getElem_cons_zero, Act.put, List.setIfInBounds_toArray, List.set_cons_zero, List.set_cons_succ])
    refine wpAnyE_one (i := 7) (o := _) (by kernel_rfl) rfl (fun K hK => ?_)
    (try simp only [List.getElem_toArray, List.getElem_cons_succ, List.getElem_cons_zero])
    go_simp
    (with_reducible refine (steal_any op hp HF.out HIN.out).mono ?_)
    intro e w13 hpost
    obtain ⟨ans, hans⟩ : ∃ a, stealM l log = a := ⟨_, rfl⟩
    rw [hans] at hpost HNX
    have hk1b := k1
    clear hans hp k1
    cases ans with
    | ask k c o v =>
      obtain ⟨rfl, hst⟩ := hpost
      replace k2 := hst.keep k2 (by omega)
      replace k3 := hst.keep k3 (by omega)
      replace k4 := hst.keep k4 (by omega)
      replace hbl := hst.below zp' hbl
      refine leaves_cons (f := 28) (args := #[ptr b2, ptr b3, ptr b4]) (by simp) (by simp [go_sem]) ?_
      refine (catch_asked k c o v b2 b3 b4 _ k2 k3 k4 (by omega)).mono ?_
      rintro e u' w14 ⟨rfl, rfl, c2, c3, c4, hbz⟩
      refine ⟨_, results_ccc (p := 10) (q := 11) (t := 12) (t1 := 63) (t2 := 50) (t3 := 4) rfl _ _ b2 b3 b4 (accC k c o v) outZ (0, 0) (0, 0) _ _ _ rfl rfl rfl c2 c3 Try.underlying63 rfl (by kernel_rfl) Try.underlying50 rfl (by kernel_rfl) (load_bool _ b4 false c4), ?_⟩
      rw [HNX.out]
      exact ⟨rfl, hbz w n2 n3 n4 hbl⟩
    | out val is err point =>
      obtain ⟨rfl, hst⟩ := hpost
      replace k2 := hst.keep k2 (by omega)
      replace k3 := hst.keep k3 (by omega)
      replace k4 := hst.keep k4 (by omega)
      replace hbl := hst.below zp' hbl
      have hk1c := hst.keep hk1b (by omega)
      clear hst
      refine hK.out _ _ (fun _ => hk1c) ?_
      clear hK K hk1b
      (try simp only [List.getElem_toArray, List.getElem_cons_succ, List.getElem_cons_zero, Act.put, List.setIfInBounds_toArray, List.set_cons_zero, List.set_cons_succ])
      refine wpAnyE_one (i := 8) (o := _) (by kernel_rfl) rfl (fun K2 hK2 => ?_)
      rw [if_pos (by rfl)]
      have a3 : Bk (w13.setRow b3 (outC val is err point)) b3 50 (outC val is err point) := setRow_heap _ _ outZ (outC val is err point) 50 (0, 0) k3
      have a2 : Bk (w13.setRow b3 (outC val is err point)) b2 63 accZ := (setRow_other _ _ _ _ (by omega)).trans k2
      have a4 : Bk (w13.setRow b3 (outC val is err point)) b4 4 #[.bool false] := (setRow_other _ _ _ _ (by omega)).trans k4
      replace hbl := below_setRow hbl n3 (outC val is err point)
      refine wp_store_row 50 (.tmp 11) (.tmp 50) rfl b3 (outC val is err point) rfl rfl 50 outZ k3 (by kernel_rfl) rfl (by simp [Value.oneCell']) ?_
      refine hK2.out _ _ (fun h => absurd h (by decide)) ?_
      clear hK2 K2
      refine wpAnyE_done (by kernel_rfl) ?_ _
      clear k2 k3 k4 hk1c
      generalize w13.setRow b3 (outC val is err point) = w14 at *
      go_wp2_with fail
      (with_reducible refine (clone_nil _).mono ?_)
      rintro e w15 ⟨rfl, hb⟩
      replace a2 := a2.keep hb
      replace a3 := a3.keep hb
      replace a4 := a4.keep hb
      replace hbl := below_tr hbl hb
      clear hb
      have q4 := a3.cell 4
      have f4 := a3.free 4
      have l4 := a3.lt
      simp at q4
      go_upto_region 7 with fail
      clear q4 f4 l4
      replace a3 : Bk (w15.setCell ⟨b3, 4, none⟩ (.slice none 0 0)) b3 50 (outC val is err point) := a3.stored 4 (.slice none 0 0)
      replace a2 := a2.other (p := ⟨b3, 4, none⟩) (by dsimp only; omega) (.slice none 0 0)
      replace a4 := a4.other (p := ⟨b3, 4, none⟩) (by dsimp only; omega) (.slice none 0 0)
      replace hbl := below_set hbl (p := ⟨b3, 4, none⟩) n3 (.slice none 0 0)
      generalize w15.setCell ⟨b3, 4, none⟩ (.slice none 0 0) = w16 at *
      refine wp_region_E (S := fun w' => Bk w' b3 50 (outC val is err point)) (E := fun _ => false) (by kernel_rfl) ?_
      replace a2 := a2.drew
      replace a3 := a3.drew
      replace a4 := a4.drew
      replace hbl := hbl.drew
      generalize w16.drew = w17 at *
      refine wpAnyE_take (i := 0) (oi := _) (v := .agg accZ) rfl (by kernel_rfl) (by kernel_rfl) (by kernel_rfl) (by kernel_rfl) (fun _ _ _ h => next_put (by omega) h) (Or.inl ⟨by rfl, ?_⟩) a3 ?_
      · intro w' hSw
        (try simp only [List.getElem_toArray, List.getElem_cons_zero])
        go_simp
      (try simp only [List.getElem_toArray, List.getElem_cons_zero, Act.put, List.setIfInBounds_toArray, List.set_cons_zero, List.set_cons_succ])
      refine wpAnyE_take (i := 1) (oi := _) (v := .agg (outC val is err point)) rfl (by kernel_rfl) (by kernel_rfl) (by kernel_rfl) (by kernel_rfl) (fun _ _ _ h => next_put (by omega) h) (Or.inl ⟨by rfl, ?_⟩) a3 ?_
      · intro w' hSw
        (try simp only [List.getElem_toArray, List.getElem_cons_succ, List.getElem_cons_zero])
        simp only [execOp, Instr.loadAt, Instr.sureAddr, Sem.run_bind, Sem.run_pure]
        rw [show (Act.eval _ (Operand.tmp 11)) = Value.pointer (some ⟨b3, 0, none⟩) from rfl]
        simp only [Sem.run_pure, Result.andThen_ok, run_loadVar_row w' b3 50 50 (outC val is err point) (0, 0) _ hSw Try.underlying50 rfl (by kernel_rfl)]
      (try simp only [List.getElem_toArray, List.getElem_cons_succ, List.getElem_cons_zero, Act.put, List.setIfInBounds_toArray, List.set_cons_zero, List.set_cons_succ])
      refine wpAnyE_one (i := 2) (o := _) (by kernel_rfl) rfl (fun K hK => ?_)
      rw [if_pos (by rfl)]
      refine wp_store_row 63 (.tmp 10) (.tmp 54) rfl b2 accZ rfl rfl 63 accZ a2 (by kernel_rfl) rfl (by simp [Value.oneCell']) ?_
      have c2 : Bk (w17.setRow b2 accZ) b2 63 accZ := setRow_heap _ _ accZ accZ 63 (0, 0) a2
      replace a3 : Bk (w17.setRow b2 accZ) b3 50 (outC val is err point) := (setRow_other _ _ _ _ (by omega)).trans a3
      replace a4 : Bk (w17.setRow b2 accZ) b4 4 #[.bool false] := (setRow_other _ _ _ _ (by omega)).trans a4
      replace hbl := below_setRow hbl n2 accZ
      refine hK.out _ _ (fun _ => a3) ?_
      clear hK K a2
      (try simp only [List.getElem_toArray, List.getElem_cons_succ, List.getElem_cons_zero, Act.put])
      generalize w17.setRow b2 accZ = w18 at *
      refine wpAnyE_one (i := 3) (o := _) (by kernel_rfl) rfl (fun K hK => ?_)
      rw [if_pos (by rfl)]
      refine wp_store_row 50 (.tmp 11) (.tmp 55) rfl b3 (outC val is err point) rfl rfl 50 (outC val is err point) a3 (by kernel_rfl) rfl (by simp [Value.oneCell']) ?_
      have c3 : Bk (w18.setRow b3 (outC val is err point)) b3 50 (outC val is err point) := setRow_heap _ _ (outC val is err point) (outC val is err point) 50 (0, 0) a3
      replace c2 : Bk (w18.setRow b3 (outC val is err point)) b2 63 accZ := (setRow_other _ _ _ _ (by omega)).trans c2
      replace a4 : Bk (w18.setRow b3 (outC val is err point)) b4 4 #[.bool false] := (setRow_other _ _ _ _ (by omega)).trans a4
      replace hbl := below_setRow hbl n3 (outC val is err point)
      refine hK.out _ _ (fun _ => c3) ?_
      clear hK K a3
      (try simp only [List.getElem_toArray, List.getElem_cons_succ, List.getElem_cons_zero, Act.put])
      generalize w18.setRow b3 (outC val is err point) = w19 at *
      have q6 := a4.cell 0
      have f6 := a4.free 0
      have l6 := a4.lt
      simp at q6
      refine wpAnyE_one (i := 4) (o := _) (by kernel_rfl) rfl (fun K hK => ?_)
      (try simp only [List.getElem_toArray, List.getElem_cons_succ, List.getElem_cons_zero])
      go_simp
      clear q6 f6 l6
      replace a4 : Bk (w19.setCell ⟨b4, 0, none⟩ (.bool true)) b4 4 #[.bool true] := a4.stored 0 (.bool true)
      replace c2 := c2.other (p := ⟨b4, 0, none⟩) (by dsimp only; omega) (.bool true)
      replace c3 := c3.other (p := ⟨b4, 0, none⟩) (by dsimp only; omega) (.bool true)
      replace hbl := below_set hbl (p := ⟨b4, 0, none⟩) n4 (.bool true)
      refine hK.out _ _ (fun _ => c3) ?_
      clear hK K
      (try simp only [List.getElem_toArray, List.getElem_cons_succ, List.getElem_cons_zero, Act.put, List.setIfInBounds_toArray, List.set_cons_zero, List.set_cons_succ])
      generalize w19.setCell ⟨b4, 0, none⟩ (.bool true) = w20 at *
      refine wpAnyE_done (by kernel_rfl) ?_ _
      go_wp2
      refine leaves_cons (f := 28) (args := #[ptr b2, ptr b3, ptr b4]) (by simp) (by simp [go_sem]) ?_
      refine (catch_idle b2 b3 b4 _).mono ?_
      rintro e u' w21 ⟨rfl, rfl, rfl⟩
      refine ⟨_, results_ccc (p := 10) (q := 11) (t := 12) (t1 := 63) (t2 := 50) (t3 := 4) rfl _ _ b2 b3 b4 accZ (outC val is err point) (0, 0) (0, 0) _ _ _ rfl rfl rfl c2 c3 Try.underlying63 rfl (by kernel_rfl) Try.underlying50 rfl (by kernel_rfl) (load_bool _ b4 true a4), ?_⟩
      rw [HNX.out]
      exact ⟨rfl, hbl⟩
end Go.Proofs.Ytdjglkpcdhkodaa
