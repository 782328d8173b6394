/- The places of all kinds, as the program and as the document tell them. Printed by row14_gen.py. -/
import Derived.Test.YthaieabhlodajaaRefP
import Derived.Great.BuildSlice
import Derived.BigQuiet
namespace Go.Proofs.Ythaieabhlodajaa
open Go.RowKit
attribute [local go_sem ↓] Go.wp_at_zero Go.wp_at_succ

/-- A new row of numbers. -/
def NewInts (zs : List Int) (w : World) (e : Ending) (w' : World) : Prop := ∃ g, e = .returned (.slice (some ⟨g, 0, none⟩) zs.length zs.length) ∧ Bk w' g 3 (zs.map (Value.int .i64)).toArray ∧ Below w.heap.size w w'
theorem run_row (w : World) (len : Nat) (zs : List Int) (hl : zs.length = len) (h0 : 0 < len) (h1 : len ≤ 1000) :
    (Instr.buildSlice 33 len ((((zs.map (Value.int .i64)).zipIdx 0).map fun x => (x.2, x.1)).toArray)).run Try.prog w = .ok (.slice (some ⟨w.heap.size, 0, none⟩) len len) (w.alloc (.cells (zs.map (Value.int .i64)).toArray 3)) := by
  have hz : (Try.prog.info? 3).map (·.size) = some 1 := by kernel_rfl
  have hzz : ((Try.prog.info? 3).bind (·.zero)).isSome = true := by kernel_rfl
  cases hie : Try.prog.info? 3 with
  | none => simp [hie] at hz
  | some ie =>
    simp only [hie, Option.map_some, Option.some.injEq, Option.bind_some] at hz hzz
    obtain ⟨z, hq⟩ := Option.isSome_iff_exists.1 hzz
    refine run_buildSlice w _ 3 len _ _ ie z Try.underlying33 hie hq (by rw [hz]; omega) (by rw [hz]; omega) ?_
    rw [hz]
    exact Great.fill_flat _ _ (fun v hv => by obtain ⟨n, _, rfl⟩ := List.mem_map.1 hv; rfl) (by simp [hl])
theorem wp_row {o : Oper} {a : Act} {w : World} {K : Act → World → Prop} {Q : Exit → Act → World → Prop} (len : Nat) (parts : Array (Nat × Operand)) (ho : o.op = .buildSlice 33 len parts) (zs : List Int) (hl : zs.length = len) (h0 : 0 < len) (h1 : len ≤ 1000)
    (hp : (parts.map fun (i, x) => (i, a.eval x)) = (((zs.map (Value.int .i64)).zipIdx 0).map fun x => (x.2, x.1)).toArray)
    (h : K (a.put o.dst (.slice (some ⟨w.heap.size, 0, none⟩) len len)) (w.alloc (.cells (zs.map (Value.int .i64)).toArray 3))) : o.wp Try.prog a w K Q := by
  unfold Oper.wp execOp
  simp only [ho, Sem.run_bind, hp, run_row w len zs hl h0 h1, Result.andThen_ok]
  exact h
def rowAt (l : Ly) (a b : Int) : List Int := [aliveAt l a, ownerAt l a, resvAt l a b, dequeAt l a b, ringAt l a b, taskAt l a b, cellAt l a, mapAt l a b, bucketAt l a b, topAt l a, slotAt l a b, headAt l a, tailAt l a, nodeAt l a b]

set_option maxRecDepth 100000 in
set_option maxHeartbeats 8000000 in
theorem places_any (l : Ly) (a b : Int) (w : World) (f : LyFull l) (f2 : LyFit l) (ha : a ≤ 9223372036854775807) :
    Calls Try.prog 18 #[lyV l, .int .i64 a, .int .i64 b] w (NewInts (rowAt l a b) w) := by
  go_enter Try.func18, Try.ntmps18
  go_wp2_with fail
  have k0 := Bk.made w 26 (lyC l)
  have hbl := below_al (Below.refl w.heap.size w) (.cells (lyC l) 26)
  refine wp_region_held_drew (S := fun w' => Bk w' w.heap.size 26 (lyC l)) (by kernel_rfl) k0.drew (fun hHeld => ?_)
  clear hHeld
  replace k0 := k0.drew
  replace hbl := hbl.drew
  generalize (w.alloc (.cells (lyC l) 26)).drew = wa at *
  generalize hg : w.heap.size = g at k0 ⊢
  refine wpAnyH_take (i := 0) (oi := _) (v := .agg (lyC l)) rfl (by kernel_rfl) (by kernel_rfl) (by kernel_rfl) (fun _ _ _ h => h) (Or.inl ⟨by rfl, ?_⟩) k0 ?_
  · intro w' hSw
    (try simp only [List.getElem_toArray, List.getElem_cons_zero])
    simp only [execOp, Instr.loadAt, Instr.sureAddr, Sem.run_bind, Sem.run_pure]
    rw [show (Act.eval _ (Operand.tmp 3)) = Value.pointer (some ⟨g, 0, none⟩) from rfl]
    simp only [Sem.run_pure, Result.andThen_ok, run_loadVar_row w' g 26 26 (lyC l) (0, 0) _ hSw Try.underlying26 rfl (by kernel_rfl)]
  (try simp only [List.getElem_toArray, List.getElem_cons_zero, Act.put, List.setIfInBounds_toArray, List.set_cons_zero, List.set_cons_succ])
  refine wpAnyH_take (i := 1) (oi := _) (v := .int .i64 a) rfl (by kernel_rfl) (by kernel_rfl) (by kernel_rfl) (fun _ _ _ h => h) (Or.inl ⟨by rfl, ?_⟩) k0 ?_
  · intro w' hSw
    (try simp only [List.getElem_toArray, List.getElem_cons_succ, List.getElem_cons_zero])
    go_simp
  (try simp only [List.getElem_toArray, List.getElem_cons_succ, List.getElem_cons_zero, Act.put, List.setIfInBounds_toArray, List.set_cons_zero, List.set_cons_succ])
  refine wpAnyH_take (i := 3) (oi := _) (v := .agg (lyC l)) rfl (by kernel_rfl) (by kernel_rfl) (by kernel_rfl) (fun _ _ _ h => h) (Or.inl ⟨by rfl, ?_⟩) k0 ?_
  · intro w' hSw
    (try simp only [List.getElem_toArray, List.getElem_cons_succ, List.getElem_cons_zero])
    simp only [execOp, Instr.loadAt, Instr.sureAddr, Sem.run_bind, Sem.run_pure]
    rw [show (Act.eval _ (Operand.tmp 3)) = Value.pointer (some ⟨g, 0, none⟩) from rfl]
    simp only [Sem.run_pure, Result.andThen_ok, run_loadVar_row w' g 26 26 (lyC l) (0, 0) _ hSw Try.underlying26 rfl (by kernel_rfl)]
  (try simp only [List.getElem_toArray, List.getElem_cons_succ, List.getElem_cons_zero, Act.put, List.setIfInBounds_toArray, List.set_cons_zero, List.set_cons_succ])
  refine wpAnyH_take (i := 4) (oi := _) (v := .int .i64 a) rfl (by kernel_rfl) (by kernel_rfl) (by kernel_rfl) (fun _ _ _ h => h) (Or.inl ⟨by rfl, ?_⟩) k0 ?_
  · intro w' hSw
    (try simp only [List.getElem_toArray, List.getElem_cons_succ, List.getElem_cons_zero])
    go_simp
  (try simp only [List.getElem_toArray, List.getElem_cons_succ, List.getElem_cons_zero, Act.put, List.setIfInBounds_toArray, List.set_cons_zero, List.set_cons_succ])
  refine wpAnyH_take (i := 6) (oi := _) (v := .agg (lyC l)) rfl (by kernel_rfl) (by kernel_rfl) (by kernel_rfl) (fun _ _ _ h => h) (Or.inl ⟨by rfl, ?_⟩) k0 ?_
  · intro w' hSw
    (try simp only [List.getElem_toArray, List.getElem_cons_succ, List.getElem_cons_zero])
    simp only [execOp, Instr.loadAt, Instr.sureAddr, Sem.run_bind, Sem.run_pure]
    rw [show (Act.eval _ (Operand.tmp 3)) = Value.pointer (some ⟨g, 0, none⟩) from rfl]
    simp only [Sem.run_pure, Result.andThen_ok, run_loadVar_row w' g 26 26 (lyC l) (0, 0) _ hSw Try.underlying26 rfl (by kernel_rfl)]
  (try simp only [List.getElem_toArray, List.getElem_cons_succ, List.getElem_cons_zero, Act.put, List.setIfInBounds_toArray, List.set_cons_zero, List.set_cons_succ])
  refine wpAnyH_take (i := 7) (oi := _) (v := .int .i64 a) rfl (by kernel_rfl) (by kernel_rfl) (by kernel_rfl) (fun _ _ _ h => h) (Or.inl ⟨by rfl, ?_⟩) k0 ?_
  · intro w' hSw
    (try simp only [List.getElem_toArray, List.getElem_cons_succ, List.getElem_cons_zero])
    go_simp
  (try simp only [List.getElem_toArray, List.getElem_cons_succ, List.getElem_cons_zero, Act.put, List.setIfInBounds_toArray, List.set_cons_zero, List.set_cons_succ])
  refine wpAnyH_take (i := 8) (oi := _) (v := .int .i64 b) rfl (by kernel_rfl) (by kernel_rfl) (by kernel_rfl) (fun _ _ _ h => h) (Or.inl ⟨by rfl, ?_⟩) k0 ?_
  · intro w' hSw
    (try simp only [List.getElem_toArray, List.getElem_cons_succ, List.getElem_cons_zero])
    go_simp
  (try simp only [List.getElem_toArray, List.getElem_cons_succ, List.getElem_cons_zero, Act.put, List.setIfInBounds_toArray, List.set_cons_zero, List.set_cons_succ])
  refine wpAnyH_take (i := 10) (oi := _) (v := .agg (lyC l)) rfl (by kernel_rfl) (by kernel_rfl) (by kernel_rfl) (fun _ _ _ h => h) (Or.inl ⟨by rfl, ?_⟩) k0 ?_
  · intro w' hSw
    (try simp only [List.getElem_toArray, List.getElem_cons_succ, List.getElem_cons_zero])
    simp only [execOp, Instr.loadAt, Instr.sureAddr, Sem.run_bind, Sem.run_pure]
    rw [show (Act.eval _ (Operand.tmp 3)) = Value.pointer (some ⟨g, 0, none⟩) from rfl]
    simp only [Sem.run_pure, Result.andThen_ok, run_loadVar_row w' g 26 26 (lyC l) (0, 0) _ hSw Try.underlying26 rfl (by kernel_rfl)]
  (try simp only [List.getElem_toArray, List.getElem_cons_succ, List.getElem_cons_zero, Act.put, List.setIfInBounds_toArray, List.set_cons_zero, List.set_cons_succ])
  refine wpAnyH_take (i := 11) (oi := _) (v := .int .i64 a) rfl (by kernel_rfl) (by kernel_rfl) (by kernel_rfl) (fun _ _ _ h => h) (Or.inl ⟨by rfl, ?_⟩) k0 ?_
  · intro w' hSw
    (try simp only [List.getElem_toArray, List.getElem_cons_succ, List.getElem_cons_zero])
    go_simp
  (try simp only [List.getElem_toArray, List.getElem_cons_succ, List.getElem_cons_zero, Act.put, List.setIfInBounds_toArray, List.set_cons_zero, List.set_cons_succ])
  refine wpAnyH_take (i := 12) (oi := _) (v := .int .i64 b) rfl (by kernel_rfl) (by kernel_rfl) (by kernel_rfl) (fun _ _ _ h => h) (Or.inl ⟨by rfl, ?_⟩) k0 ?_
  · intro w' hSw
    (try simp only [List.getElem_toArray, List.getElem_cons_succ, List.getElem_cons_zero])
    go_simp
  (try simp only [List.getElem_toArray, List.getElem_cons_succ, List.getElem_cons_zero, Act.put, List.setIfInBounds_toArray, List.set_cons_zero, List.set_cons_succ])
  refine wpAnyH_take (i := 14) (oi := _) (v := .agg (lyC l)) rfl (by kernel_rfl) (by kernel_rfl) (by kernel_rfl) (fun _ _ _ h => h) (Or.inl ⟨by rfl, ?_⟩) k0 ?_
  · intro w' hSw
    (try simp only [List.getElem_toArray, List.getElem_cons_succ, List.getElem_cons_zero])
    simp only [execOp, Instr.loadAt, Instr.sureAddr, Sem.run_bind, Sem.run_pure]
    rw [show (Act.eval _ (Operand.tmp 3)) = Value.pointer (some ⟨g, 0, none⟩) from rfl]
    simp only [Sem.run_pure, Result.andThen_ok, run_loadVar_row w' g 26 26 (lyC l) (0, 0) _ hSw Try.underlying26 rfl (by kernel_rfl)]
  (try simp only [List.getElem_toArray, List.getElem_cons_succ, List.getElem_cons_zero, Act.put, List.setIfInBounds_toArray, List.set_cons_zero, List.set_cons_succ])
  refine wpAnyH_take (i := 15) (oi := _) (v := .int .i64 a) rfl (by kernel_rfl) (by kernel_rfl) (by kernel_rfl) (fun _ _ _ h => h) (Or.inl ⟨by rfl, ?_⟩) k0 ?_
  · intro w' hSw
    (try simp only [List.getElem_toArray, List.getElem_cons_succ, List.getElem_cons_zero])
    go_simp
  (try simp only [List.getElem_toArray, List.getElem_cons_succ, List.getElem_cons_zero, Act.put, List.setIfInBounds_toArray, List.set_cons_zero, List.set_cons_succ])
  refine wpAnyH_take (i := 16) (oi := _) (v := .int .i64 b) rfl (by kernel_rfl) (by kernel_rfl) (by kernel_rfl) (fun _ _ _ h => h) (Or.inl ⟨by rfl, ?_⟩) k0 ?_
  · intro w' hSw
    (try simp only [List.getElem_toArray, List.getElem_cons_succ, List.getElem_cons_zero])
    go_simp
  (try simp only [List.getElem_toArray, List.getElem_cons_succ, List.getElem_cons_zero, Act.put, List.setIfInBounds_toArray, List.set_cons_zero, List.set_cons_succ])
  refine wpAnyH_take (i := 18) (oi := _) (v := .agg (lyC l)) rfl (by kernel_rfl) (by kernel_rfl) (by kernel_rfl) (fun _ _ _ h => h) (Or.inl ⟨by rfl, ?_⟩) k0 ?_
  · intro w' hSw
    (try simp only [List.getElem_toArray, List.getElem_cons_succ, List.getElem_cons_zero])
    simp only [execOp, Instr.loadAt, Instr.sureAddr, Sem.run_bind, Sem.run_pure]
    rw [show (Act.eval _ (Operand.tmp 3)) = Value.pointer (some ⟨g, 0, none⟩) from rfl]
    simp only [Sem.run_pure, Result.andThen_ok, run_loadVar_row w' g 26 26 (lyC l) (0, 0) _ hSw Try.underlying26 rfl (by kernel_rfl)]
  (try simp only [List.getElem_toArray, List.getElem_cons_succ, List.getElem_cons_zero, Act.put, List.setIfInBounds_toArray, List.set_cons_zero, List.set_cons_succ])
  refine wpAnyH_take (i := 19) (oi := _) (v := .int .i64 a) rfl (by kernel_rfl) (by kernel_rfl) (by kernel_rfl) (fun _ _ _ h => h) (Or.inl ⟨by rfl, ?_⟩) k0 ?_
  · intro w' hSw
    (try simp only [List.getElem_toArray, List.getElem_cons_succ, List.getElem_cons_zero])
    go_simp
  (try simp only [List.getElem_toArray, List.getElem_cons_succ, List.getElem_cons_zero, Act.put, List.setIfInBounds_toArray, List.set_cons_zero, List.set_cons_succ])
  refine wpAnyH_take (i := 20) (oi := _) (v := .int .i64 b) rfl (by kernel_rfl) (by kernel_rfl) (by kernel_rfl) (fun _ _ _ h => h) (Or.inl ⟨by rfl, ?_⟩) k0 ?_
  · intro w' hSw
    (try simp only [List.getElem_toArray, List.getElem_cons_succ, List.getElem_cons_zero])
    go_simp
  (try simp only [List.getElem_toArray, List.getElem_cons_succ, List.getElem_cons_zero, Act.put, List.setIfInBounds_toArray, List.set_cons_zero, List.set_cons_succ])
  refine wpAnyH_take (i := 22) (oi := _) (v := .agg (lyC l)) rfl (by kernel_rfl) (by kernel_rfl) (by kernel_rfl) (fun _ _ _ h => h) (Or.inl ⟨by rfl, ?_⟩) k0 ?_
  · intro w' hSw
    (try simp only [List.getElem_toArray, List.getElem_cons_succ, List.getElem_cons_zero])
    simp only [execOp, Instr.loadAt, Instr.sureAddr, Sem.run_bind, Sem.run_pure]
    rw [show (Act.eval _ (Operand.tmp 3)) = Value.pointer (some ⟨g, 0, none⟩) from rfl]
    simp only [Sem.run_pure, Result.andThen_ok, run_loadVar_row w' g 26 26 (lyC l) (0, 0) _ hSw Try.underlying26 rfl (by kernel_rfl)]
  (try simp only [List.getElem_toArray, List.getElem_cons_succ, List.getElem_cons_zero, Act.put, List.setIfInBounds_toArray, List.set_cons_zero, List.set_cons_succ])
  refine wpAnyH_take (i := 23) (oi := _) (v := .int .i64 a) rfl (by kernel_rfl) (by kernel_rfl) (by kernel_rfl) (fun _ _ _ h => h) (Or.inl ⟨by rfl, ?_⟩) k0 ?_
  · intro w' hSw
    (try simp only [List.getElem_toArray, List.getElem_cons_succ, List.getElem_cons_zero])
    go_simp
  (try simp only [List.getElem_toArray, List.getElem_cons_succ, List.getElem_cons_zero, Act.put, List.setIfInBounds_toArray, List.set_cons_zero, List.set_cons_succ])
  refine wpAnyH_take (i := 25) (oi := _) (v := .agg (lyC l)) rfl (by kernel_rfl) (by kernel_rfl) (by kernel_rfl) (fun _ _ _ h => h) (Or.inl ⟨by rfl, ?_⟩) k0 ?_
  · intro w' hSw
    (try simp only [List.getElem_toArray, List.getElem_cons_succ, List.getElem_cons_zero])
    simp only [execOp, Instr.loadAt, Instr.sureAddr, Sem.run_bind, Sem.run_pure]
    rw [show (Act.eval _ (Operand.tmp 3)) = Value.pointer (some ⟨g, 0, none⟩) from rfl]
    simp only [Sem.run_pure, Result.andThen_ok, run_loadVar_row w' g 26 26 (lyC l) (0, 0) _ hSw Try.underlying26 rfl (by kernel_rfl)]
  (try simp only [List.getElem_toArray, List.getElem_cons_succ, List.getElem_cons_zero, Act.put, List.setIfInBounds_toArray, List.set_cons_zero, List.set_cons_succ])
  refine wpAnyH_take (i := 26) (oi := _) (v := .int .i64 a) rfl (by kernel_rfl) (by kernel_rfl) (by kernel_rfl) (fun _ _ _ h => h) (Or.inl ⟨by rfl, ?_⟩) k0 ?_
  · intro w' hSw
    (try simp only [List.getElem_toArray, List.getElem_cons_succ, List.getElem_cons_zero])
    go_simp
  (try simp only [List.getElem_toArray, List.getElem_cons_succ, List.getElem_cons_zero, Act.put, List.setIfInBounds_toArray, List.set_cons_zero, List.set_cons_succ])
  refine wpAnyH_take (i := 27) (oi := _) (v := .int .i64 b) rfl (by kernel_rfl) (by kernel_rfl) (by kernel_rfl) (fun _ _ _ h => h) (Or.inl ⟨by rfl, ?_⟩) k0 ?_
  · intro w' hSw
    (try simp only [List.getElem_toArray, List.getElem_cons_succ, List.getElem_cons_zero])
    go_simp
  (try simp only [List.getElem_toArray, List.getElem_cons_succ, List.getElem_cons_zero, Act.put, List.setIfInBounds_toArray, List.set_cons_zero, List.set_cons_succ])
  refine wpAnyH_take (i := 29) (oi := _) (v := .agg (lyC l)) rfl (by kernel_rfl) (by kernel_rfl) (by kernel_rfl) (fun _ _ _ h => h) (Or.inl ⟨by rfl, ?_⟩) k0 ?_
  · intro w' hSw
    (try simp only [List.getElem_toArray, List.getElem_cons_succ, List.getElem_cons_zero])
    simp only [execOp, Instr.loadAt, Instr.sureAddr, Sem.run_bind, Sem.run_pure]
    rw [show (Act.eval _ (Operand.tmp 3)) = Value.pointer (some ⟨g, 0, none⟩) from rfl]
    simp only [Sem.run_pure, Result.andThen_ok, run_loadVar_row w' g 26 26 (lyC l) (0, 0) _ hSw Try.underlying26 rfl (by kernel_rfl)]
  (try simp only [List.getElem_toArray, List.getElem_cons_succ, List.getElem_cons_zero, Act.put, List.setIfInBounds_toArray, List.set_cons_zero, List.set_cons_succ])
  refine wpAnyH_take (i := 30) (oi := _) (v := .int .i64 a) rfl (by kernel_rfl) (by kernel_rfl) (by kernel_rfl) (fun _ _ _ h => h) (Or.inl ⟨by rfl, ?_⟩) k0 ?_
  · intro w' hSw
    (try simp only [List.getElem_toArray, List.getElem_cons_succ, List.getElem_cons_zero])
    go_simp
  (try simp only [List.getElem_toArray, List.getElem_cons_succ, List.getElem_cons_zero, Act.put, List.setIfInBounds_toArray, List.set_cons_zero, List.set_cons_succ])
  refine wpAnyH_take (i := 31) (oi := _) (v := .int .i64 b) rfl (by kernel_rfl) (by kernel_rfl) (by kernel_rfl) (fun _ _ _ h => h) (Or.inl ⟨by rfl, ?_⟩) k0 ?_
  · intro w' hSw
    (try simp only [List.getElem_toArray, List.getElem_cons_succ, List.getElem_cons_zero])
    go_simp
  (try simp only [List.getElem_toArray, List.getElem_cons_succ, List.getElem_cons_zero, Act.put, List.setIfInBounds_toArray, List.set_cons_zero, List.set_cons_succ])
  refine wpAnyH_take (i := 33) (oi := _) (v := .agg (lyC l)) rfl (by kernel_rfl) (by kernel_rfl) (by kernel_rfl) (fun _ _ _ h => h) (Or.inl ⟨by rfl, ?_⟩) k0 ?_
  · intro w' hSw
    (try simp only [List.getElem_toArray, List.getElem_cons_succ, List.getElem_cons_zero])
    simp only [execOp, Instr.loadAt, Instr.sureAddr, Sem.run_bind, Sem.run_pure]
    rw [show (Act.eval _ (Operand.tmp 3)) = Value.pointer (some ⟨g, 0, none⟩) from rfl]
    simp only [Sem.run_pure, Result.andThen_ok, run_loadVar_row w' g 26 26 (lyC l) (0, 0) _ hSw Try.underlying26 rfl (by kernel_rfl)]
  (try simp only [List.getElem_toArray, List.getElem_cons_succ, List.getElem_cons_zero, Act.put, List.setIfInBounds_toArray, List.set_cons_zero, List.set_cons_succ])
  refine wpAnyH_take (i := 34) (oi := _) (v := .int .i64 a) rfl (by kernel_rfl) (by kernel_rfl) (by kernel_rfl) (fun _ _ _ h => h) (Or.inl ⟨by rfl, ?_⟩) k0 ?_
  · intro w' hSw
    (try simp only [List.getElem_toArray, List.getElem_cons_succ, List.getElem_cons_zero])
    go_simp
  (try simp only [List.getElem_toArray, List.getElem_cons_succ, List.getElem_cons_zero, Act.put, List.setIfInBounds_toArray, List.set_cons_zero, List.set_cons_succ])
  refine wpAnyH_take (i := 36) (oi := _) (v := .agg (lyC l)) rfl (by kernel_rfl) (by kernel_rfl) (by kernel_rfl) (fun _ _ _ h => h) (Or.inl ⟨by rfl, ?_⟩) k0 ?_
  · intro w' hSw
    (try simp only [List.getElem_toArray, List.getElem_cons_succ, List.getElem_cons_zero])
    simp only [execOp, Instr.loadAt, Instr.sureAddr, Sem.run_bind, Sem.run_pure]
    rw [show (Act.eval _ (Operand.tmp 3)) = Value.pointer (some ⟨g, 0, none⟩) from rfl]
    simp only [Sem.run_pure, Result.andThen_ok, run_loadVar_row w' g 26 26 (lyC l) (0, 0) _ hSw Try.underlying26 rfl (by kernel_rfl)]
  (try simp only [List.getElem_toArray, List.getElem_cons_succ, List.getElem_cons_zero, Act.put, List.setIfInBounds_toArray, List.set_cons_zero, List.set_cons_succ])
  refine wpAnyH_take (i := 37) (oi := _) (v := .int .i64 a) rfl (by kernel_rfl) (by kernel_rfl) (by kernel_rfl) (fun _ _ _ h => h) (Or.inl ⟨by rfl, ?_⟩) k0 ?_
  · intro w' hSw
    (try simp only [List.getElem_toArray, List.getElem_cons_succ, List.getElem_cons_zero])
    go_simp
  (try simp only [List.getElem_toArray, List.getElem_cons_succ, List.getElem_cons_zero, Act.put, List.setIfInBounds_toArray, List.set_cons_zero, List.set_cons_succ])
  refine wpAnyH_take (i := 38) (oi := _) (v := .int .i64 b) rfl (by kernel_rfl) (by kernel_rfl) (by kernel_rfl) (fun _ _ _ h => h) (Or.inl ⟨by rfl, ?_⟩) k0 ?_
  · intro w' hSw
    (try simp only [List.getElem_toArray, List.getElem_cons_succ, List.getElem_cons_zero])
    go_simp
  (try simp only [List.getElem_toArray, List.getElem_cons_succ, List.getElem_cons_zero, Act.put, List.setIfInBounds_toArray, List.set_cons_zero, List.set_cons_succ])
  refine wpAnyH_take (i := 40) (oi := _) (v := .agg (lyC l)) rfl (by kernel_rfl) (by kernel_rfl) (by kernel_rfl) (fun _ _ _ h => h) (Or.inl ⟨by rfl, ?_⟩) k0 ?_
  · intro w' hSw
    (try simp only [List.getElem_toArray, List.getElem_cons_succ, List.getElem_cons_zero])
    simp only [execOp, Instr.loadAt, Instr.sureAddr, Sem.run_bind, Sem.run_pure]
    rw [show (Act.eval _ (Operand.tmp 3)) = Value.pointer (some ⟨g, 0, none⟩) from rfl]
    simp only [Sem.run_pure, Result.andThen_ok, run_loadVar_row w' g 26 26 (lyC l) (0, 0) _ hSw Try.underlying26 rfl (by kernel_rfl)]
  (try simp only [List.getElem_toArray, List.getElem_cons_succ, List.getElem_cons_zero, Act.put, List.setIfInBounds_toArray, List.set_cons_zero, List.set_cons_succ])
  refine wpAnyH_take (i := 41) (oi := _) (v := .int .i64 a) rfl (by kernel_rfl) (by kernel_rfl) (by kernel_rfl) (fun _ _ _ h => h) (Or.inl ⟨by rfl, ?_⟩) k0 ?_
  · intro w' hSw
    (try simp only [List.getElem_toArray, List.getElem_cons_succ, List.getElem_cons_zero])
    go_simp
  (try simp only [List.getElem_toArray, List.getElem_cons_succ, List.getElem_cons_zero, Act.put, List.setIfInBounds_toArray, List.set_cons_zero, List.set_cons_succ])
  refine wpAnyH_take (i := 43) (oi := _) (v := .agg (lyC l)) rfl (by kernel_rfl) (by kernel_rfl) (by kernel_rfl) (fun _ _ _ h => h) (Or.inl ⟨by rfl, ?_⟩) k0 ?_
  · intro w' hSw
    (try simp only [List.getElem_toArray, List.getElem_cons_succ, List.getElem_cons_zero])
    simp only [execOp, Instr.loadAt, Instr.sureAddr, Sem.run_bind, Sem.run_pure]
    rw [show (Act.eval _ (Operand.tmp 3)) = Value.pointer (some ⟨g, 0, none⟩) from rfl]
    simp only [Sem.run_pure, Result.andThen_ok, run_loadVar_row w' g 26 26 (lyC l) (0, 0) _ hSw Try.underlying26 rfl (by kernel_rfl)]
  (try simp only [List.getElem_toArray, List.getElem_cons_succ, List.getElem_cons_zero, Act.put, List.setIfInBounds_toArray, List.set_cons_zero, List.set_cons_succ])
  refine wpAnyH_take (i := 44) (oi := _) (v := .int .i64 a) rfl (by kernel_rfl) (by kernel_rfl) (by kernel_rfl) (fun _ _ _ h => h) (Or.inl ⟨by rfl, ?_⟩) k0 ?_
  · intro w' hSw
    (try simp only [List.getElem_toArray, List.getElem_cons_succ, List.getElem_cons_zero])
    go_simp
  (try simp only [List.getElem_toArray, List.getElem_cons_succ, List.getElem_cons_zero, Act.put, List.setIfInBounds_toArray, List.set_cons_zero, List.set_cons_succ])
  refine wpAnyH_take (i := 46) (oi := _) (v := .agg (lyC l)) rfl (by kernel_rfl) (by kernel_rfl) (by kernel_rfl) (fun _ _ _ h => h) (Or.inl ⟨by rfl, ?_⟩) k0 ?_
  · intro w' hSw
    (try simp only [List.getElem_toArray, List.getElem_cons_succ, List.getElem_cons_zero])
    simp only [execOp, Instr.loadAt, Instr.sureAddr, Sem.run_bind, Sem.run_pure]
    rw [show (Act.eval _ (Operand.tmp 3)) = Value.pointer (some ⟨g, 0, none⟩) from rfl]
    simp only [Sem.run_pure, Result.andThen_ok, run_loadVar_row w' g 26 26 (lyC l) (0, 0) _ hSw Try.underlying26 rfl (by kernel_rfl)]
  (try simp only [List.getElem_toArray, List.getElem_cons_succ, List.getElem_cons_zero, Act.put, List.setIfInBounds_toArray, List.set_cons_zero, List.set_cons_succ])
  refine wpAnyH_take (i := 47) (oi := _) (v := .int .i64 a) rfl (by kernel_rfl) (by kernel_rfl) (by kernel_rfl) (fun _ _ _ h => h) (Or.inl ⟨by rfl, ?_⟩) k0 ?_
  · intro w' hSw
    (try simp only [List.getElem_toArray, List.getElem_cons_succ, List.getElem_cons_zero])
    go_simp
  (try simp only [List.getElem_toArray, List.getElem_cons_succ, List.getElem_cons_zero, Act.put, List.setIfInBounds_toArray, List.set_cons_zero, List.set_cons_succ])
  refine wpAnyH_take (i := 48) (oi := _) (v := .int .i64 b) rfl (by kernel_rfl) (by kernel_rfl) (by kernel_rfl) (fun _ _ _ h => h) (Or.inl ⟨by rfl, ?_⟩) k0 ?_
  · intro w' hSw
    (try simp only [List.getElem_toArray, List.getElem_cons_succ, List.getElem_cons_zero])
    go_simp
  (try simp only [List.getElem_toArray, List.getElem_cons_succ, List.getElem_cons_zero, Act.put, List.setIfInBounds_toArray, List.set_cons_zero, List.set_cons_succ])
  refine wpAnyH_ready (rs := [2]) (by kernel_rfl) (by simp) ?_
  refine AllReadyH.cons (o := _) rfl (fun K hK => ?_) AllReadyH.nil
  (try simp only [List.getElem_toArray, List.getElem_cons_succ, List.getElem_cons_zero])
  go_simp
  (with_reducible refine (alive_any l a _ f).mono ?_)
  rintro e w3 ⟨rfl, hb⟩
  replace k0 := k0.keep hb
  replace hbl := below_tr hbl hb
  clear hb
  refine hK.out _ _ k0 (fun hS' => ?_)
  clear hS' hK K
  (try simp only [List.getElem_toArray, List.getElem_cons_succ, List.getElem_cons_zero, Act.put, List.setIfInBounds_toArray, List.set_cons_zero, List.set_cons_succ])
  refine wpAnyH_ready (rs := [5]) (by kernel_rfl) (by simp) ?_
  refine AllReadyH.cons (o := _) rfl (fun K hK => ?_) AllReadyH.nil
  (try simp only [List.getElem_toArray, List.getElem_cons_succ, List.getElem_cons_zero])
  go_simp
  (with_reducible refine (owner_any l a _ f).mono ?_)
  rintro e w3 ⟨rfl, hb⟩
  replace k0 := k0.keep hb
  replace hbl := below_tr hbl hb
  clear hb
  refine hK.out _ _ k0 (fun hS' => ?_)
  clear hS' hK K
  (try simp only [List.getElem_toArray, List.getElem_cons_succ, List.getElem_cons_zero, Act.put, List.setIfInBounds_toArray, List.set_cons_zero, List.set_cons_succ])
  refine wpAnyH_ready (rs := [9]) (by kernel_rfl) (by simp) ?_
  refine AllReadyH.cons (o := _) rfl (fun K hK => ?_) AllReadyH.nil
  (try simp only [List.getElem_toArray, List.getElem_cons_succ, List.getElem_cons_zero])
  go_simp
  (with_reducible refine (resv_any l a b _ f).mono ?_)
  rintro e w3 ⟨rfl, hb⟩
  replace k0 := k0.keep hb
  replace hbl := below_tr hbl hb
  clear hb
  refine hK.out _ _ k0 (fun hS' => ?_)
  clear hS' hK K
  (try simp only [List.getElem_toArray, List.getElem_cons_succ, List.getElem_cons_zero, Act.put, List.setIfInBounds_toArray, List.set_cons_zero, List.set_cons_succ])
  refine wpAnyH_ready (rs := [13]) (by kernel_rfl) (by simp) ?_
  refine AllReadyH.cons (o := _) rfl (fun K hK => ?_) AllReadyH.nil
  (try simp only [List.getElem_toArray, List.getElem_cons_succ, List.getElem_cons_zero])
  go_simp
  (with_reducible refine (deque_any l a b _ f).mono ?_)
  rintro e w3 ⟨rfl, hb⟩
  replace k0 := k0.keep hb
  replace hbl := below_tr hbl hb
  clear hb
  refine hK.out _ _ k0 (fun hS' => ?_)
  clear hS' hK K
  (try simp only [List.getElem_toArray, List.getElem_cons_succ, List.getElem_cons_zero, Act.put, List.setIfInBounds_toArray, List.set_cons_zero, List.set_cons_succ])
  refine wpAnyH_ready (rs := [17]) (by kernel_rfl) (by simp) ?_
  refine AllReadyH.cons (o := _) rfl (fun K hK => ?_) AllReadyH.nil
  (try simp only [List.getElem_toArray, List.getElem_cons_succ, List.getElem_cons_zero])
  go_simp
  (with_reducible refine (ring_any l a b _ f2).mono ?_)
  rintro e w3 ⟨rfl, hb⟩
  replace k0 := k0.keep hb
  replace hbl := below_tr hbl hb
  clear hb
  refine hK.out _ _ k0 (fun hS' => ?_)
  clear hS' hK K
  (try simp only [List.getElem_toArray, List.getElem_cons_succ, List.getElem_cons_zero, Act.put, List.setIfInBounds_toArray, List.set_cons_zero, List.set_cons_succ])
  refine wpAnyH_ready (rs := [21]) (by kernel_rfl) (by simp) ?_
  refine AllReadyH.cons (o := _) rfl (fun K hK => ?_) AllReadyH.nil
  (try simp only [List.getElem_toArray, List.getElem_cons_succ, List.getElem_cons_zero])
  go_simp
  (with_reducible refine (task_any l a b _ f ha).mono ?_)
  rintro e w3 ⟨rfl, hb⟩
  replace k0 := k0.keep hb
  replace hbl := below_tr hbl hb
  clear hb
  refine hK.out _ _ k0 (fun hS' => ?_)
  clear hS' hK K
  (try simp only [List.getElem_toArray, List.getElem_cons_succ, List.getElem_cons_zero, Act.put, List.setIfInBounds_toArray, List.set_cons_zero, List.set_cons_succ])
  refine wpAnyH_ready (rs := [24]) (by kernel_rfl) (by simp) ?_
  refine AllReadyH.cons (o := _) rfl (fun K hK => ?_) AllReadyH.nil
  (try simp only [List.getElem_toArray, List.getElem_cons_succ, List.getElem_cons_zero])
  go_simp
  (with_reducible refine (cell_any l a _ f).mono ?_)
  rintro e w3 ⟨rfl, hb⟩
  replace k0 := k0.keep hb
  replace hbl := below_tr hbl hb
  clear hb
  refine hK.out _ _ k0 (fun hS' => ?_)
  clear hS' hK K
  (try simp only [List.getElem_toArray, List.getElem_cons_succ, List.getElem_cons_zero, Act.put, List.setIfInBounds_toArray, List.set_cons_zero, List.set_cons_succ])
  refine wpAnyH_ready (rs := [28]) (by kernel_rfl) (by simp) ?_
  refine AllReadyH.cons (o := _) rfl (fun K hK => ?_) AllReadyH.nil
  (try simp only [List.getElem_toArray, List.getElem_cons_succ, List.getElem_cons_zero])
  go_simp
  (with_reducible refine (map_any l a b _ f).mono ?_)
  rintro e w3 ⟨rfl, hb⟩
  replace k0 := k0.keep hb
  replace hbl := below_tr hbl hb
  clear hb
  refine hK.out _ _ k0 (fun hS' => ?_)
  clear hS' hK K
  (try simp only [List.getElem_toArray, List.getElem_cons_succ, List.getElem_cons_zero, Act.put, List.setIfInBounds_toArray, List.set_cons_zero, List.set_cons_succ])
  refine wpAnyH_ready (rs := [32]) (by kernel_rfl) (by simp) ?_
  refine AllReadyH.cons (o := _) rfl (fun K hK => ?_) AllReadyH.nil
  (try simp only [List.getElem_toArray, List.getElem_cons_succ, List.getElem_cons_zero])
  go_simp
  (with_reducible refine (bucket_any l a b _ f).mono ?_)
  rintro e w3 ⟨rfl, hb⟩
  replace k0 := k0.keep hb
  replace hbl := below_tr hbl hb
  clear hb
  refine hK.out _ _ k0 (fun hS' => ?_)
  clear hS' hK K
  (try simp only [List.getElem_toArray, List.getElem_cons_succ, List.getElem_cons_zero, Act.put, List.setIfInBounds_toArray, List.set_cons_zero, List.set_cons_succ])
  refine wpAnyH_ready (rs := [35]) (by kernel_rfl) (by simp) ?_
  refine AllReadyH.cons (o := _) rfl (fun K hK => ?_) AllReadyH.nil
  (try simp only [List.getElem_toArray, List.getElem_cons_succ, List.getElem_cons_zero])
  go_simp
  (with_reducible refine (top_any l a _ f).mono ?_)
  rintro e w3 ⟨rfl, hb⟩
  replace k0 := k0.keep hb
  replace hbl := below_tr hbl hb
  clear hb
  refine hK.out _ _ k0 (fun hS' => ?_)
  clear hS' hK K
  (try simp only [List.getElem_toArray, List.getElem_cons_succ, List.getElem_cons_zero, Act.put, List.setIfInBounds_toArray, List.set_cons_zero, List.set_cons_succ])
  refine wpAnyH_ready (rs := [39]) (by kernel_rfl) (by simp) ?_
  refine AllReadyH.cons (o := _) rfl (fun K hK => ?_) AllReadyH.nil
  (try simp only [List.getElem_toArray, List.getElem_cons_succ, List.getElem_cons_zero])
  go_simp
  (with_reducible refine (slot_any l a b _ f).mono ?_)
  rintro e w3 ⟨rfl, hb⟩
  replace k0 := k0.keep hb
  replace hbl := below_tr hbl hb
  clear hb
  refine hK.out _ _ k0 (fun hS' => ?_)
  clear hS' hK K
  (try simp only [List.getElem_toArray, List.getElem_cons_succ, List.getElem_cons_zero, Act.put, List.setIfInBounds_toArray, List.set_cons_zero, List.set_cons_succ])
  refine wpAnyH_ready (rs := [42]) (by kernel_rfl) (by simp) ?_
  refine AllReadyH.cons (o := _) rfl (fun K hK => ?_) AllReadyH.nil
  (try simp only [List.getElem_toArray, List.getElem_cons_succ, List.getElem_cons_zero])
  go_simp
  (with_reducible refine (head_any l a _ f).mono ?_)
  rintro e w3 ⟨rfl, hb⟩
  replace k0 := k0.keep hb
  replace hbl := below_tr hbl hb
  clear hb
  refine hK.out _ _ k0 (fun hS' => ?_)
  clear hS' hK K
  (try simp only [List.getElem_toArray, List.getElem_cons_succ, List.getElem_cons_zero, Act.put, List.setIfInBounds_toArray, List.set_cons_zero, List.set_cons_succ])
  refine wpAnyH_ready (rs := [45]) (by kernel_rfl) (by simp) ?_
  refine AllReadyH.cons (o := _) rfl (fun K hK => ?_) AllReadyH.nil
  (try simp only [List.getElem_toArray, List.getElem_cons_succ, List.getElem_cons_zero])
  go_simp
  (with_reducible refine (tail_any l a _ f).mono ?_)
  rintro e w3 ⟨rfl, hb⟩
  replace k0 := k0.keep hb
  replace hbl := below_tr hbl hb
  clear hb
  refine hK.out _ _ k0 (fun hS' => ?_)
  clear hS' hK K
  (try simp only [List.getElem_toArray, List.getElem_cons_succ, List.getElem_cons_zero, Act.put, List.setIfInBounds_toArray, List.set_cons_zero, List.set_cons_succ])
  refine wpAnyH_ready (rs := [49]) (by kernel_rfl) (by simp) ?_
  refine AllReadyH.cons (o := _) rfl (fun K hK => ?_) AllReadyH.nil
  (try simp only [List.getElem_toArray, List.getElem_cons_succ, List.getElem_cons_zero])
  go_simp
  (with_reducible refine (node_any l a b _ f ha).mono ?_)
  rintro e w3 ⟨rfl, hb⟩
  replace k0 := k0.keep hb
  replace hbl := below_tr hbl hb
  clear hb
  refine hK.out _ _ k0 (fun hS' => ?_)
  clear hS' hK K
  (try simp only [List.getElem_toArray, List.getElem_cons_succ, List.getElem_cons_zero, Act.put, List.setIfInBounds_toArray, List.set_cons_zero, List.set_cons_succ])
  refine wpAnyH_ready (rs := [50]) (by kernel_rfl) (by simp) ?_
  refine AllReadyH.cons (o := _) rfl (fun K hK => ?_) AllReadyH.nil
  rw [if_pos (by rfl)]
  refine wp_row 14 _ rfl (rowAt l a b) rfl (by omega) (by omega) (by rw [List.map_toArray]; rfl) ?_
  have kr := Bk.made w3 3 ((rowAt l a b).map (Value.int .i64)).toArray
  replace k0 := k0.alloc (.cells ((rowAt l a b).map (Value.int .i64)).toArray 3)
  replace hbl := below_al hbl (.cells ((rowAt l a b).map (Value.int .i64)).toArray 3)
  refine hK.out _ _ k0 (fun hS' => ?_)
  clear hS' hK K
  (try simp only [List.getElem_toArray, List.getElem_cons_succ, List.getElem_cons_zero, Act.put, List.setIfInBounds_toArray, List.set_cons_zero, List.set_cons_succ])
  generalize w3.alloc (.cells ((rowAt l a b).map (Value.int .i64)).toArray 3) = w4 at *
  generalize w3.heap.size = g4 at *
  refine wpAnyH_take (i := 51) (oi := _) (v := .slice (some ⟨g4, 0, none⟩) 14 14) rfl (by kernel_rfl) (by kernel_rfl) (by kernel_rfl) (fun _ _ _ h => h) (Or.inl ⟨by rfl, ?_⟩) k0 ?_
  · intro w' hSw
    (try simp only [List.getElem_toArray, List.getElem_cons_succ, List.getElem_cons_zero])
    go_simp
  (try simp only [List.getElem_toArray, List.getElem_cons_succ, List.getElem_cons_zero, Act.put, List.setIfInBounds_toArray, List.set_cons_zero, List.set_cons_succ])
  refine wpAnyH_done (by kernel_rfl) ?_ _
  go_wp2
  go_ret
  exact ⟨g4, rfl, kr, hbl⟩

set_option maxRecDepth 100000 in
set_option maxHeartbeats 8000000 in
theorem rall_any (l : Ly) (a b : Int) (w : World) (f : LyFull l) (f2 : LyFit l) (_ha : a ≤ 9223372036854775807) :
    Calls Try.prog 19 #[lyV l, .int .i64 a, .int .i64 b] w (NewInts (rowAt l a b) w) := by
  go_enter Try.func19, Try.ntmps19
  go_wp2_with fail
  have k0 := Bk.made w 26 (lyC l)
  have hbl := below_al (Below.refl w.heap.size w) (.cells (lyC l) 26)
  refine wp_region_held_drew (S := fun w' => Bk w' w.heap.size 26 (lyC l)) (by kernel_rfl) k0.drew (fun hHeld => ?_)
  clear hHeld
  replace k0 := k0.drew
  replace hbl := hbl.drew
  generalize (w.alloc (.cells (lyC l) 26)).drew = wa at *
  generalize hg : w.heap.size = g at k0 ⊢
  refine wpAnyH_take (i := 0) (oi := _) (v := .agg (lyC l)) rfl (by kernel_rfl) (by kernel_rfl) (by kernel_rfl) (fun _ _ _ h => h) (Or.inl ⟨by rfl, ?_⟩) k0 ?_
  · intro w' hSw
    (try simp only [List.getElem_toArray, List.getElem_cons_zero])
    simp only [execOp, Instr.loadAt, Instr.sureAddr, Sem.run_bind, Sem.run_pure]
    rw [show (Act.eval _ (Operand.tmp 3)) = Value.pointer (some ⟨g, 0, none⟩) from rfl]
    simp only [Sem.run_pure, Result.andThen_ok, run_loadVar_row w' g 26 26 (lyC l) (0, 0) _ hSw Try.underlying26 rfl (by kernel_rfl)]
  (try simp only [List.getElem_toArray, List.getElem_cons_zero, Act.put, List.setIfInBounds_toArray, List.set_cons_zero, List.set_cons_succ])
  refine wpAnyH_take (i := 1) (oi := _) (v := .int .i64 a) rfl (by kernel_rfl) (by kernel_rfl) (by kernel_rfl) (fun _ _ _ h => h) (Or.inl ⟨by rfl, ?_⟩) k0 ?_
  · intro w' hSw
    (try simp only [List.getElem_toArray, List.getElem_cons_succ, List.getElem_cons_zero])
    go_simp
  (try simp only [List.getElem_toArray, List.getElem_cons_succ, List.getElem_cons_zero, Act.put, List.setIfInBounds_toArray, List.set_cons_zero, List.set_cons_succ])
  refine wpAnyH_take (i := 3) (oi := _) (v := .agg (lyC l)) rfl (by kernel_rfl) (by kernel_rfl) (by kernel_rfl) (fun _ _ _ h => h) (Or.inl ⟨by rfl, ?_⟩) k0 ?_
  · intro w' hSw
    (try simp only [List.getElem_toArray, List.getElem_cons_succ, List.getElem_cons_zero])
    simp only [execOp, Instr.loadAt, Instr.sureAddr, Sem.run_bind, Sem.run_pure]
    rw [show (Act.eval _ (Operand.tmp 3)) = Value.pointer (some ⟨g, 0, none⟩) from rfl]
    simp only [Sem.run_pure, Result.andThen_ok, run_loadVar_row w' g 26 26 (lyC l) (0, 0) _ hSw Try.underlying26 rfl (by kernel_rfl)]
  (try simp only [List.getElem_toArray, List.getElem_cons_succ, List.getElem_cons_zero, Act.put, List.setIfInBounds_toArray, List.set_cons_zero, List.set_cons_succ])
  refine wpAnyH_take (i := 4) (oi := _) (v := .int .i64 a) rfl (by kernel_rfl) (by kernel_rfl) (by kernel_rfl) (fun _ _ _ h => h) (Or.inl ⟨by rfl, ?_⟩) k0 ?_
  · intro w' hSw
    (try simp only [List.getElem_toArray, List.getElem_cons_succ, List.getElem_cons_zero])
    go_simp
  (try simp only [List.getElem_toArray, List.getElem_cons_succ, List.getElem_cons_zero, Act.put, List.setIfInBounds_toArray, List.set_cons_zero, List.set_cons_succ])
  refine wpAnyH_take (i := 6) (oi := _) (v := .agg (lyC l)) rfl (by kernel_rfl) (by kernel_rfl) (by kernel_rfl) (fun _ _ _ h => h) (Or.inl ⟨by rfl, ?_⟩) k0 ?_
  · intro w' hSw
    (try simp only [List.getElem_toArray, List.getElem_cons_succ, List.getElem_cons_zero])
    simp only [execOp, Instr.loadAt, Instr.sureAddr, Sem.run_bind, Sem.run_pure]
    rw [show (Act.eval _ (Operand.tmp 3)) = Value.pointer (some ⟨g, 0, none⟩) from rfl]
    simp only [Sem.run_pure, Result.andThen_ok, run_loadVar_row w' g 26 26 (lyC l) (0, 0) _ hSw Try.underlying26 rfl (by kernel_rfl)]
  (try simp only [List.getElem_toArray, List.getElem_cons_succ, List.getElem_cons_zero, Act.put, List.setIfInBounds_toArray, List.set_cons_zero, List.set_cons_succ])
  refine wpAnyH_take (i := 7) (oi := _) (v := .int .i64 a) rfl (by kernel_rfl) (by kernel_rfl) (by kernel_rfl) (fun _ _ _ h => h) (Or.inl ⟨by rfl, ?_⟩) k0 ?_
  · intro w' hSw
    (try simp only [List.getElem_toArray, List.getElem_cons_succ, List.getElem_cons_zero])
    go_simp
  (try simp only [List.getElem_toArray, List.getElem_cons_succ, List.getElem_cons_zero, Act.put, List.setIfInBounds_toArray, List.set_cons_zero, List.set_cons_succ])
  refine wpAnyH_take (i := 8) (oi := _) (v := .int .i64 b) rfl (by kernel_rfl) (by kernel_rfl) (by kernel_rfl) (fun _ _ _ h => h) (Or.inl ⟨by rfl, ?_⟩) k0 ?_
  · intro w' hSw
    (try simp only [List.getElem_toArray, List.getElem_cons_succ, List.getElem_cons_zero])
    go_simp
  (try simp only [List.getElem_toArray, List.getElem_cons_succ, List.getElem_cons_zero, Act.put, List.setIfInBounds_toArray, List.set_cons_zero, List.set_cons_succ])
  refine wpAnyH_take (i := 10) (oi := _) (v := .agg (lyC l)) rfl (by kernel_rfl) (by kernel_rfl) (by kernel_rfl) (fun _ _ _ h => h) (Or.inl ⟨by rfl, ?_⟩) k0 ?_
  · intro w' hSw
    (try simp only [List.getElem_toArray, List.getElem_cons_succ, List.getElem_cons_zero])
    simp only [execOp, Instr.loadAt, Instr.sureAddr, Sem.run_bind, Sem.run_pure]
    rw [show (Act.eval _ (Operand.tmp 3)) = Value.pointer (some ⟨g, 0, none⟩) from rfl]
    simp only [Sem.run_pure, Result.andThen_ok, run_loadVar_row w' g 26 26 (lyC l) (0, 0) _ hSw Try.underlying26 rfl (by kernel_rfl)]
  (try simp only [List.getElem_toArray, List.getElem_cons_succ, List.getElem_cons_zero, Act.put, List.setIfInBounds_toArray, List.set_cons_zero, List.set_cons_succ])
  refine wpAnyH_take (i := 11) (oi := _) (v := .int .i64 a) rfl (by kernel_rfl) (by kernel_rfl) (by kernel_rfl) (fun _ _ _ h => h) (Or.inl ⟨by rfl, ?_⟩) k0 ?_
  · intro w' hSw
    (try simp only [List.getElem_toArray, List.getElem_cons_succ, List.getElem_cons_zero])
    go_simp
  (try simp only [List.getElem_toArray, List.getElem_cons_succ, List.getElem_cons_zero, Act.put, List.setIfInBounds_toArray, List.set_cons_zero, List.set_cons_succ])
  refine wpAnyH_take (i := 12) (oi := _) (v := .int .i64 b) rfl (by kernel_rfl) (by kernel_rfl) (by kernel_rfl) (fun _ _ _ h => h) (Or.inl ⟨by rfl, ?_⟩) k0 ?_
  · intro w' hSw
    (try simp only [List.getElem_toArray, List.getElem_cons_succ, List.getElem_cons_zero])
    go_simp
  (try simp only [List.getElem_toArray, List.getElem_cons_succ, List.getElem_cons_zero, Act.put, List.setIfInBounds_toArray, List.set_cons_zero, List.set_cons_succ])
  refine wpAnyH_take (i := 14) (oi := _) (v := .agg (lyC l)) rfl (by kernel_rfl) (by kernel_rfl) (by kernel_rfl) (fun _ _ _ h => h) (Or.inl ⟨by rfl, ?_⟩) k0 ?_
  · intro w' hSw
    (try simp only [List.getElem_toArray, List.getElem_cons_succ, List.getElem_cons_zero])
    simp only [execOp, Instr.loadAt, Instr.sureAddr, Sem.run_bind, Sem.run_pure]
    rw [show (Act.eval _ (Operand.tmp 3)) = Value.pointer (some ⟨g, 0, none⟩) from rfl]
    simp only [Sem.run_pure, Result.andThen_ok, run_loadVar_row w' g 26 26 (lyC l) (0, 0) _ hSw Try.underlying26 rfl (by kernel_rfl)]
  (try simp only [List.getElem_toArray, List.getElem_cons_succ, List.getElem_cons_zero, Act.put, List.setIfInBounds_toArray, List.set_cons_zero, List.set_cons_succ])
  refine wpAnyH_take (i := 15) (oi := _) (v := .int .i64 a) rfl (by kernel_rfl) (by kernel_rfl) (by kernel_rfl) (fun _ _ _ h => h) (Or.inl ⟨by rfl, ?_⟩) k0 ?_
  · intro w' hSw
    (try simp only [List.getElem_toArray, List.getElem_cons_succ, List.getElem_cons_zero])
    go_simp
  (try simp only [List.getElem_toArray, List.getElem_cons_succ, List.getElem_cons_zero, Act.put, List.setIfInBounds_toArray, List.set_cons_zero, List.set_cons_succ])
  refine wpAnyH_take (i := 16) (oi := _) (v := .int .i64 b) rfl (by kernel_rfl) (by kernel_rfl) (by kernel_rfl) (fun _ _ _ h => h) (Or.inl ⟨by rfl, ?_⟩) k0 ?_
  · intro w' hSw
    (try simp only [List.getElem_toArray, List.getElem_cons_succ, List.getElem_cons_zero])
    go_simp
  (try simp only [List.getElem_toArray, List.getElem_cons_succ, List.getElem_cons_zero, Act.put, List.setIfInBounds_toArray, List.set_cons_zero, List.set_cons_succ])
  refine wpAnyH_take (i := 18) (oi := _) (v := .agg (lyC l)) rfl (by kernel_rfl) (by kernel_rfl) (by kernel_rfl) (fun _ _ _ h => h) (Or.inl ⟨by rfl, ?_⟩) k0 ?_
  · intro w' hSw
    (try simp only [List.getElem_toArray, List.getElem_cons_succ, List.getElem_cons_zero])
    simp only [execOp, Instr.loadAt, Instr.sureAddr, Sem.run_bind, Sem.run_pure]
    rw [show (Act.eval _ (Operand.tmp 3)) = Value.pointer (some ⟨g, 0, none⟩) from rfl]
    simp only [Sem.run_pure, Result.andThen_ok, run_loadVar_row w' g 26 26 (lyC l) (0, 0) _ hSw Try.underlying26 rfl (by kernel_rfl)]
  (try simp only [List.getElem_toArray, List.getElem_cons_succ, List.getElem_cons_zero, Act.put, List.setIfInBounds_toArray, List.set_cons_zero, List.set_cons_succ])
  refine wpAnyH_take (i := 19) (oi := _) (v := .int .i64 a) rfl (by kernel_rfl) (by kernel_rfl) (by kernel_rfl) (fun _ _ _ h => h) (Or.inl ⟨by rfl, ?_⟩) k0 ?_
  · intro w' hSw
    (try simp only [List.getElem_toArray, List.getElem_cons_succ, List.getElem_cons_zero])
    go_simp
  (try simp only [List.getElem_toArray, List.getElem_cons_succ, List.getElem_cons_zero, Act.put, List.setIfInBounds_toArray, List.set_cons_zero, List.set_cons_succ])
  refine wpAnyH_take (i := 20) (oi := _) (v := .int .i64 b) rfl (by kernel_rfl) (by kernel_rfl) (by kernel_rfl) (fun _ _ _ h => h) (Or.inl ⟨by rfl, ?_⟩) k0 ?_
  · intro w' hSw
    (try simp only [List.getElem_toArray, List.getElem_cons_succ, List.getElem_cons_zero])
    go_simp
  (try simp only [List.getElem_toArray, List.getElem_cons_succ, List.getElem_cons_zero, Act.put, List.setIfInBounds_toArray, List.set_cons_zero, List.set_cons_succ])
  refine wpAnyH_take (i := 22) (oi := _) (v := .agg (lyC l)) rfl (by kernel_rfl) (by kernel_rfl) (by kernel_rfl) (fun _ _ _ h => h) (Or.inl ⟨by rfl, ?_⟩) k0 ?_
  · intro w' hSw
    (try simp only [List.getElem_toArray, List.getElem_cons_succ, List.getElem_cons_zero])
    simp only [execOp, Instr.loadAt, Instr.sureAddr, Sem.run_bind, Sem.run_pure]
    rw [show (Act.eval _ (Operand.tmp 3)) = Value.pointer (some ⟨g, 0, none⟩) from rfl]
    simp only [Sem.run_pure, Result.andThen_ok, run_loadVar_row w' g 26 26 (lyC l) (0, 0) _ hSw Try.underlying26 rfl (by kernel_rfl)]
  (try simp only [List.getElem_toArray, List.getElem_cons_succ, List.getElem_cons_zero, Act.put, List.setIfInBounds_toArray, List.set_cons_zero, List.set_cons_succ])
  refine wpAnyH_take (i := 23) (oi := _) (v := .int .i64 a) rfl (by kernel_rfl) (by kernel_rfl) (by kernel_rfl) (fun _ _ _ h => h) (Or.inl ⟨by rfl, ?_⟩) k0 ?_
  · intro w' hSw
    (try simp only [List.getElem_toArray, List.getElem_cons_succ, List.getElem_cons_zero])
    go_simp
  (try simp only [List.getElem_toArray, List.getElem_cons_succ, List.getElem_cons_zero, Act.put, List.setIfInBounds_toArray, List.set_cons_zero, List.set_cons_succ])
  refine wpAnyH_take (i := 25) (oi := _) (v := .agg (lyC l)) rfl (by kernel_rfl) (by kernel_rfl) (by kernel_rfl) (fun _ _ _ h => h) (Or.inl ⟨by rfl, ?_⟩) k0 ?_
  · intro w' hSw
    (try simp only [List.getElem_toArray, List.getElem_cons_succ, List.getElem_cons_zero])
    simp only [execOp, Instr.loadAt, Instr.sureAddr, Sem.run_bind, Sem.run_pure]
    rw [show (Act.eval _ (Operand.tmp 3)) = Value.pointer (some ⟨g, 0, none⟩) from rfl]
    simp only [Sem.run_pure, Result.andThen_ok, run_loadVar_row w' g 26 26 (lyC l) (0, 0) _ hSw Try.underlying26 rfl (by kernel_rfl)]
  (try simp only [List.getElem_toArray, List.getElem_cons_succ, List.getElem_cons_zero, Act.put, List.setIfInBounds_toArray, List.set_cons_zero, List.set_cons_succ])
  refine wpAnyH_take (i := 26) (oi := _) (v := .int .i64 a) rfl (by kernel_rfl) (by kernel_rfl) (by kernel_rfl) (fun _ _ _ h => h) (Or.inl ⟨by rfl, ?_⟩) k0 ?_
  · intro w' hSw
    (try simp only [List.getElem_toArray, List.getElem_cons_succ, List.getElem_cons_zero])
    go_simp
  (try simp only [List.getElem_toArray, List.getElem_cons_succ, List.getElem_cons_zero, Act.put, List.setIfInBounds_toArray, List.set_cons_zero, List.set_cons_succ])
  refine wpAnyH_take (i := 27) (oi := _) (v := .int .i64 b) rfl (by kernel_rfl) (by kernel_rfl) (by kernel_rfl) (fun _ _ _ h => h) (Or.inl ⟨by rfl, ?_⟩) k0 ?_
  · intro w' hSw
    (try simp only [List.getElem_toArray, List.getElem_cons_succ, List.getElem_cons_zero])
    go_simp
  (try simp only [List.getElem_toArray, List.getElem_cons_succ, List.getElem_cons_zero, Act.put, List.setIfInBounds_toArray, List.set_cons_zero, List.set_cons_succ])
  refine wpAnyH_take (i := 29) (oi := _) (v := .agg (lyC l)) rfl (by kernel_rfl) (by kernel_rfl) (by kernel_rfl) (fun _ _ _ h => h) (Or.inl ⟨by rfl, ?_⟩) k0 ?_
  · intro w' hSw
    (try simp only [List.getElem_toArray, List.getElem_cons_succ, List.getElem_cons_zero])
    simp only [execOp, Instr.loadAt, Instr.sureAddr, Sem.run_bind, Sem.run_pure]
    rw [show (Act.eval _ (Operand.tmp 3)) = Value.pointer (some ⟨g, 0, none⟩) from rfl]
    simp only [Sem.run_pure, Result.andThen_ok, run_loadVar_row w' g 26 26 (lyC l) (0, 0) _ hSw Try.underlying26 rfl (by kernel_rfl)]
  (try simp only [List.getElem_toArray, List.getElem_cons_succ, List.getElem_cons_zero, Act.put, List.setIfInBounds_toArray, List.set_cons_zero, List.set_cons_succ])
  refine wpAnyH_take (i := 30) (oi := _) (v := .int .i64 a) rfl (by kernel_rfl) (by kernel_rfl) (by kernel_rfl) (fun _ _ _ h => h) (Or.inl ⟨by rfl, ?_⟩) k0 ?_
  · intro w' hSw
    (try simp only [List.getElem_toArray, List.getElem_cons_succ, List.getElem_cons_zero])
    go_simp
  (try simp only [List.getElem_toArray, List.getElem_cons_succ, List.getElem_cons_zero, Act.put, List.setIfInBounds_toArray, List.set_cons_zero, List.set_cons_succ])
  refine wpAnyH_take (i := 31) (oi := _) (v := .int .i64 b) rfl (by kernel_rfl) (by kernel_rfl) (by kernel_rfl) (fun _ _ _ h => h) (Or.inl ⟨by rfl, ?_⟩) k0 ?_
  · intro w' hSw
    (try simp only [List.getElem_toArray, List.getElem_cons_succ, List.getElem_cons_zero])
    go_simp
  (try simp only [List.getElem_toArray, List.getElem_cons_succ, List.getElem_cons_zero, Act.put, List.setIfInBounds_toArray, List.set_cons_zero, List.set_cons_succ])
  refine wpAnyH_take (i := 33) (oi := _) (v := .agg (lyC l)) rfl (by kernel_rfl) (by kernel_rfl) (by kernel_rfl) (fun _ _ _ h => h) (Or.inl ⟨by rfl, ?_⟩) k0 ?_
  · intro w' hSw
    (try simp only [List.getElem_toArray, List.getElem_cons_succ, List.getElem_cons_zero])
    simp only [execOp, Instr.loadAt, Instr.sureAddr, Sem.run_bind, Sem.run_pure]
    rw [show (Act.eval _ (Operand.tmp 3)) = Value.pointer (some ⟨g, 0, none⟩) from rfl]
    simp only [Sem.run_pure, Result.andThen_ok, run_loadVar_row w' g 26 26 (lyC l) (0, 0) _ hSw Try.underlying26 rfl (by kernel_rfl)]
  (try simp only [List.getElem_toArray, List.getElem_cons_succ, List.getElem_cons_zero, Act.put, List.setIfInBounds_toArray, List.set_cons_zero, List.set_cons_succ])
  refine wpAnyH_take (i := 34) (oi := _) (v := .int .i64 a) rfl (by kernel_rfl) (by kernel_rfl) (by kernel_rfl) (fun _ _ _ h => h) (Or.inl ⟨by rfl, ?_⟩) k0 ?_
  · intro w' hSw
    (try simp only [List.getElem_toArray, List.getElem_cons_succ, List.getElem_cons_zero])
    go_simp
  (try simp only [List.getElem_toArray, List.getElem_cons_succ, List.getElem_cons_zero, Act.put, List.setIfInBounds_toArray, List.set_cons_zero, List.set_cons_succ])
  refine wpAnyH_take (i := 36) (oi := _) (v := .agg (lyC l)) rfl (by kernel_rfl) (by kernel_rfl) (by kernel_rfl) (fun _ _ _ h => h) (Or.inl ⟨by rfl, ?_⟩) k0 ?_
  · intro w' hSw
    (try simp only [List.getElem_toArray, List.getElem_cons_succ, List.getElem_cons_zero])
    simp only [execOp, Instr.loadAt, Instr.sureAddr, Sem.run_bind, Sem.run_pure]
    rw [show (Act.eval _ (Operand.tmp 3)) = Value.pointer (some ⟨g, 0, none⟩) from rfl]
    simp only [Sem.run_pure, Result.andThen_ok, run_loadVar_row w' g 26 26 (lyC l) (0, 0) _ hSw Try.underlying26 rfl (by kernel_rfl)]
  (try simp only [List.getElem_toArray, List.getElem_cons_succ, List.getElem_cons_zero, Act.put, List.setIfInBounds_toArray, List.set_cons_zero, List.set_cons_succ])
  refine wpAnyH_take (i := 37) (oi := _) (v := .int .i64 a) rfl (by kernel_rfl) (by kernel_rfl) (by kernel_rfl) (fun _ _ _ h => h) (Or.inl ⟨by rfl, ?_⟩) k0 ?_
  · intro w' hSw
    (try simp only [List.getElem_toArray, List.getElem_cons_succ, List.getElem_cons_zero])
    go_simp
  (try simp only [List.getElem_toArray, List.getElem_cons_succ, List.getElem_cons_zero, Act.put, List.setIfInBounds_toArray, List.set_cons_zero, List.set_cons_succ])
  refine wpAnyH_take (i := 38) (oi := _) (v := .int .i64 b) rfl (by kernel_rfl) (by kernel_rfl) (by kernel_rfl) (fun _ _ _ h => h) (Or.inl ⟨by rfl, ?_⟩) k0 ?_
  · intro w' hSw
    (try simp only [List.getElem_toArray, List.getElem_cons_succ, List.getElem_cons_zero])
    go_simp
  (try simp only [List.getElem_toArray, List.getElem_cons_succ, List.getElem_cons_zero, Act.put, List.setIfInBounds_toArray, List.set_cons_zero, List.set_cons_succ])
  refine wpAnyH_take (i := 40) (oi := _) (v := .agg (lyC l)) rfl (by kernel_rfl) (by kernel_rfl) (by kernel_rfl) (fun _ _ _ h => h) (Or.inl ⟨by rfl, ?_⟩) k0 ?_
  · intro w' hSw
    (try simp only [List.getElem_toArray, List.getElem_cons_succ, List.getElem_cons_zero])
    simp only [execOp, Instr.loadAt, Instr.sureAddr, Sem.run_bind, Sem.run_pure]
    rw [show (Act.eval _ (Operand.tmp 3)) = Value.pointer (some ⟨g, 0, none⟩) from rfl]
    simp only [Sem.run_pure, Result.andThen_ok, run_loadVar_row w' g 26 26 (lyC l) (0, 0) _ hSw Try.underlying26 rfl (by kernel_rfl)]
  (try simp only [List.getElem_toArray, List.getElem_cons_succ, List.getElem_cons_zero, Act.put, List.setIfInBounds_toArray, List.set_cons_zero, List.set_cons_succ])
  refine wpAnyH_take (i := 41) (oi := _) (v := .int .i64 a) rfl (by kernel_rfl) (by kernel_rfl) (by kernel_rfl) (fun _ _ _ h => h) (Or.inl ⟨by rfl, ?_⟩) k0 ?_
  · intro w' hSw
    (try simp only [List.getElem_toArray, List.getElem_cons_succ, List.getElem_cons_zero])
    go_simp
  (try simp only [List.getElem_toArray, List.getElem_cons_succ, List.getElem_cons_zero, Act.put, List.setIfInBounds_toArray, List.set_cons_zero, List.set_cons_succ])
  refine wpAnyH_take (i := 43) (oi := _) (v := .agg (lyC l)) rfl (by kernel_rfl) (by kernel_rfl) (by kernel_rfl) (fun _ _ _ h => h) (Or.inl ⟨by rfl, ?_⟩) k0 ?_
  · intro w' hSw
    (try simp only [List.getElem_toArray, List.getElem_cons_succ, List.getElem_cons_zero])
    simp only [execOp, Instr.loadAt, Instr.sureAddr, Sem.run_bind, Sem.run_pure]
    rw [show (Act.eval _ (Operand.tmp 3)) = Value.pointer (some ⟨g, 0, none⟩) from rfl]
    simp only [Sem.run_pure, Result.andThen_ok, run_loadVar_row w' g 26 26 (lyC l) (0, 0) _ hSw Try.underlying26 rfl (by kernel_rfl)]
  (try simp only [List.getElem_toArray, List.getElem_cons_succ, List.getElem_cons_zero, Act.put, List.setIfInBounds_toArray, List.set_cons_zero, List.set_cons_succ])
  refine wpAnyH_take (i := 44) (oi := _) (v := .int .i64 a) rfl (by kernel_rfl) (by kernel_rfl) (by kernel_rfl) (fun _ _ _ h => h) (Or.inl ⟨by rfl, ?_⟩) k0 ?_
  · intro w' hSw
    (try simp only [List.getElem_toArray, List.getElem_cons_succ, List.getElem_cons_zero])
    go_simp
  (try simp only [List.getElem_toArray, List.getElem_cons_succ, List.getElem_cons_zero, Act.put, List.setIfInBounds_toArray, List.set_cons_zero, List.set_cons_succ])
  refine wpAnyH_take (i := 46) (oi := _) (v := .agg (lyC l)) rfl (by kernel_rfl) (by kernel_rfl) (by kernel_rfl) (fun _ _ _ h => h) (Or.inl ⟨by rfl, ?_⟩) k0 ?_
  · intro w' hSw
    (try simp only [List.getElem_toArray, List.getElem_cons_succ, List.getElem_cons_zero])
    simp only [execOp, Instr.loadAt, Instr.sureAddr, Sem.run_bind, Sem.run_pure]
    rw [show (Act.eval _ (Operand.tmp 3)) = Value.pointer (some ⟨g, 0, none⟩) from rfl]
    simp only [Sem.run_pure, Result.andThen_ok, run_loadVar_row w' g 26 26 (lyC l) (0, 0) _ hSw Try.underlying26 rfl (by kernel_rfl)]
  (try simp only [List.getElem_toArray, List.getElem_cons_succ, List.getElem_cons_zero, Act.put, List.setIfInBounds_toArray, List.set_cons_zero, List.set_cons_succ])
  refine wpAnyH_take (i := 47) (oi := _) (v := .int .i64 a) rfl (by kernel_rfl) (by kernel_rfl) (by kernel_rfl) (fun _ _ _ h => h) (Or.inl ⟨by rfl, ?_⟩) k0 ?_
  · intro w' hSw
    (try simp only [List.getElem_toArray, List.getElem_cons_succ, List.getElem_cons_zero])
    go_simp
  (try simp only [List.getElem_toArray, List.getElem_cons_succ, List.getElem_cons_zero, Act.put, List.setIfInBounds_toArray, List.set_cons_zero, List.set_cons_succ])
  refine wpAnyH_take (i := 48) (oi := _) (v := .int .i64 b) rfl (by kernel_rfl) (by kernel_rfl) (by kernel_rfl) (fun _ _ _ h => h) (Or.inl ⟨by rfl, ?_⟩) k0 ?_
  · intro w' hSw
    (try simp only [List.getElem_toArray, List.getElem_cons_succ, List.getElem_cons_zero])
    go_simp
  (try simp only [List.getElem_toArray, List.getElem_cons_succ, List.getElem_cons_zero, Act.put, List.setIfInBounds_toArray, List.set_cons_zero, List.set_cons_succ])
  refine wpAnyH_ready (rs := [2]) (by kernel_rfl) (by simp) ?_
  refine AllReadyH.cons (o := _) rfl (fun K hK => ?_) AllReadyH.nil
  (try simp only [List.getElem_toArray, List.getElem_cons_succ, List.getElem_cons_zero])
  go_simp
  (with_reducible refine (ralive_any l a _ f).mono ?_)
  rintro e w3 ⟨rfl, hb⟩
  replace k0 := k0.keep hb
  replace hbl := below_tr hbl hb
  clear hb
  refine hK.out _ _ k0 (fun hS' => ?_)
  clear hS' hK K
  (try simp only [List.getElem_toArray, List.getElem_cons_succ, List.getElem_cons_zero, Act.put, List.setIfInBounds_toArray, List.set_cons_zero, List.set_cons_succ])
  refine wpAnyH_ready (rs := [5]) (by kernel_rfl) (by simp) ?_
  refine AllReadyH.cons (o := _) rfl (fun K hK => ?_) AllReadyH.nil
  (try simp only [List.getElem_toArray, List.getElem_cons_succ, List.getElem_cons_zero])
  go_simp
  (with_reducible refine (rowner_any l a _ f).mono ?_)
  rintro e w3 ⟨rfl, hb⟩
  replace k0 := k0.keep hb
  replace hbl := below_tr hbl hb
  clear hb
  refine hK.out _ _ k0 (fun hS' => ?_)
  clear hS' hK K
  (try simp only [List.getElem_toArray, List.getElem_cons_succ, List.getElem_cons_zero, Act.put, List.setIfInBounds_toArray, List.set_cons_zero, List.set_cons_succ])
  refine wpAnyH_ready (rs := [9]) (by kernel_rfl) (by simp) ?_
  refine AllReadyH.cons (o := _) rfl (fun K hK => ?_) AllReadyH.nil
  (try simp only [List.getElem_toArray, List.getElem_cons_succ, List.getElem_cons_zero])
  go_simp
  (with_reducible refine (rresv_any l a b _ f).mono ?_)
  rintro e w3 ⟨rfl, hb⟩
  replace k0 := k0.keep hb
  replace hbl := below_tr hbl hb
  clear hb
  refine hK.out _ _ k0 (fun hS' => ?_)
  clear hS' hK K
  (try simp only [List.getElem_toArray, List.getElem_cons_succ, List.getElem_cons_zero, Act.put, List.setIfInBounds_toArray, List.set_cons_zero, List.set_cons_succ])
  refine wpAnyH_ready (rs := [13]) (by kernel_rfl) (by simp) ?_
  refine AllReadyH.cons (o := _) rfl (fun K hK => ?_) AllReadyH.nil
  (try simp only [List.getElem_toArray, List.getElem_cons_succ, List.getElem_cons_zero])
  go_simp
  (with_reducible refine (rdeque_any l a b _ f).mono ?_)
  rintro e w3 ⟨rfl, hb⟩
  replace k0 := k0.keep hb
  replace hbl := below_tr hbl hb
  clear hb
  refine hK.out _ _ k0 (fun hS' => ?_)
  clear hS' hK K
  (try simp only [List.getElem_toArray, List.getElem_cons_succ, List.getElem_cons_zero, Act.put, List.setIfInBounds_toArray, List.set_cons_zero, List.set_cons_succ])
  refine wpAnyH_ready (rs := [17]) (by kernel_rfl) (by simp) ?_
  refine AllReadyH.cons (o := _) rfl (fun K hK => ?_) AllReadyH.nil
  (try simp only [List.getElem_toArray, List.getElem_cons_succ, List.getElem_cons_zero])
  go_simp
  (with_reducible refine (rring_any l a b _ f2).mono ?_)
  rintro e w3 ⟨rfl, hb⟩
  replace k0 := k0.keep hb
  replace hbl := below_tr hbl hb
  clear hb
  refine hK.out _ _ k0 (fun hS' => ?_)
  clear hS' hK K
  (try simp only [List.getElem_toArray, List.getElem_cons_succ, List.getElem_cons_zero, Act.put, List.setIfInBounds_toArray, List.set_cons_zero, List.set_cons_succ])
  refine wpAnyH_ready (rs := [21]) (by kernel_rfl) (by simp) ?_
  refine AllReadyH.cons (o := _) rfl (fun K hK => ?_) AllReadyH.nil
  (try simp only [List.getElem_toArray, List.getElem_cons_succ, List.getElem_cons_zero])
  go_simp
  (with_reducible refine (rtask_any l a b _ f).mono ?_)
  rintro e w3 ⟨rfl, hb⟩
  replace k0 := k0.keep hb
  replace hbl := below_tr hbl hb
  clear hb
  refine hK.out _ _ k0 (fun hS' => ?_)
  clear hS' hK K
  (try simp only [List.getElem_toArray, List.getElem_cons_succ, List.getElem_cons_zero, Act.put, List.setIfInBounds_toArray, List.set_cons_zero, List.set_cons_succ])
  refine wpAnyH_ready (rs := [24]) (by kernel_rfl) (by simp) ?_
  refine AllReadyH.cons (o := _) rfl (fun K hK => ?_) AllReadyH.nil
  (try simp only [List.getElem_toArray, List.getElem_cons_succ, List.getElem_cons_zero])
  go_simp
  (with_reducible refine (rcell_any l a _ f).mono ?_)
  rintro e w3 ⟨rfl, hb⟩
  replace k0 := k0.keep hb
  replace hbl := below_tr hbl hb
  clear hb
  refine hK.out _ _ k0 (fun hS' => ?_)
  clear hS' hK K
  (try simp only [List.getElem_toArray, List.getElem_cons_succ, List.getElem_cons_zero, Act.put, List.setIfInBounds_toArray, List.set_cons_zero, List.set_cons_succ])
  refine wpAnyH_ready (rs := [28]) (by kernel_rfl) (by simp) ?_
  refine AllReadyH.cons (o := _) rfl (fun K hK => ?_) AllReadyH.nil
  (try simp only [List.getElem_toArray, List.getElem_cons_succ, List.getElem_cons_zero])
  go_simp
  (with_reducible refine (rmap_any l a b _ f).mono ?_)
  rintro e w3 ⟨rfl, hb⟩
  replace k0 := k0.keep hb
  replace hbl := below_tr hbl hb
  clear hb
  refine hK.out _ _ k0 (fun hS' => ?_)
  clear hS' hK K
  (try simp only [List.getElem_toArray, List.getElem_cons_succ, List.getElem_cons_zero, Act.put, List.setIfInBounds_toArray, List.set_cons_zero, List.set_cons_succ])
  refine wpAnyH_ready (rs := [32]) (by kernel_rfl) (by simp) ?_
  refine AllReadyH.cons (o := _) rfl (fun K hK => ?_) AllReadyH.nil
  (try simp only [List.getElem_toArray, List.getElem_cons_succ, List.getElem_cons_zero])
  go_simp
  (with_reducible refine (rbucket_any l a b _ f).mono ?_)
  rintro e w3 ⟨rfl, hb⟩
  replace k0 := k0.keep hb
  replace hbl := below_tr hbl hb
  clear hb
  refine hK.out _ _ k0 (fun hS' => ?_)
  clear hS' hK K
  (try simp only [List.getElem_toArray, List.getElem_cons_succ, List.getElem_cons_zero, Act.put, List.setIfInBounds_toArray, List.set_cons_zero, List.set_cons_succ])
  refine wpAnyH_ready (rs := [35]) (by kernel_rfl) (by simp) ?_
  refine AllReadyH.cons (o := _) rfl (fun K hK => ?_) AllReadyH.nil
  (try simp only [List.getElem_toArray, List.getElem_cons_succ, List.getElem_cons_zero])
  go_simp
  (with_reducible refine (rtop_any l a _ f).mono ?_)
  rintro e w3 ⟨rfl, hb⟩
  replace k0 := k0.keep hb
  replace hbl := below_tr hbl hb
  clear hb
  refine hK.out _ _ k0 (fun hS' => ?_)
  clear hS' hK K
  (try simp only [List.getElem_toArray, List.getElem_cons_succ, List.getElem_cons_zero, Act.put, List.setIfInBounds_toArray, List.set_cons_zero, List.set_cons_succ])
  refine wpAnyH_ready (rs := [39]) (by kernel_rfl) (by simp) ?_
  refine AllReadyH.cons (o := _) rfl (fun K hK => ?_) AllReadyH.nil
  (try simp only [List.getElem_toArray, List.getElem_cons_succ, List.getElem_cons_zero])
  go_simp
  (with_reducible refine (rslot_any l a b _ f).mono ?_)
  rintro e w3 ⟨rfl, hb⟩
  replace k0 := k0.keep hb
  replace hbl := below_tr hbl hb
  clear hb
  refine hK.out _ _ k0 (fun hS' => ?_)
  clear hS' hK K
  (try simp only [List.getElem_toArray, List.getElem_cons_succ, List.getElem_cons_zero, Act.put, List.setIfInBounds_toArray, List.set_cons_zero, List.set_cons_succ])
  refine wpAnyH_ready (rs := [42]) (by kernel_rfl) (by simp) ?_
  refine AllReadyH.cons (o := _) rfl (fun K hK => ?_) AllReadyH.nil
  (try simp only [List.getElem_toArray, List.getElem_cons_succ, List.getElem_cons_zero])
  go_simp
  (with_reducible refine (rhead_any l a _ f).mono ?_)
  rintro e w3 ⟨rfl, hb⟩
  replace k0 := k0.keep hb
  replace hbl := below_tr hbl hb
  clear hb
  refine hK.out _ _ k0 (fun hS' => ?_)
  clear hS' hK K
  (try simp only [List.getElem_toArray, List.getElem_cons_succ, List.getElem_cons_zero, Act.put, List.setIfInBounds_toArray, List.set_cons_zero, List.set_cons_succ])
  refine wpAnyH_ready (rs := [45]) (by kernel_rfl) (by simp) ?_
  refine AllReadyH.cons (o := _) rfl (fun K hK => ?_) AllReadyH.nil
  (try simp only [List.getElem_toArray, List.getElem_cons_succ, List.getElem_cons_zero])
  go_simp
  (with_reducible refine (rtail_any l a _ f).mono ?_)
  rintro e w3 ⟨rfl, hb⟩
  replace k0 := k0.keep hb
  replace hbl := below_tr hbl hb
  clear hb
  refine hK.out _ _ k0 (fun hS' => ?_)
  clear hS' hK K
  (try simp only [List.getElem_toArray, List.getElem_cons_succ, List.getElem_cons_zero, Act.put, List.setIfInBounds_toArray, List.set_cons_zero, List.set_cons_succ])
  refine wpAnyH_ready (rs := [49]) (by kernel_rfl) (by simp) ?_
  refine AllReadyH.cons (o := _) rfl (fun K hK => ?_) AllReadyH.nil
  (try simp only [List.getElem_toArray, List.getElem_cons_succ, List.getElem_cons_zero])
  go_simp
  (with_reducible refine (rnode_any l a b _ f).mono ?_)
  rintro e w3 ⟨rfl, hb⟩
  replace k0 := k0.keep hb
  replace hbl := below_tr hbl hb
  clear hb
  refine hK.out _ _ k0 (fun hS' => ?_)
  clear hS' hK K
  (try simp only [List.getElem_toArray, List.getElem_cons_succ, List.getElem_cons_zero, Act.put, List.setIfInBounds_toArray, List.set_cons_zero, List.set_cons_succ])
  refine wpAnyH_ready (rs := [50]) (by kernel_rfl) (by simp) ?_
  refine AllReadyH.cons (o := _) rfl (fun K hK => ?_) AllReadyH.nil
  rw [if_pos (by rfl)]
  refine wp_row 14 _ rfl (rowAt l a b) rfl (by omega) (by omega) (by rw [List.map_toArray]; rfl) ?_
  have kr := Bk.made w3 3 ((rowAt l a b).map (Value.int .i64)).toArray
  replace k0 := k0.alloc (.cells ((rowAt l a b).map (Value.int .i64)).toArray 3)
  replace hbl := below_al hbl (.cells ((rowAt l a b).map (Value.int .i64)).toArray 3)
  refine hK.out _ _ k0 (fun hS' => ?_)
  clear hS' hK K
  (try simp only [List.getElem_toArray, List.getElem_cons_succ, List.getElem_cons_zero, Act.put, List.setIfInBounds_toArray, List.set_cons_zero, List.set_cons_succ])
  generalize w3.alloc (.cells ((rowAt l a b).map (Value.int .i64)).toArray 3) = w4 at *
  generalize w3.heap.size = g4 at *
  refine wpAnyH_take (i := 51) (oi := _) (v := .slice (some ⟨g4, 0, none⟩) 14 14) rfl (by kernel_rfl) (by kernel_rfl) (by kernel_rfl) (fun _ _ _ h => h) (Or.inl ⟨by rfl, ?_⟩) k0 ?_
  · intro w' hSw
    (try simp only [List.getElem_toArray, List.getElem_cons_succ, List.getElem_cons_zero])
    go_simp
  (try simp only [List.getElem_toArray, List.getElem_cons_succ, List.getElem_cons_zero, Act.put, List.setIfInBounds_toArray, List.set_cons_zero, List.set_cons_succ])
  refine wpAnyH_done (by kernel_rfl) ?_ _
  go_wp2
  go_ret
  exact ⟨g4, rfl, kr, hbl⟩
end Go.Proofs.Ythaieabhlodajaa
