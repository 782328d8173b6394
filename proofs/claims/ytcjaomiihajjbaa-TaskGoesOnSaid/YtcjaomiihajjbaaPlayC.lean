/- underwoodref02.New; law25.begin. Printed by begin_gen.py. -/
import Derived.Test.YtcjaomiihajjbaaTaskB
import Derived.Test.YtcjaomiihajjbaaMemA
import Derived.Laws.MakeOwn
namespace Go.Proofs.Ytcjaomiihajjbaa
open Go.RowKit
attribute [local go_sem ↓] Go.wp_at_zero Go.wp_at_succ

theorem made_ints (N : Nat) : madeCells #[Value.int .i64 0] N = (ints (List.replicate N 0)).toArray := by
  apply Array.ext
  · simp [madeCells, ints]
  · intro i h1 h2
    simp [madeCells, Nat.mod_one, ints]
/-- make of a row, all of its cells at once. -/
theorem run_make_row {t e : TypeId} {z : Value} {sz bytes : Nat} (ht : Try.prog.underlying t = some (.slice e)) (hinf : (Try.prog.info? e).map (fun i => (i.zero, i.size, i.bytes)) = some (some z, sz, bytes)) (w : World) (N : Nat) (h : N ≤ 1000000) (hb : bytes ≤ 10000) :
    (Instr.makeSlice t (.int .i64 N) (.int .i64 N)).run Try.prog w = .ok (.slice (some ⟨w.heap.size, 0, none⟩) N N) (w.alloc (.cells (madeCells z.cells (N * sz)) e)) := by
  obtain ⟨i, hi, hz0, hz1, hz2⟩ := info_parts hinf
  have hm : bytes * N ≤ 10000 * 1000000 := Nat.mul_le_mul hb h
  have hm' : (i.bytes : Int) * N ≤ 281474976710656 := by
    rw [hz2]
    have : ((bytes * N : Nat) : Int) ≤ 10000000000 := by omega
    rw [Int.natCast_mul] at this
    omega
  have hr := run_make (P := Try.prog) w t e i _ ht hi hz0 .i64 .i64 N N (by omega) (by omega) hm' (by omega)
  rw [hz1, Int.toNat_natCast] at hr
  exact hr
theorem wpList_make_row {ops : Array Oper} {rest : List Oper} {o : Oper} {a : Act} {w : World} {Q : Exit → Act → World → Prop} (hg : o.guard = none) {t e : TypeId} (x y : Operand) (ho : o.op = .makeSlice t x y) (N : Nat) (cs : Array Value) (hx : a.eval x = .int .i64 N) (hy : a.eval y = .int .i64 N)
    (hr : (Instr.makeSlice t (.int .i64 N) (.int .i64 N)).run Try.prog w = .ok (.slice (some ⟨w.heap.size, 0, none⟩) N N) (w.alloc (.cells cs e)))
    (h : wpList Try.prog ops Q rest (a.put o.dst (.slice (some ⟨w.heap.size, 0, none⟩) N N)) (w.alloc (.cells cs e))) : wpList Try.prog ops Q (o :: rest) a w :=
  wpList_plain hg fun _ hK => by
    unfold Oper.wp execOp
    simp only [ho, hx, hy, Sem.run_bind, hr, Result.andThen_ok]
    exact hK _ _ h
theorem run_make_ints (w : World) (N : Nat) (h : N ≤ 1000000) :
    (Instr.makeSlice 37 (.int .i64 N) (.int .i64 N)).run Try.prog w = .ok (.slice (some ⟨w.heap.size, 0, none⟩) N N) (w.alloc (.cells (ints (List.replicate N 0)).toArray 3)) := by
  rw [run_make_row Try.underlying37 int_info w N h (by omega), Nat.mul_one]
  show Result.ok _ (w.alloc (.cells (madeCells #[Value.int .i64 0] N) 3)) = _
  rw [made_ints]
theorem own_row {w : World} {g : Nat} {e : TypeId} {sz n : Nat} {cs : Array Value} {base : Nat} (k : Bk w g e cs) (hs : cs.size = n * sz) (hb : base ≤ g) (hm : n ≤ maxLen) : w.ownsRow base e sz (.slice (some ⟨g, 0, none⟩) n n) n cs.toList :=
  ⟨by simp [hs], .inr ⟨g, n, cs, rfl, hb, k, Nat.le_refl _, hm, hs, by rw [List.take_of_length_le (by simp [hs])]⟩⟩
/-- A memory of so many cells, all 0, made anew. -/
def NewMem (n : Nat) (w : World) (e : Ending) (w' : World) : Prop :=
  ∃ g, e = .returned (memV (some ⟨g, 0, none⟩) n n) ∧ OwnInts w' w.heap.size (.slice (some ⟨g, 0, none⟩) n n) (List.replicate n 0) ∧ Below w.heap.size w w'
set_option maxHeartbeats 1000000 in
theorem new_any (n : Nat) (w : World) (hn : n ≤ 1000000) : Calls Try.prog 21 #[.int .i64 n] w (NewMem n w) := by
  go_enter Try.func21, Try.ntmps21
  go_wp2_with (refine wpList_make_row rfl _ _ rfl n _ rfl rfl (run_make_ints _ n hn) ?_)
  refine bodyPost_ret (v := memV (some ⟨w.heap.size + 1, 0, none⟩) n n) (by simp [results, Try.results21, go_sem]) rfl ⟨_, rfl, ?_, below_al (below_al (Below.refl _ _) _) _⟩
  have := own_row (base := w.heap.size) (n := n) (sz := 1) (Bk.new (w.alloc (.cells #[.slice (some ⟨w.heap.size + 1, 0, none⟩) n n] 39)) (g := w.heap.size + 1) (by simp) 3 (ints (List.replicate n 0)).toArray) (by simp [ints]) (by omega) (by simp only [maxLen]; omega)
  simpa [OwnInts] using this

structure TkOk (l : Ly) : Prop where
  fit : TkFit l
  t1 : 1 ≤ l.c.tasks
  c0 : 0 ≤ l.count
  c1 : l.count < l.task
  d0 : 0 ≤ l.done
  d1 : l.done < l.task
  dc : l.done ≠ l.count
  ts : l.task + 4 * l.c.tasks ≤ l.size
  s1 : l.size ≤ 1000
def beginA (l : Ly) : List Acc := [⟨2, l.count, 0, 1⟩, ⟨2, taskAt l 1 0, 0, 2⟩, ⟨2, taskAt l 1 1, 0, 1⟩]
def beginM (l : Ly) : List Int := allCells (List.replicate l.size.toNat 0) (beginA l)
theorem beginM_length (l : Ly) : (beginM l).length = l.size.toNat := by simp [beginM, allCells_length]
theorem taskAt_in (l : Ly) {a b : Int} (h1 : 1 ≤ a) (h2 : a ≤ l.c.tasks) (h3 : 0 ≤ b) (h4 : b < 4) : taskAt l a b = l.task + (a - 1) * 4 + b := by unfold taskAt; rw [if_pos ⟨h1, h2, h3, h4⟩]
theorem begin_ok {l : Ly} (h : TkOk l) : allErr (List.replicate l.size.toNat 0) (beginA l) = 0 := by
  obtain ⟨⟨k0, k1, t0, t1⟩, t2, c0, c1, d0, d1, dc, ts, s1⟩ := h
  have e1 : taskAt l 1 0 = l.task := by rw [taskAt_in l (by omega) (by omega) (by omega) (by omega)]; omega
  have e2 : taskAt l 1 1 = l.task + 1 := by rw [taskAt_in l (by omega) (by omega) (by omega) (by omega)]; omega
  simp only [beginA, allErr, Acc.make_length, List.length_replicate, Acc.err, Acc.right, e1, e2]
  have hs : ((l.size.toNat : Nat) : Int) = l.size := by omega
  rw [hs]
  have g1 : l.count < l.size := by omega
  have g2 : l.task < l.size := by omega
  have g3 : l.task + 1 < l.size := by omega
  have g4 : 0 ≤ l.task + 1 := by omega
  simp [c0, k0, g1, g2, g3, g4]
theorem all_n (A B : Option Addr) (M c d n k : Nat) (zs : List Int) (l : List Acc) (w : World) (hn : zs.length = n) (hk : l.length = k) (hB : M ≤ w.heap.size) (hM : MemAt w M A n c zs) (hl : SlAcc w w.heap.size B l) (hm : n ≤ 1000000) (hm2 : l.length ≤ 1000000) :
    Calls Try.prog 20 #[memV A n c, .slice B k d] w (AllOut M zs l w) := by
  subst hn hk
  exact all_any A B M c d zs l w hB hM hl hm hm2
theorem own_ne {w : World} {base g n m cap sz : Nat} {e : TypeId} {xs : List Value} (h : w.ownsRow base e sz (.slice (some ⟨g, 0, none⟩) m cap) n xs) {b : Nat} {t : TypeId} {cs : Array Value} (k : Bk w b t cs) (hne : t ≠ e) : b ≠ g := by
  rcases h.2 with ⟨h1, _⟩ | ⟨g', cap', cur, h1, _, h2, _⟩
  · cases h1
  · injection h1 with h1 _ _
    injection h1 with h1
    injection h1 with h1
    subst h1
    rintro rfl
    rw [Bk, h2] at k
    injection k with k
    injection k with _ k _
    exact hne k.symm
theorem memAt_own {w : World} {A : Option Addr} {n c : Nat} {zs : List Int} (h : MemAt w 0 A n c zs) (hn : 0 < n) : ∃ g, A = some ⟨g, 0, none⟩ ∧ OwnInts w 0 (.slice (some ⟨g, 0, none⟩) n c) zs := by
  rcases h.2 with h' | h'
  · obtain ⟨b, o, _, hb, _⟩ := h'.2 hn
    omega
  · obtain ⟨g, cap, he, _, _⟩ := World.ownsRow.form h' (by rw [h.1]; exact hn)
    injection he with he _ _
    subst he
    exact ⟨g, rfl, h'⟩
/-- A memory with these cells. -/
def MemIs (zs : List Int) (w : World) (e : Ending) (w' : World) : Prop :=
  ∃ g c, e = .returned (memV (some ⟨g, 0, none⟩) zs.length c) ∧ OwnInts w' 0 (.slice (some ⟨g, 0, none⟩) zs.length c) zs ∧ Below w.heap.size w w'
set_option maxRecDepth 100000 in
set_option maxHeartbeats 4000000 in
theorem begin_any (l : Ly) (w : World) (h : TkOk l) : Calls Try.prog 12 #[lyV l] w (MemIs (beginM l) w) := by
  have f := Lib.hid h.fit
  have HB := Lib.hid (begin_ok h)
  have k0 := (Bk.made w 34 (lyC l)).alloc (.cells #[.slice none 0 0] 39)
  have k1 := Bk.new (w.alloc (.cells (lyC l) 34)) (g := w.heap.size + 1) (by simp) 39 #[.slice none 0 0]
  have hbl := below_al (below_al (Below.refl w.heap.size w) (.cells (lyC l) 34)) (.cells #[.slice none 0 0] 39)
  have hs0 : 1 ≤ l.size := by have := h.ts; have := h.fit.k0; have := h.t1; omega
  have hs1 : l.size ≤ 1000 := h.s1
  clear h
  go_enter Try.func12, Try.ntmps12
  go_wp2_with fail
  refine wp_region_held_drew (S := fun w' => Bk w' w.heap.size 34 (lyC l)) (by kernel_rfl) k0.drew (fun hHeld => ?_)
  clear hHeld
  replace k0 := k0.drew
  replace k1 := k1.drew
  replace hbl := hbl.drew
  generalize ((w.alloc (.cells (lyC l) 34)).alloc (.cells #[.slice none 0 0] 39)).drew = w1 at *
  refine wpAnyH_take (i := 0) (oi := _) (v := .pointer (some ⟨w.heap.size, 10, none⟩)) rfl (by kernel_rfl) (by kernel_rfl) (by kernel_rfl) (fun _ _ _ h => h) (Or.inl ⟨by rfl, ?_⟩) k0 ?_
  · intro w' hSw
    (try simp only [List.getElem_toArray, List.getElem_cons_zero])
    go_simp
  (try simp only [List.getElem_toArray, List.getElem_cons_zero, Act.put, List.setIfInBounds_toArray, List.set_cons_zero, List.set_cons_succ])
  refine wpAnyH_take (i := 1) (oi := _) (v := .int .i64 l.count) rfl (by kernel_rfl) (by kernel_rfl) (by kernel_rfl) (fun _ _ _ h => h) (Or.inl ⟨by rfl, ?_⟩) k0 ?_
  · intro w' hSw
    have s1 := hSw.cell 10
    simp at s1
    (try simp only [List.getElem_toArray, List.getElem_cons_succ, List.getElem_cons_zero])
    go_simp
  (try simp only [List.getElem_toArray, List.getElem_cons_succ, List.getElem_cons_zero, Act.put, List.setIfInBounds_toArray, List.set_cons_zero, List.set_cons_succ])
  refine wpAnyH_take (i := 2) (oi := _) (v := .agg #[.int .i64 2, .int .i64 l.count, .int .i64 0, .int .i64 1]) rfl (by kernel_rfl) (by kernel_rfl) (by kernel_rfl) (fun _ _ _ h => h) (Or.inl ⟨by rfl, ?_⟩) k0 ?_
  · intro w' hSw
    (try simp only [List.getElem_toArray, List.getElem_cons_succ, List.getElem_cons_zero])
    go_simp
  (try simp only [List.getElem_toArray, List.getElem_cons_succ, List.getElem_cons_zero, Act.put, List.setIfInBounds_toArray, List.set_cons_zero, List.set_cons_succ])
  refine wpAnyH_take (i := 3) (oi := _) (v := .agg (lyC l)) rfl (by kernel_rfl) (by kernel_rfl) (by kernel_rfl) (fun _ _ _ h => h) (Or.inl ⟨by rfl, ?_⟩) k0 ?_
  · intro w' hSw
    (try simp only [List.getElem_toArray, List.getElem_cons_succ, List.getElem_cons_zero])
    simp only [execOp, Instr.loadAt, Instr.sureAddr, Sem.run_bind, Sem.run_pure]
    rw [show (Act.eval _ (Operand.tmp 1)) = Value.pointer (some ⟨w.heap.size, 0, none⟩) from rfl]
    simp only [Sem.run_pure, Result.andThen_ok, run_loadVar_row w' w.heap.size 34 34 (lyC l) (0, 0) _ hSw Try.underlying34 rfl (by kernel_rfl)]
  (try simp only [List.getElem_toArray, List.getElem_cons_succ, List.getElem_cons_zero, Act.put, List.setIfInBounds_toArray, List.set_cons_zero, List.set_cons_succ])
  refine wpAnyH_take (i := 6) (oi := _) (v := .agg (lyC l)) rfl (by kernel_rfl) (by kernel_rfl) (by kernel_rfl) (fun _ _ _ h => h) (Or.inl ⟨by rfl, ?_⟩) k0 ?_
  · intro w' hSw
    (try simp only [List.getElem_toArray, List.getElem_cons_succ, List.getElem_cons_zero])
    simp only [execOp, Instr.loadAt, Instr.sureAddr, Sem.run_bind, Sem.run_pure]
    rw [show (Act.eval _ (Operand.tmp 1)) = Value.pointer (some ⟨w.heap.size, 0, none⟩) from rfl]
    simp only [Sem.run_pure, Result.andThen_ok, run_loadVar_row w' w.heap.size 34 34 (lyC l) (0, 0) _ hSw Try.underlying34 rfl (by kernel_rfl)]
  (try simp only [List.getElem_toArray, List.getElem_cons_succ, List.getElem_cons_zero, Act.put, List.setIfInBounds_toArray, List.set_cons_zero, List.set_cons_succ])
  refine wpAnyH_ready (rs := [4]) (by kernel_rfl) (by simp) ?_
  refine AllReadyH.cons (o := _) rfl (fun K hK => ?_) AllReadyH.nil
  (try simp only [List.getElem_toArray, List.getElem_cons_succ, List.getElem_cons_zero])
  go_simp
  (with_reducible refine (task_any l 1 0 _ f.out (by omega)).mono ?_)
  rintro e w2 ⟨rfl, hb⟩
  replace k0 := k0.keep hb
  replace k1 := k1.keep hb
  replace hbl := below_tr hbl hb
  clear hb
  obtain ⟨c0, hc0⟩ : ∃ c, taskAt l 1 0 = c := ⟨_, rfl⟩
  rw [hc0]
  have Hc0 := Lib.hid hc0
  clear hc0
  refine hK.out _ _ k0 (fun hS' => ?_)
  clear hS' hK K
  (try simp only [List.getElem_toArray, List.getElem_cons_succ, List.getElem_cons_zero, Act.put, List.setIfInBounds_toArray, List.set_cons_zero, List.set_cons_succ])
  refine wpAnyH_take (i := 5) (oi := _) (v := .agg #[.int .i64 2, .int .i64 c0, .int .i64 0, .int .i64 2]) rfl (by kernel_rfl) (by kernel_rfl) (by kernel_rfl) (fun _ _ _ h => h) (Or.inl ⟨by rfl, ?_⟩) k0 ?_
  · intro w' hSw
    (try simp only [List.getElem_toArray, List.getElem_cons_succ, List.getElem_cons_zero])
    go_simp
  (try simp only [List.getElem_toArray, List.getElem_cons_succ, List.getElem_cons_zero, Act.put, List.setIfInBounds_toArray, List.set_cons_zero, List.set_cons_succ])
  refine wpAnyH_ready (rs := [7]) (by kernel_rfl) (by simp) ?_
  refine AllReadyH.cons (o := _) rfl (fun K hK => ?_) AllReadyH.nil
  (try simp only [List.getElem_toArray, List.getElem_cons_succ, List.getElem_cons_zero])
  go_simp
  (with_reducible refine (task_any l 1 1 _ f.out (by omega)).mono ?_)
  rintro e w3 ⟨rfl, hb⟩
  replace k0 := k0.keep hb
  replace k1 := k1.keep hb
  replace hbl := below_tr hbl hb
  clear hb
  obtain ⟨c1, hc1⟩ : ∃ c, taskAt l 1 1 = c := ⟨_, rfl⟩
  rw [hc1]
  have Hc1 := Lib.hid hc1
  clear hc1
  refine hK.out _ _ k0 (fun hS' => ?_)
  clear hS' hK K
  (try simp only [List.getElem_toArray, List.getElem_cons_succ, List.getElem_cons_zero, Act.put, List.setIfInBounds_toArray, List.set_cons_zero, List.set_cons_succ])
  refine wpAnyH_take (i := 8) (oi := _) (v := .agg #[.int .i64 2, .int .i64 c1, .int .i64 0, .int .i64 1]) rfl (by kernel_rfl) (by kernel_rfl) (by kernel_rfl) (fun _ _ _ h => h) (Or.inl ⟨by rfl, ?_⟩) k0 ?_
  · intro w' hSw
    (try simp only [List.getElem_toArray, List.getElem_cons_succ, List.getElem_cons_zero])
    go_simp
  (try simp only [List.getElem_toArray, List.getElem_cons_succ, List.getElem_cons_zero, Act.put, List.setIfInBounds_toArray, List.set_cons_zero, List.set_cons_succ])
  refine wpAnyH_ready (rs := [9]) (by kernel_rfl) (by simp) ?_
  refine AllReadyH.cons (o := _) rfl (fun K hK => ?_) AllReadyH.nil
  (try simp only [List.getElem_toArray, List.getElem_cons_succ, List.getElem_cons_zero])
  go_simp
  have ka := Bk.made w3 44 #[.int .i64 2, .int .i64 l.count, .int .i64 0, .int .i64 1, .int .i64 2, .int .i64 c0, .int .i64 0, .int .i64 2, .int .i64 2, .int .i64 c1, .int .i64 0, .int .i64 1]
  replace k0 := k0.alloc (.cells #[.int .i64 2, .int .i64 l.count, .int .i64 0, .int .i64 1, .int .i64 2, .int .i64 c0, .int .i64 0, .int .i64 2, .int .i64 2, .int .i64 c1, .int .i64 0, .int .i64 1] 44)
  replace k1 := k1.alloc (.cells #[.int .i64 2, .int .i64 l.count, .int .i64 0, .int .i64 1, .int .i64 2, .int .i64 c0, .int .i64 0, .int .i64 2, .int .i64 2, .int .i64 c1, .int .i64 0, .int .i64 1] 44)
  replace hbl := below_al hbl (.cells #[.int .i64 2, .int .i64 l.count, .int .i64 0, .int .i64 1, .int .i64 2, .int .i64 c0, .int .i64 0, .int .i64 2, .int .i64 2, .int .i64 c1, .int .i64 0, .int .i64 1] 44)
  refine hK.out _ _ k0 (fun hS' => ?_)
  clear hS' hK K
  (try simp only [List.getElem_toArray, List.getElem_cons_succ, List.getElem_cons_zero, Act.put, List.setIfInBounds_toArray, List.set_cons_zero, List.set_cons_succ])
  generalize w3.alloc (.cells #[.int .i64 2, .int .i64 l.count, .int .i64 0, .int .i64 1, .int .i64 2, .int .i64 c0, .int .i64 0, .int .i64 2, .int .i64 2, .int .i64 c1, .int .i64 0, .int .i64 1] 44) = w4 at *
  generalize w3.heap.size = ga at *
  refine wpAnyH_take (i := 10) (oi := _) (v := .slice (some ⟨ga, 0, none⟩) 3 3) rfl (by kernel_rfl) (by kernel_rfl) (by kernel_rfl) (fun _ _ _ h => h) (Or.inl ⟨by rfl, ?_⟩) k0 ?_
  · intro w' hSw
    (try simp only [List.getElem_toArray, List.getElem_cons_succ, List.getElem_cons_zero])
    go_simp
  (try simp only [List.getElem_toArray, List.getElem_cons_succ, List.getElem_cons_zero, Act.put, List.setIfInBounds_toArray, List.set_cons_zero, List.set_cons_succ])
  refine wpAnyH_done (by kernel_rfl) ?_ _
  have q0 := k0.cell 24
  simp at q0
  obtain ⟨N, hN⟩ : ∃ N : Nat, l.size = N := ⟨l.size.toNat, by omega⟩
  rw [hN] at q0 hs0 hs1
  have HN := Lib.hid hN
  clear hN
  have hmin : ∀ (w : World) (ts : Array TypeId) (t : TypeId), (Builtin.min_ ts t #[.int .i64 N, .int .i64 1000]).run Try.prog w = .ok (.int .i64 N) w := fun w ts t => by
    rw [run_min_int2]
    split <;> first | rfl | (congr 2; omega)
  have hmax : ∀ (w : World) (ts : Array TypeId) (t : TypeId), (Builtin.max_ ts t #[.int .i64 0, .int .i64 N]).run Try.prog w = .ok (.int .i64 N) w := fun w ts t => by
    rw [run_max_int2]
    split <;> first | rfl | (congr 2; omega)
  go_wp2_with fail
  (with_reducible refine (new_any N _ (by omega)).mono ?_)
  rintro e w5 ⟨g, rfl, hown, hb⟩
  replace k1 := k1.keep hb
  replace ka := ka.keep hb
  replace hbl := below_tr hbl hb
  clear hb q0 hmin hmax k0
  have hsl : SlAcc w5 w5.heap.size (some ⟨ga, 0, none⟩) (beginA l) := by
    intro _
    refine ⟨ga, 0, rfl, ka.lt, fun k a hk => ?_⟩
    have hk3 : k = 0 ∨ k = 1 ∨ k = 2 := by
      have := (List.getElem?_eq_some_iff.1 hk).1
      simp [beginA] at this
      omega
    rcases hk3 with rfl | rfl | rfl <;> (simp [beginA, Hc0.out, Hc1.out] at hk; subst hk; simp only [Bk.cell ka]; simp)
  go_wp2_with fail
  (with_reducible refine (all_n (some ⟨g, 0, none⟩) (some ⟨ga, 0, none⟩) 0 N 3 N 3 (List.replicate N 0) (beginA l) _ (by simp) rfl (Nat.zero_le _) (MemAt.of_own hown (by simp) (Nat.zero_le _)) hsl (by omega) (by simp [beginA])).mono ?_)
  rintro e w6 ⟨A, c, R, d, rfl, hM, -, hb⟩
  replace k1 := k1.keep hb
  replace hbl := below_tr hbl hb
  clear hb hsl hown ka
  have hB := HB.out
  rw [HN.out, Int.toNat_natCast] at hB
  have hM2 : MemAt w6 0 A N c (beginM l) := by
    have h' := hM
    unfold allCellsOut at h'
    rw [if_pos hB] at h'
    simpa [beginM, HN.out] using h'
  have he : (List.replicate N (0 : Int)).length = N := by simp
  rw [he]
  clear hM he hB
  obtain ⟨g2, rfl, hown⟩ := memAt_own hM2 (by omega)
  have HM := Lib.hid hM2
  clear hM2
  generalize allErr (List.replicate N 0) (beginA l) = er at *
  generalize (allToldOut (List.replicate N 0) (beginA l)).length = nr at *
  have q1 := k1.cell 0
  have f1 := k1.free 0
  have l1 := k1.lt
  have ne1 : ¬ w6.heap.size = w.heap.size + 1 := by omega
  simp at q1
  go_wp2
  have hlen : (beginM l).length = N := by rw [beginM_length, HN.out]; omega
  refine bodyPost_ret (v := memV (some ⟨g2, 0, none⟩) N c) (by simp [results, Try.results12, go_sem, q1, l1]) rfl ⟨g2, c, by rw [hlen], ?_, ?_⟩
  · rw [hlen]
    exact (hown.far (own_ne hown k1 (by decide)) _).alloc _
  · exact below_al (below_set hbl (by simp) _) _
end Go.Proofs.Ytcjaomiihajjbaa
