/- underwoodref02.New; rows that are made: the short form of memshort/XMemN, for seats without mem.All. -/
import Derived.Test.YtgjdjgainjedhaaMemS
import Derived.Laws.MakeOwn
namespace Go.Proofs.Ytgjdjgainjedhaa
open Go.RowKit
attribute [local go_sem ↓] Go.wp_at_zero Go.wp_at_succ

theorem made_ints (N : Nat) : madeCells #[Value.int .i64 0] N = (ints (List.replicate N 0)).toArray := by
  apply Array.ext
  · simp [madeCells, ints]
  · intro i h1 h2
    simp [madeCells, Nat.mod_one, ints]
/-- make of a row, all of its cells at once. -/
theorem run_make_row {t e : TypeId} {z : Value} {sz bytes : Nat} (ht : Try.prog.underlying t = some (.slice e)) (hinf : (Try.prog.info? e).map (fun i => (i.zero, i.size, i.bytes)) = some (some z, sz, bytes)) (w : World) (N : Nat) (h : N ≤ 1000000) (hb : bytes ≤ 10000) :
    (Instr.makeSlice t (.int .i64 N) (.int .i64 N)).run Try.prog w = .ok (.slice (some ⟨w.heap.size, 0, none⟩) N N) (w.alloc (.cells (madeCells z.cells (N * sz)) e)) := by
  obtain ⟨i, hi, hz0, hz1, hz2⟩ := info_parts hinf
  have hm : bytes * N ≤ 10000 * 1000000 := Nat.mul_le_mul hb h
  have hm' : (i.bytes : Int) * N ≤ 281474976710656 := by
    rw [hz2]
    have : ((bytes * N : Nat) : Int) ≤ 10000000000 := by omega
    rw [Int.natCast_mul] at this
    omega
  have hr := run_make (P := Try.prog) w t e i _ ht hi hz0 .i64 .i64 N N (by omega) (by omega) hm' (by omega)
  rw [hz1, Int.toNat_natCast] at hr
  exact hr
theorem wpList_make_row {ops : Array Oper} {rest : List Oper} {o : Oper} {a : Act} {w : World} {Q : Exit → Act → World → Prop} (hg : o.guard = none) {t e : TypeId} (x y : Operand) (ho : o.op = .makeSlice t x y) (N : Nat) (cs : Array Value) (hx : a.eval x = .int .i64 N) (hy : a.eval y = .int .i64 N)
    (hr : (Instr.makeSlice t (.int .i64 N) (.int .i64 N)).run Try.prog w = .ok (.slice (some ⟨w.heap.size, 0, none⟩) N N) (w.alloc (.cells cs e)))
    (h : wpList Try.prog ops Q rest (a.put o.dst (.slice (some ⟨w.heap.size, 0, none⟩) N N)) (w.alloc (.cells cs e))) : wpList Try.prog ops Q (o :: rest) a w :=
  wpList_plain hg fun _ hK => by
    unfold Oper.wp execOp
    simp only [ho, hx, hy, Sem.run_bind, hr, Result.andThen_ok]
    exact hK _ _ h
theorem run_make_ints (w : World) (N : Nat) (h : N ≤ 1000000) :
    (Instr.makeSlice 31 (.int .i64 N) (.int .i64 N)).run Try.prog w = .ok (.slice (some ⟨w.heap.size, 0, none⟩) N N) (w.alloc (.cells (ints (List.replicate N 0)).toArray 3)) := by
  rw [run_make_row Try.underlying31 int_info w N h (by omega), Nat.mul_one]
  show Result.ok _ (w.alloc (.cells (madeCells #[Value.int .i64 0] N) 3)) = _
  rw [made_ints]
theorem own_row {w : World} {g : Nat} {e : TypeId} {sz n : Nat} {cs : Array Value} {base : Nat} (k : Bk w g e cs) (hs : cs.size = n * sz) (hb : base ≤ g) (hm : n ≤ maxLen) : w.ownsRow base e sz (.slice (some ⟨g, 0, none⟩) n n) n cs.toList :=
  ⟨by simp [hs], .inr ⟨g, n, cs, rfl, hb, k, Nat.le_refl _, hm, hs, by rw [List.take_of_length_le (by simp [hs])]⟩⟩
/-- A memory of so many cells, all 0, made anew. -/
def NewMem (n : Nat) (w : World) (e : Ending) (w' : World) : Prop :=
  ∃ g, e = .returned (memV (some ⟨g, 0, none⟩) n n) ∧ OwnInts w' w.heap.size (.slice (some ⟨g, 0, none⟩) n n) (List.replicate n 0) ∧ Below w.heap.size w w'
set_option maxHeartbeats 1000000 in
theorem new_any (n : Nat) (w : World) (hn : n ≤ 1000000) : Calls Try.prog 16 #[.int .i64 n] w (NewMem n w) := by
  go_enter Try.func16, Try.ntmps16
  go_wp2_with (refine wpList_make_row rfl _ _ rfl n _ rfl rfl (run_make_ints _ n hn) ?_)
  refine bodyPost_ret (v := memV (some ⟨w.heap.size + 1, 0, none⟩) n n) (by simp [results, Try.results16, go_sem]) rfl ⟨_, rfl, ?_, below_al (below_al (Below.refl _ _) _) _⟩
  have := own_row (base := w.heap.size) (n := n) (sz := 1) (Bk.new (w.alloc (.cells #[.slice (some ⟨w.heap.size + 1, 0, none⟩) n n] 33)) (g := w.heap.size + 1) (by simp) 3 (ints (List.replicate n 0)).toArray) (by simp [ints]) (by omega) (by simp only [maxLen]; omega)
  simpa [OwnInts] using this

end Go.Proofs.Ytgjdjgainjedhaa
