/- layout.bounded: printed by bounded_gen.py. -/
import Derived.Test.YtbcgjolcfagboaaLayA
import Derived.Great.BuildSlice
import Derived.Laws.Rows
namespace Go.Proofs.Ytbcgjolcfagboaa
open Go.RowKit
attribute [local go_sem ↓] Go.wp_at_zero Go.wp_at_succ

theorem setRow_new (w : World) (old cs : Array Value) (t : TypeId) : (w.alloc (.cells old t)).setRow w.heap.size cs = w.alloc (.cells cs t) := by
  have e : ((w.alloc (.cells old t)).setRow w.heap.size cs).heap = (w.alloc (.cells cs t)).heap := by
    apply Array.ext_getElem?
    intro i
    by_cases h : i = w.heap.size
    · subst h
      rw [setRow_heap _ _ old cs t (0, 0) (heap_alloc_new w _), heap_alloc_new]
    · rw [setRow_other _ _ _ _ h]
      by_cases h2 : i < w.heap.size
      · rw [heap_alloc_old (h := h2), heap_alloc_old (h := h2)]
      · rw [Array.getElem?_eq_none (by simp; omega), Array.getElem?_eq_none (by simp; omega)]
  show (⟨((w.alloc (.cells old t)).setRow w.heap.size cs).heap, _, _, _, _⟩ : World) = _
  rw [e]
  rfl
/-- A whole array, or struct, into the block that was made last. -/
theorem wpList_store_new {P : Program} {ops : Array Oper} {rest : List Oper} {o : Oper} {a : Act} {w : World} {Q : Exit → Act → World → Prop} (hgd : o.guard = none) (ty : TypeId) (x y : Operand) (ho : o.op = .store ty x y)
    (hd : o.dst = none) (N : Nat) (w0 : World) (old cells : Array Value) (hw : w = w0.alloc (.cells old ty)) (hN : w0.heap.size = N) (hx : a.eval x = .pointer (some ⟨N, 0, none⟩)) (hy : a.eval y = .agg cells)
    (hi : (P.info? ty).map (·.size) = some cells.size) (hold : old.size = cells.size) (h1 : cells.all (·.oneCell') = true)
    (h : wpList P ops Q rest a (w0.alloc (.cells cells ty))) : wpList P ops Q (o :: rest) a w := by
  subst hw hN
  refine wpList_store_rowTo hgd ty x y ho hd w0.heap.size cells hx hy ty old (heap_alloc_new w0 _) hi hold h1 ?_
  rw [setRow_new]
  exact h

def pow2B (b : Int) : Bool := b == 1 || b == 2 || b == 4 || b == 8 || b == 16 || b == 32 || b == 64
theorem and_pow2 (b : Int) (h1 : 1 ≤ b) (h2 : b ≤ 64) : (bits BinOp.and IntKind.i64 b (wrap64 (b - 1)) == 0) = pow2B b := by
  have H : ∀ n : Fin 65, 1 ≤ n.val → (bits BinOp.and IntKind.i64 (n.val : Int) (wrap64 ((n.val : Int) - 1)) == 0) = pow2B (n.val : Int) := by decide +kernel
  obtain ⟨n, rfl⟩ := Int.eq_ofNat_of_zero_le (show 0 ≤ b by omega)
  exact H ⟨n, by omega⟩ (by simp; omega)
/-- Is row j of the bounds kept? -/
def Cf.rowOk (c : Cf) : Nat → Prop
  | 0 => 1 ≤ c.seats ∧ c.seats ≤ 8
  | 1 => 1 ≤ c.buckets ∧ c.buckets ≤ 64
  | 2 => 1 ≤ c.slots ∧ c.slots ≤ 8
  | 3 => 1 ≤ c.tasks ∧ c.tasks ≤ 64
  | 4 => 0 ≤ c.cells ∧ c.cells ≤ 16
  | 5 => 0 ≤ c.maps ∧ c.maps ≤ 8
  | 6 => 0 ≤ c.stacks ∧ c.stacks ≤ 8
  | 7 => 0 ≤ c.chans ∧ c.chans ≤ 8
  | _ => True
def Cf.may (c : Cf) : Prop := (∀ j, j < 8 → c.rowOk j) ∧ pow2B c.buckets = true
def BdRel (c : Cf) (w : World) (i : Value) (wr : World) : Prop := ∃ k : Nat, k ≤ 8 ∧ i = .int .i64 k ∧ (∀ j, j < k → c.rowOk j) ∧ Below w.heap.size w wr ∧ Bk wr w.heap.size 29 (cfC c)
def BdPost (c : Cf) (w : World) (e : Ending) (w' : World) : Prop := ∃ b : Bool, e = .returned (.bool b) ∧ (b = true ↔ c.may) ∧ Below w.heap.size w w'
theorem BdPost.no {c : Cf} {w w' : World} (j : Nat) (hj : j < 8) (h : ¬ c.rowOk j) (hb : Below w.heap.size w w') : BdPost c w (.returned (.bool false)) w' :=
  ⟨false, rfl, by simp; exact fun hm => h (hm.1 j hj), hb⟩

theorem row_at0 (c : Cf) (X : Array Value) (hX : X = #[.int .i64 c.seats, .int .i64 1, .int .i64 8, .int .i64 c.buckets, .int .i64 1, .int .i64 64, .int .i64 c.slots, .int .i64 1, .int .i64 8, .int .i64 c.tasks, .int .i64 1, .int .i64 64, .int .i64 c.cells, .int .i64 0, .int .i64 16, .int .i64 c.maps, .int .i64 0, .int .i64 8, .int .i64 c.stacks, .int .i64 0, .int .i64 8, .int .i64 c.chans, .int .i64 0, .int .i64 8]) (w : World) : (Instr.index 91 (.agg X) (.int .i64 0)).run Try.prog w = .ok (.agg #[.int .i64 c.seats, .int .i64 1, .int .i64 8]) w := by subst hX; kernel_rfl
theorem row_at1 (c : Cf) (X : Array Value) (hX : X = #[.int .i64 c.seats, .int .i64 1, .int .i64 8, .int .i64 c.buckets, .int .i64 1, .int .i64 64, .int .i64 c.slots, .int .i64 1, .int .i64 8, .int .i64 c.tasks, .int .i64 1, .int .i64 64, .int .i64 c.cells, .int .i64 0, .int .i64 16, .int .i64 c.maps, .int .i64 0, .int .i64 8, .int .i64 c.stacks, .int .i64 0, .int .i64 8, .int .i64 c.chans, .int .i64 0, .int .i64 8]) (w : World) : (Instr.index 91 (.agg X) (.int .i64 1)).run Try.prog w = .ok (.agg #[.int .i64 c.buckets, .int .i64 1, .int .i64 64]) w := by subst hX; kernel_rfl
theorem row_at2 (c : Cf) (X : Array Value) (hX : X = #[.int .i64 c.seats, .int .i64 1, .int .i64 8, .int .i64 c.buckets, .int .i64 1, .int .i64 64, .int .i64 c.slots, .int .i64 1, .int .i64 8, .int .i64 c.tasks, .int .i64 1, .int .i64 64, .int .i64 c.cells, .int .i64 0, .int .i64 16, .int .i64 c.maps, .int .i64 0, .int .i64 8, .int .i64 c.stacks, .int .i64 0, .int .i64 8, .int .i64 c.chans, .int .i64 0, .int .i64 8]) (w : World) : (Instr.index 91 (.agg X) (.int .i64 2)).run Try.prog w = .ok (.agg #[.int .i64 c.slots, .int .i64 1, .int .i64 8]) w := by subst hX; kernel_rfl
theorem row_at3 (c : Cf) (X : Array Value) (hX : X = #[.int .i64 c.seats, .int .i64 1, .int .i64 8, .int .i64 c.buckets, .int .i64 1, .int .i64 64, .int .i64 c.slots, .int .i64 1, .int .i64 8, .int .i64 c.tasks, .int .i64 1, .int .i64 64, .int .i64 c.cells, .int .i64 0, .int .i64 16, .int .i64 c.maps, .int .i64 0, .int .i64 8, .int .i64 c.stacks, .int .i64 0, .int .i64 8, .int .i64 c.chans, .int .i64 0, .int .i64 8]) (w : World) : (Instr.index 91 (.agg X) (.int .i64 3)).run Try.prog w = .ok (.agg #[.int .i64 c.tasks, .int .i64 1, .int .i64 64]) w := by subst hX; kernel_rfl
theorem row_at4 (c : Cf) (X : Array Value) (hX : X = #[.int .i64 c.seats, .int .i64 1, .int .i64 8, .int .i64 c.buckets, .int .i64 1, .int .i64 64, .int .i64 c.slots, .int .i64 1, .int .i64 8, .int .i64 c.tasks, .int .i64 1, .int .i64 64, .int .i64 c.cells, .int .i64 0, .int .i64 16, .int .i64 c.maps, .int .i64 0, .int .i64 8, .int .i64 c.stacks, .int .i64 0, .int .i64 8, .int .i64 c.chans, .int .i64 0, .int .i64 8]) (w : World) : (Instr.index 91 (.agg X) (.int .i64 4)).run Try.prog w = .ok (.agg #[.int .i64 c.cells, .int .i64 0, .int .i64 16]) w := by subst hX; kernel_rfl
theorem row_at5 (c : Cf) (X : Array Value) (hX : X = #[.int .i64 c.seats, .int .i64 1, .int .i64 8, .int .i64 c.buckets, .int .i64 1, .int .i64 64, .int .i64 c.slots, .int .i64 1, .int .i64 8, .int .i64 c.tasks, .int .i64 1, .int .i64 64, .int .i64 c.cells, .int .i64 0, .int .i64 16, .int .i64 c.maps, .int .i64 0, .int .i64 8, .int .i64 c.stacks, .int .i64 0, .int .i64 8, .int .i64 c.chans, .int .i64 0, .int .i64 8]) (w : World) : (Instr.index 91 (.agg X) (.int .i64 5)).run Try.prog w = .ok (.agg #[.int .i64 c.maps, .int .i64 0, .int .i64 8]) w := by subst hX; kernel_rfl
theorem row_at6 (c : Cf) (X : Array Value) (hX : X = #[.int .i64 c.seats, .int .i64 1, .int .i64 8, .int .i64 c.buckets, .int .i64 1, .int .i64 64, .int .i64 c.slots, .int .i64 1, .int .i64 8, .int .i64 c.tasks, .int .i64 1, .int .i64 64, .int .i64 c.cells, .int .i64 0, .int .i64 16, .int .i64 c.maps, .int .i64 0, .int .i64 8, .int .i64 c.stacks, .int .i64 0, .int .i64 8, .int .i64 c.chans, .int .i64 0, .int .i64 8]) (w : World) : (Instr.index 91 (.agg X) (.int .i64 6)).run Try.prog w = .ok (.agg #[.int .i64 c.stacks, .int .i64 0, .int .i64 8]) w := by subst hX; kernel_rfl
theorem row_at7 (c : Cf) (X : Array Value) (hX : X = #[.int .i64 c.seats, .int .i64 1, .int .i64 8, .int .i64 c.buckets, .int .i64 1, .int .i64 64, .int .i64 c.slots, .int .i64 1, .int .i64 8, .int .i64 c.tasks, .int .i64 1, .int .i64 64, .int .i64 c.cells, .int .i64 0, .int .i64 16, .int .i64 c.maps, .int .i64 0, .int .i64 8, .int .i64 c.stacks, .int .i64 0, .int .i64 8, .int .i64 c.chans, .int .i64 0, .int .i64 8]) (w : World) : (Instr.index 91 (.agg X) (.int .i64 7)).run Try.prog w = .ok (.agg #[.int .i64 c.chans, .int .i64 0, .int .i64 8]) w := by subst hX; kernel_rfl
def BdRows (X : Array Value) : Prop := X.size = 24 ∧ X.all (·.oneCell') = true ∧ (Try.prog.info? 91).map (·.size) = some X.size
theorem bd_rows (c : Cf) : ∃ X : Array Value, X = #[.int .i64 c.seats, .int .i64 1, .int .i64 8, .int .i64 c.buckets, .int .i64 1, .int .i64 64, .int .i64 c.slots, .int .i64 1, .int .i64 8, .int .i64 c.tasks, .int .i64 1, .int .i64 64, .int .i64 c.cells, .int .i64 0, .int .i64 16, .int .i64 c.maps, .int .i64 0, .int .i64 8, .int .i64 c.stacks, .int .i64 0, .int .i64 8, .int .i64 c.chans, .int .i64 0, .int .i64 8] ∧ BdRows X := ⟨_, rfl, rfl, by simp [Value.oneCell'], by kernel_rfl⟩

set_option maxRecDepth 100000 in
set_option maxHeartbeats 8000000 in
theorem bounded_any (c : Cf) (w : World) : Calls Try.prog 23 #[cfV c] w (BdPost c w) := by
  obtain ⟨X, hX, hX24, hX1, hXi⟩ := bd_rows c
  have i0 := row_at0 c X hX
  have i1 := row_at1 c X hX
  have i2 := row_at2 c X hX
  have i3 := row_at3 c X hX
  have i4 := row_at4 c X hX
  have i5 := row_at5 c X hX
  have i6 := row_at6 c X hX
  have i7 := row_at7 c X hX
  have HX := Lib.hid hX
  have HS := Lib.hid (And.intro hX24 (And.intro hX1 hXi))
  clear hX hX24 hX1 hXi
  go_enter Try.func23, Try.ntmps23
  go_wp2_with (first
    | (refine wpList_buildTo rfl 91 _ rfl (some 30) rfl X ?hf ?_; case hf => (rw [HX.out]; kernel_rfl))
    | (refine wpList_store_new rfl 91 (.tmp 3) (.tmp 30) rfl rfl (w.heap.size + 1) _ _ X rfl (by simp) rfl rfl HS.out.2.2 (by rw [HS.out.1]; rfl) HS.out.2.1 ?_)
    | (refine wpList_load_row rfl 91 (.tmp 3) rfl (w.heap.size + 1) rfl 91 X (0, 0) (.array 8 90) (Bk.new _ (by simp) _ _) Try.underlying91 rfl HS.out.2.2 ?_))
  go_loopw [5, 32, 33, 34, 35, 36, 37, 38, 39, 40, 41, 42, 43, 44, 45, 46, 47] (fun _ i _ _ _ _ _ _ _ _ _ _ _ _ _ _ _ wr => BdRel c w i wr) (fun _ i _ _ _ _ _ _ _ _ _ _ _ _ _ _ _ _ => 8 - (intOf i).toNat)
  case atStart =>
    exact ⟨0, by omega, rfl, fun j hj => absurd hj (by omega), below_al (below_al (Below.refl _ _) _) _, (Bk.made w _ _).alloc _⟩
  case round =>
    obtain ⟨k, hk, rfl, hok, hb, kb⟩ := hrel
    have hk' : k = 0 ∨ k = 1 ∨ k = 2 ∨ k = 3 ∨ k = 4 ∨ k = 5 ∨ k = 6 ∨ k = 7 ∨ k = 8 := by omega
    rcases hk' with rfl | rfl | rfl | rfl | rfl | rfl | rfl | rfl | rfl
    · cases g1 : decide (c.seats < 1)
      · cases g2 : decide (8 < c.seats)
        · have HK := Lib.hid hok
          clear hok
          go_wp2
          go_roundw
          case rel =>
            refine ⟨0 + 1, by omega, by go_num, fun j hj => ?_, below_al hb _, kb.alloc _⟩
            by_cases hj' : j < 0
            · exact HK.out j hj'
            · obtain rfl : j = 0 := by omega
              simp at g1 g2
              exact ⟨g1, g2⟩
          case measure => simp [intOf]
        · have HK := Lib.hid hok
          clear hok
          go_wp2
          go_ret
          exact BdPost.no 0 (by omega) (fun h => by simp at g2; have := h.2; omega) (below_al hb _)
      · have HK := Lib.hid hok
        clear hok
        go_wp2
        go_ret
        exact BdPost.no 0 (by omega) (fun h => by simp at g1; have := h.1; omega) (below_al hb _)
    · cases g1 : decide (c.buckets < 1)
      · cases g2 : decide (64 < c.buckets)
        · have HK := Lib.hid hok
          clear hok
          go_wp2
          go_roundw
          case rel =>
            refine ⟨1 + 1, by omega, by go_num, fun j hj => ?_, below_al hb _, kb.alloc _⟩
            by_cases hj' : j < 1
            · exact HK.out j hj'
            · obtain rfl : j = 1 := by omega
              simp at g1 g2
              exact ⟨g1, g2⟩
          case measure => simp [intOf]
        · have HK := Lib.hid hok
          clear hok
          go_wp2
          go_ret
          exact BdPost.no 1 (by omega) (fun h => by simp at g2; have := h.2; omega) (below_al hb _)
      · have HK := Lib.hid hok
        clear hok
        go_wp2
        go_ret
        exact BdPost.no 1 (by omega) (fun h => by simp at g1; have := h.1; omega) (below_al hb _)
    · cases g1 : decide (c.slots < 1)
      · cases g2 : decide (8 < c.slots)
        · have HK := Lib.hid hok
          clear hok
          go_wp2
          go_roundw
          case rel =>
            refine ⟨2 + 1, by omega, by go_num, fun j hj => ?_, below_al hb _, kb.alloc _⟩
            by_cases hj' : j < 2
            · exact HK.out j hj'
            · obtain rfl : j = 2 := by omega
              simp at g1 g2
              exact ⟨g1, g2⟩
          case measure => simp [intOf]
        · have HK := Lib.hid hok
          clear hok
          go_wp2
          go_ret
          exact BdPost.no 2 (by omega) (fun h => by simp at g2; have := h.2; omega) (below_al hb _)
      · have HK := Lib.hid hok
        clear hok
        go_wp2
        go_ret
        exact BdPost.no 2 (by omega) (fun h => by simp at g1; have := h.1; omega) (below_al hb _)
    · cases g1 : decide (c.tasks < 1)
      · cases g2 : decide (64 < c.tasks)
        · have HK := Lib.hid hok
          clear hok
          go_wp2
          go_roundw
          case rel =>
            refine ⟨3 + 1, by omega, by go_num, fun j hj => ?_, below_al hb _, kb.alloc _⟩
            by_cases hj' : j < 3
            · exact HK.out j hj'
            · obtain rfl : j = 3 := by omega
              simp at g1 g2
              exact ⟨g1, g2⟩
          case measure => simp [intOf]
        · have HK := Lib.hid hok
          clear hok
          go_wp2
          go_ret
          exact BdPost.no 3 (by omega) (fun h => by simp at g2; have := h.2; omega) (below_al hb _)
      · have HK := Lib.hid hok
        clear hok
        go_wp2
        go_ret
        exact BdPost.no 3 (by omega) (fun h => by simp at g1; have := h.1; omega) (below_al hb _)
    · cases g1 : decide (c.cells < 0)
      · cases g2 : decide (16 < c.cells)
        · have HK := Lib.hid hok
          clear hok
          go_wp2
          go_roundw
          case rel =>
            refine ⟨4 + 1, by omega, by go_num, fun j hj => ?_, below_al hb _, kb.alloc _⟩
            by_cases hj' : j < 4
            · exact HK.out j hj'
            · obtain rfl : j = 4 := by omega
              simp at g1 g2
              exact ⟨g1, g2⟩
          case measure => simp [intOf]
        · have HK := Lib.hid hok
          clear hok
          go_wp2
          go_ret
          exact BdPost.no 4 (by omega) (fun h => by simp at g2; have := h.2; omega) (below_al hb _)
      · have HK := Lib.hid hok
        clear hok
        go_wp2
        go_ret
        exact BdPost.no 4 (by omega) (fun h => by simp at g1; have := h.1; omega) (below_al hb _)
    · cases g1 : decide (c.maps < 0)
      · cases g2 : decide (8 < c.maps)
        · have HK := Lib.hid hok
          clear hok
          go_wp2
          go_roundw
          case rel =>
            refine ⟨5 + 1, by omega, by go_num, fun j hj => ?_, below_al hb _, kb.alloc _⟩
            by_cases hj' : j < 5
            · exact HK.out j hj'
            · obtain rfl : j = 5 := by omega
              simp at g1 g2
              exact ⟨g1, g2⟩
          case measure => simp [intOf]
        · have HK := Lib.hid hok
          clear hok
          go_wp2
          go_ret
          exact BdPost.no 5 (by omega) (fun h => by simp at g2; have := h.2; omega) (below_al hb _)
      · have HK := Lib.hid hok
        clear hok
        go_wp2
        go_ret
        exact BdPost.no 5 (by omega) (fun h => by simp at g1; have := h.1; omega) (below_al hb _)
    · cases g1 : decide (c.stacks < 0)
      · cases g2 : decide (8 < c.stacks)
        · have HK := Lib.hid hok
          clear hok
          go_wp2
          go_roundw
          case rel =>
            refine ⟨6 + 1, by omega, by go_num, fun j hj => ?_, below_al hb _, kb.alloc _⟩
            by_cases hj' : j < 6
            · exact HK.out j hj'
            · obtain rfl : j = 6 := by omega
              simp at g1 g2
              exact ⟨g1, g2⟩
          case measure => simp [intOf]
        · have HK := Lib.hid hok
          clear hok
          go_wp2
          go_ret
          exact BdPost.no 6 (by omega) (fun h => by simp at g2; have := h.2; omega) (below_al hb _)
      · have HK := Lib.hid hok
        clear hok
        go_wp2
        go_ret
        exact BdPost.no 6 (by omega) (fun h => by simp at g1; have := h.1; omega) (below_al hb _)
    · cases g1 : decide (c.chans < 0)
      · cases g2 : decide (8 < c.chans)
        · have HK := Lib.hid hok
          clear hok
          go_wp2
          go_roundw
          case rel =>
            refine ⟨7 + 1, by omega, by go_num, fun j hj => ?_, below_al hb _, kb.alloc _⟩
            by_cases hj' : j < 7
            · exact HK.out j hj'
            · obtain rfl : j = 7 := by omega
              simp at g1 g2
              exact ⟨g1, g2⟩
          case measure => simp [intOf]
        · have HK := Lib.hid hok
          clear hok
          go_wp2
          go_ret
          exact BdPost.no 7 (by omega) (fun h => by simp at g2; have := h.2; omega) (below_al hb _)
      · have HK := Lib.hid hok
        clear hok
        go_wp2
        go_ret
        exact BdPost.no 7 (by omega) (fun h => by simp at g1; have := h.1; omega) (below_al hb _)
    · have HK := Lib.hid hok
      clear hok
      have c0 := kb.cell 2
      simp at c0
      go_wp2
      go_ret
      have hb1 : 1 ≤ c.buckets ∧ c.buckets ≤ 64 := HK.out 1 (by omega)
      show BdPost c w (.returned (.bool (bits BinOp.and IntKind.i64 c.buckets (wrap64 (c.buckets - 1)) == 0))) wr
      rw [and_pow2 c.buckets hb1.1 hb1.2]
      exact ⟨_, rfl, ⟨fun h => ⟨HK.out, h⟩, fun h => h.2⟩, hb⟩
end Go.Proofs.Ytbcgjolcfagboaa
