/- Words of lay/XLayB that speak of no layout.bounded: for seats without it. -/
import Derived.Test.YtgjdjgainjedhaaLayA
import Derived.Great.BuildSlice
import Derived.Laws.Rows
namespace Go.Proofs.Ytgjdjgainjedhaa
open Go.RowKit
attribute [local go_sem ↓] Go.wp_at_zero Go.wp_at_succ

theorem setRow_new (w : World) (old cs : Array Value) (t : TypeId) : (w.alloc (.cells old t)).setRow w.heap.size cs = w.alloc (.cells cs t) := by
  have e : ((w.alloc (.cells old t)).setRow w.heap.size cs).heap = (w.alloc (.cells cs t)).heap := by
    apply Array.ext_getElem?
    intro i
    by_cases h : i = w.heap.size
    · subst h
      rw [setRow_heap _ _ old cs t (0, 0) (heap_alloc_new w _), heap_alloc_new]
    · rw [setRow_other _ _ _ _ h]
      by_cases h2 : i < w.heap.size
      · rw [heap_alloc_old (h := h2), heap_alloc_old (h := h2)]
      · rw [Array.getElem?_eq_none (by simp; omega), Array.getElem?_eq_none (by simp; omega)]
  show (⟨((w.alloc (.cells old t)).setRow w.heap.size cs).heap, _, _, _, _⟩ : World) = _
  rw [e]
  rfl
/-- A whole array, or struct, into the block that was made last. -/
theorem wpList_store_new {P : Program} {ops : Array Oper} {rest : List Oper} {o : Oper} {a : Act} {w : World} {Q : Exit → Act → World → Prop} (hgd : o.guard = none) (ty : TypeId) (x y : Operand) (ho : o.op = .store ty x y)
    (hd : o.dst = none) (N : Nat) (w0 : World) (old cells : Array Value) (hw : w = w0.alloc (.cells old ty)) (hN : w0.heap.size = N) (hx : a.eval x = .pointer (some ⟨N, 0, none⟩)) (hy : a.eval y = .agg cells)
    (hi : (P.info? ty).map (·.size) = some cells.size) (hold : old.size = cells.size) (h1 : cells.all (·.oneCell') = true)
    (h : wpList P ops Q rest a (w0.alloc (.cells cells ty))) : wpList P ops Q (o :: rest) a w := by
  subst hw hN
  refine wpList_store_rowTo hgd ty x y ho hd w0.heap.size cells hx hy ty old (heap_alloc_new w0 _) hi hold h1 ?_
  rw [setRow_new]
  exact h

def pow2B (b : Int) : Bool := b == 1 || b == 2 || b == 4 || b == 8 || b == 16 || b == 32 || b == 64
theorem and_pow2 (b : Int) (h1 : 1 ≤ b) (h2 : b ≤ 64) : (bits BinOp.and IntKind.i64 b (wrap64 (b - 1)) == 0) = pow2B b := by
  have H : ∀ n : Fin 65, 1 ≤ n.val → (bits BinOp.and IntKind.i64 (n.val : Int) (wrap64 ((n.val : Int) - 1)) == 0) = pow2B (n.val : Int) := by decide +kernel
  obtain ⟨n, rfl⟩ := Int.eq_ofNat_of_zero_le (show 0 ≤ b by omega)
  exact H ⟨n, by omega⟩ (by simp; omega)
/-- Is row j of the bounds kept? -/
def Cf.rowOk (c : Cf) : Nat → Prop
  | 0 => 1 ≤ c.seats ∧ c.seats ≤ 8
  | 1 => 1 ≤ c.buckets ∧ c.buckets ≤ 64
  | 2 => 1 ≤ c.slots ∧ c.slots ≤ 8
  | 3 => 1 ≤ c.tasks ∧ c.tasks ≤ 64
  | 4 => 0 ≤ c.cells ∧ c.cells ≤ 16
  | 5 => 0 ≤ c.maps ∧ c.maps ≤ 8
  | 6 => 0 ≤ c.stacks ∧ c.stacks ≤ 8
  | 7 => 0 ≤ c.chans ∧ c.chans ≤ 8
  | _ => True
def Cf.may (c : Cf) : Prop := (∀ j, j < 8 → c.rowOk j) ∧ pow2B c.buckets = true
end Go.Proofs.Ytgjdjgainjedhaa
