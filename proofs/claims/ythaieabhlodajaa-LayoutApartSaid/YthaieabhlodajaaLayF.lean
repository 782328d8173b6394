/- layout.Right. -/
import Derived.Test.YthaieabhlodajaaLayD
import Derived.Test.YthaieabhlodajaaLayE
namespace Go.Proofs.Ythaieabhlodajaa
open Go.RowKit
attribute [local go_sem ↓] Go.wp_at_zero Go.wp_at_succ

theorem wpList_load_rowG {P : Program} {ops : Array Oper} {rest : List Oper} {o : Oper} {a : Act} {w : World} {Q : Exit → Act → World → Prop} (hgd : Region.wanted o (yielded ops a.tmps) = true) (ty : TypeId) (x : Operand) (ho : o.op = .load ty x)
    (g : Nat) (hx : a.eval x = .pointer (some ⟨g, 0, none⟩)) (t : TypeId) (cs : Array Value) (fr : Nat × Nat) (d : TypeDesc) (hg : w.heap[g]? = some (.cells cs t fr))
    (hu : P.underlying ty = some d) (hd : (match d with | .struct _ | .array _ _ => true | _ => false) = true) (hi : (P.info? ty).map (·.size) = some cs.size)
    (h : wpList P ops Q rest (a.put o.dst (.agg cs)) w) : wpList P ops Q (o :: rest) a w := by
  simp only [wpList, hgd, if_true]
  exact .inl (wp_load_row ty x ho g hx t cs fr d hg hu hd hi h)

set_option maxRecDepth 100000 in
set_option maxHeartbeats 4000000 in
theorem right_ok (l : Ly) (w : World) (hc : l.c.can) : Calls Try.prog 11 #[lyV l] w (BoolBelow (lyB (lyOf l.c) l) w) := by
  have le : ∀ w, (Op.equalIn 10000 26 (.agg (lyC (lyOf l.c))) (.agg (lyC l))).run Try.prog w = .ok (lyB (lyOf l.c) l) w := fun w => ly_eq 9997 _ _ w
  generalize lyB (lyOf l.c) l = q at *
  have HC := Lib.hid hc
  clear hc
  go_enter Try.func11, Try.ntmps11
  go_wp2_with fail
  (with_reducible refine (of_ok l.c _ HC.out).mono ?_)
  rintro e w1 ⟨rfl, hb⟩
  have k0 := (Bk.made w 26 (lyC l)).keep hb
  have hbl := below_tr (below_al (Below.refl w.heap.size w) (.cells (lyC l) 26)) hb
  clear hb
  generalize lyOf l.c = m at *
  have k1 := Bk.made w1 26 (lyC m)
  replace k0 := k0.alloc (.cells (lyC m) 26)
  go_wp2_with (first
    | (refine wpList_store_new rfl 26 (.tmp 3) (.tmp 9) rfl rfl w1.heap.size _ _ (lyC m) rfl rfl rfl rfl (by kernel_rfl) rfl (by simp [Value.oneCell']) ?_)
    | (refine wpList_load_rowG (by rfl) 26 (.tmp 3) rfl w1.heap.size rfl 26 (lyC m) (0, 0) _ k1 Try.underlying26 rfl (by kernel_rfl) ?_)
    | (refine wpList_load_rowG (by rfl) 26 (.tmp 1) rfl w.heap.size rfl 26 (lyC l) (0, 0) _ k0 Try.underlying26 rfl (by kernel_rfl) ?_))
  go_ret
  exact ⟨rfl, below_al hbl _⟩
set_option maxRecDepth 100000 in
set_option maxHeartbeats 4000000 in
theorem right_no (l : Ly) (w : World) (hc : ¬ l.c.can) : Calls Try.prog 11 #[lyV l] w (BoolBelow false w) := by
  have HC := Lib.hid hc
  clear hc
  go_enter Try.func11, Try.ntmps11
  go_wp2_with fail
  (with_reducible refine (of_bad l.c _ HC.out).mono ?_)
  rintro e w1 ⟨rfl, hb⟩
  have hbl := below_tr (below_al (Below.refl w.heap.size w) (.cells (lyC l) 26)) hb
  clear hb
  go_wp2_with (refine wpList_store_new rfl 26 (.tmp 3) (.tmp 9) rfl rfl w1.heap.size _ _ (lyC zeroLy) rfl rfl rfl rfl (by kernel_rfl) rfl (by simp [Value.oneCell']) ?_)
  go_ret
  exact ⟨rfl, below_al hbl _⟩
end Go.Proofs.Ythaieabhlodajaa
