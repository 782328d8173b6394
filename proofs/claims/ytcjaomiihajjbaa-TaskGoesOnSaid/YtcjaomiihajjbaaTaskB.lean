/- layout.Task; task.programs' of and joined. -/
import Derived.Test.YtcjaomiihajjbaaTaskA
import Derived.BigQuiet
namespace Go.Proofs.Ytcjaomiihajjbaa
open Go.RowKit
attribute [local go_sem ↓] Go.wp_at_zero Go.wp_at_succ

structure TkFit (l : Ly) : Prop where
  k0 : 0 ≤ l.task
  k1 : l.task ≤ 1000000
  t0 : 0 ≤ l.c.tasks
  t1 : l.c.tasks ≤ 64
def taskAt (l : Ly) (a b : Int) : Int := if 1 ≤ a ∧ a ≤ l.c.tasks ∧ 0 ≤ b ∧ b < 4 then l.task + (a - 1) * 4 + b else -1
set_option maxRecDepth 100000 in
set_option maxHeartbeats 2000000 in
theorem task_any (l : Ly) (a b : Int) (w : World) (f : TkFit l) (ha : a ≤ 9223372036854775807) : Calls Try.prog 11 #[lyV l, .int .i64 a, .int .i64 b] w (IntBelow (taskAt l a b) w) := by
  obtain ⟨k0, k1, t0, t1⟩ := f
  by_cases h : a < 1
  · have e : taskAt l a b = -1 := by unfold taskAt; rw [if_neg (by omega)]
    rw [e]
    clear e
    have g1 : decide (a < 1) = true := by simp; omega
    go_enter Try.func11, Try.ntmps11
    go_wp2
    go_ret
    exact ⟨rfl, below_al (Below.refl _ _) _⟩
  · have g1 : decide (a < 1) = false := by simp; omega
    by_cases h2 : 0 ≤ a - 1 ∧ a - 1 < l.c.tasks ∧ 0 ≤ b ∧ b < 4
    · have e : taskAt l a b = l.task + (a - 1) * 4 + b := by unfold taskAt; rw [if_pos (by omega)]
      rw [e]
      clear e
      go_enter Try.func11, Try.ntmps11
      go_wp2_with fail
      (with_reducible refine (within_in l.task l.c.tasks 4 (a - 1) b ((a - 1) * 4) _ rfl h2.1 h2.2.1 h2.2.2.1 h2.2.2.2 (by omega) (by omega) (by omega) (by omega) (by omega)).mono ?_)
      rintro e w1 ⟨rfl, rfl⟩
      generalize l.task + (a - 1) * 4 + b = v at *
      go_wp2
      go_ret
      exact ⟨rfl, below_al (Below.refl _ _) _⟩
    · have e : taskAt l a b = -1 := by unfold taskAt; rw [if_neg (by omega)]
      rw [e]
      clear e
      have HN := Lib.hid h2
      clear h2
      go_enter Try.func11, Try.ntmps11
      go_wp2_with fail
      (with_reducible refine (within_out l.task l.c.tasks 4 (a - 1) b _ HN.out).mono ?_)
      rintro e w1 ⟨rfl, rfl⟩
      go_wp2
      go_ret
      exact ⟨rfl, below_al (Below.refl _ _) _⟩

structure Opr where
  kind : Int
  obj : Int
  a : Int
  b : Int
abbrev oprC (o : Opr) : Array Value := #[.int .i64 o.kind, .int .i64 o.obj, .int .i64 o.a, .int .i64 o.b]
abbrev ptr (g : Nat) : Value := .pointer (some ⟨g, 0, none⟩)
abbrev doV (gm gl : Nat) : Value := .func (.func 25) #[] #[ptr gm, ptr gl]
abbrev ofV (gL : Nat) : Value := .func (.func 35) #[] #[ptr gL]
abbrev joV (gd gf : Nat) : Value := .func (.func 36) #[] #[ptr gd, ptr gf]
theorem of_call (l : Ly) (t i : Int) (gL : Nat) (w : World) (k : Bk w gL 34 (lyC l)) (f : TkFit l) (ht : t ≤ 9223372036854775807) : Calls Try.prog 35 #[.int .i64 t, .int .i64 i, ptr gL] w (IntBelow (taskAt l t i) w) := by
  go_enter Try.func35, Try.ntmps35
  go_wp2_with (refine wpList_load_row rfl 34 (.tmp 2) rfl gL rfl 34 (lyC l) (0, 0) _ k Try.underlying34 rfl (by kernel_rfl) ?_)
  (with_reducible refine (task_any l t i _ f ht).mono ?_)
  rintro e w1 ⟨rfl, hb⟩
  generalize taskAt l t i = v at *
  go_wp2
  go_ret
  exact ⟨rfl, hb⟩
end Go.Proofs.Ytcjaomiihajjbaa
