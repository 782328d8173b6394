/- The reference's small functions of layout: in, Rings, room, Ring. -/
import Derived.Test.YtgjdjgainjedhaaLayA
import Derived.Deep.QuietTactic
import Derived.BigQuiet
import Derived.Outline
namespace Go.Proofs.Ytgjdjgainjedhaa
open Go.RowKit
attribute [local go_sem ↓] Go.wp_at_zero Go.wp_at_succ

def inB (n lo hi : Int) : Bool := decide (lo ≤ n) && decide (n ≤ hi)
def BoolSm (b : Bool) (w : World) (e : Ending) (w' : World) : Prop := e = .returned (.bool b) ∧ w' = w
theorem rin_any (n lo hi : Int) (w : World) : Calls Try.prog 27 #[.int .i64 n, .int .i64 lo, .int .i64 hi] w (BoolSm (inB n lo hi) w) := by
  by_cases h : lo ≤ n
  · have e : inB n lo hi = decide (n ≤ hi) := by simp [inB, h]
    rw [e]
    clear e
    have g : decide (lo ≤ n) = true := by simp [h]
    go_enter Try.func27, Try.ntmps27
    go_wp2
    go_ret
    exact ⟨rfl, rfl⟩
  · have e : inB n lo hi = false := by simp [inB, h]
    rw [e]
    clear e
    have g : decide (lo ≤ n) = false := by simp; omega
    go_enter Try.func27, Try.ntmps27
    go_wp2
    go_ret
    exact ⟨rfl, rfl⟩

set_option maxRecDepth 100000 in
set_option maxHeartbeats 4000000 in
theorem rrings_any (l : Ly) (w : World) (h1 : 1 ≤ l.c.tasks) (h2 : l.c.tasks ≤ 64) : Calls Try.prog 29 #[lyV l] w (IntBelow (ringsN l.c.tasks) w) := by
  have hE : ringsN l.c.tasks = 1 ∧ l.c.tasks ≤ 4 ∨ ringsN l.c.tasks = 2 ∧ 4 < l.c.tasks ∧ l.c.tasks ≤ 8 ∨ ringsN l.c.tasks = 3 ∧ 8 < l.c.tasks ∧ l.c.tasks ≤ 16 ∨ ringsN l.c.tasks = 4 ∧ 16 < l.c.tasks ∧ l.c.tasks ≤ 32 ∨ ringsN l.c.tasks = 5 ∧ 32 < l.c.tasks := by
    unfold ringsN
    repeat' split
    all_goals omega
  obtain ⟨c, x1, x2, x3, x4, x5, x6, x7, x8, x9, x10, x11, x12, x13, x14, x15, x16⟩ := l
  obtain ⟨c0, c1, c2, c3, t, c5, c6, c7, c8⟩ := c
  dsimp only at *
  rcases hE with ⟨e, a1⟩ | ⟨e, a0, a1⟩ | ⟨e, a0, a1⟩ | ⟨e, a0, a1⟩ | ⟨e, a0⟩ <;> rw [e] <;> clear e
  · have g1 : decide (4 < t) = false := by simp; omega
    go_enter Try.func29, Try.ntmps29
    go_wp2
    refine wp_loop_rounds 1 ?_
    rw [rounds_succ]
    go_wp2
    go_ret
    exact ⟨rfl, below_al (Below.refl _ _) _⟩
  · have g1 : decide (4 < t) = true := by simp; omega
    have g2 : decide (8 < t) = false := by simp; omega
    go_enter Try.func29, Try.ntmps29
    go_wp2
    refine wp_loop_rounds 2 ?_
    rw [rounds_succ]
    go_wp2
    rw [rounds_succ]
    go_wp2
    go_ret
    exact ⟨rfl, below_al (Below.refl _ _) _⟩
  · have g1 : decide (4 < t) = true := by simp; omega
    have g2 : decide (8 < t) = true := by simp; omega
    have g3 : decide (16 < t) = false := by simp; omega
    go_enter Try.func29, Try.ntmps29
    go_wp2
    refine wp_loop_rounds 3 ?_
    rw [rounds_succ]
    go_wp2
    rw [rounds_succ]
    go_wp2
    rw [rounds_succ]
    go_wp2
    go_ret
    exact ⟨rfl, below_al (Below.refl _ _) _⟩
  · have g1 : decide (4 < t) = true := by simp; omega
    have g2 : decide (8 < t) = true := by simp; omega
    have g3 : decide (16 < t) = true := by simp; omega
    have g4 : decide (32 < t) = false := by simp; omega
    go_enter Try.func29, Try.ntmps29
    go_wp2
    refine wp_loop_rounds 4 ?_
    rw [rounds_succ]
    go_wp2
    rw [rounds_succ]
    go_wp2
    rw [rounds_succ]
    go_wp2
    rw [rounds_succ]
    go_wp2
    go_ret
    exact ⟨rfl, below_al (Below.refl _ _) _⟩
  · have g1 : decide (4 < t) = true := by simp; omega
    have g2 : decide (8 < t) = true := by simp; omega
    have g3 : decide (16 < t) = true := by simp; omega
    have g4 : decide (32 < t) = true := by simp; omega
    have g5 : decide (64 < t) = false := by simp; omega
    go_enter Try.func29, Try.ntmps29
    go_wp2
    refine wp_loop_rounds 5 ?_
    rw [rounds_succ]
    go_wp2
    rw [rounds_succ]
    go_wp2
    rw [rounds_succ]
    go_wp2
    rw [rounds_succ]
    go_wp2
    rw [rounds_succ]
    go_wp2
    go_ret
    exact ⟨rfl, below_al (Below.refl _ _) _⟩

theorem rroom_any (r : Int) (w : World) (h0 : 0 ≤ r) (h1 : r ≤ 6) : Calls Try.prog 30 #[.int .i64 r] w (IntSame (aheadN r) w) := by
  have h : r = 0 ∨ r = 1 ∨ r = 2 ∨ r = 3 ∨ r = 4 ∨ r = 5 ∨ r = 6 := by omega
  clear h0 h1
  rcases h with rfl | rfl | rfl | rfl | rfl | rfl | rfl
  · go_enter Try.func30, Try.ntmps30
    go_wp2
    refine wp_loop_rounds 1 ?_
    rw [rounds_succ]
    go_wp2
    go_ret
    exact ⟨rfl, rfl⟩
  · go_enter Try.func30, Try.ntmps30
    go_wp2
    refine wp_loop_rounds 2 ?_
    rw [rounds_succ]
    go_wp2
    rw [rounds_succ]
    go_wp2
    go_ret
    exact ⟨rfl, rfl⟩
  · go_enter Try.func30, Try.ntmps30
    go_wp2
    refine wp_loop_rounds 3 ?_
    rw [rounds_succ]
    go_wp2
    rw [rounds_succ]
    go_wp2
    rw [rounds_succ]
    go_wp2
    go_ret
    exact ⟨rfl, rfl⟩
  · go_enter Try.func30, Try.ntmps30
    go_wp2
    refine wp_loop_rounds 4 ?_
    rw [rounds_succ]
    go_wp2
    rw [rounds_succ]
    go_wp2
    rw [rounds_succ]
    go_wp2
    rw [rounds_succ]
    go_wp2
    go_ret
    exact ⟨rfl, rfl⟩
  · go_enter Try.func30, Try.ntmps30
    go_wp2
    refine wp_loop_rounds 5 ?_
    rw [rounds_succ]
    go_wp2
    rw [rounds_succ]
    go_wp2
    rw [rounds_succ]
    go_wp2
    rw [rounds_succ]
    go_wp2
    rw [rounds_succ]
    go_wp2
    go_ret
    exact ⟨rfl, rfl⟩
  · go_enter Try.func30, Try.ntmps30
    go_wp2
    refine wp_loop_rounds 6 ?_
    rw [rounds_succ]
    go_wp2
    rw [rounds_succ]
    go_wp2
    rw [rounds_succ]
    go_wp2
    rw [rounds_succ]
    go_wp2
    rw [rounds_succ]
    go_wp2
    rw [rounds_succ]
    go_wp2
    go_ret
    exact ⟨rfl, rfl⟩
  · go_enter Try.func30, Try.ntmps30
    go_wp2
    refine wp_loop_rounds 7 ?_
    rw [rounds_succ]
    go_wp2
    rw [rounds_succ]
    go_wp2
    rw [rounds_succ]
    go_wp2
    rw [rounds_succ]
    go_wp2
    rw [rounds_succ]
    go_wp2
    rw [rounds_succ]
    go_wp2
    rw [rounds_succ]
    go_wp2
    go_ret
    exact ⟨rfl, rfl⟩

end Go.Proofs.Ytgjdjgainjedhaa
