/- The small functions of layout. -/
import Derived.Test.YtdjglkpcdhkodaaRows
import Derived.Test.YtdjglkpcdhkodaaLayP
import Derived.WalkKit
import Derived.WalkSpells
import Derived.WalkLawsBesides
import Derived.Deep.RegionHeld3
import Derived.Deep.DrawnRows
import Derived.Deep.DeepMust
import Derived.IntWalk
namespace Go.Proofs.Ytdjglkpcdhkodaa
open Go.RowKit
attribute [local go_sem ↓] Go.wp_at_zero Go.wp_at_succ

set_option maxRecDepth 100000 in
set_option maxHeartbeats 4000000 in
theorem rings_any (l : Ly) (w : World) (h1 : 1 ≤ l.c.tasks) (h2 : l.c.tasks ≤ 64) : Calls Try.prog 48 #[lyV l] w (IntBelow (ringsN l.c.tasks) w) := by
  have hE : ringsN l.c.tasks = 1 ∧ l.c.tasks ≤ 4 ∨ ringsN l.c.tasks = 2 ∧ 4 < l.c.tasks ∧ l.c.tasks ≤ 8 ∨ ringsN l.c.tasks = 3 ∧ 8 < l.c.tasks ∧ l.c.tasks ≤ 16 ∨ ringsN l.c.tasks = 4 ∧ 16 < l.c.tasks ∧ l.c.tasks ≤ 32 ∨ ringsN l.c.tasks = 5 ∧ 32 < l.c.tasks := by
    unfold ringsN
    repeat' split
    all_goals omega
  obtain ⟨c, x1, x2, x3, x4, x5, x6, x7, x8, x9, x10, x11, x12, x13, x14, x15, x16⟩ := l
  obtain ⟨c0, c1, c2, c3, t, c5, c6, c7, c8⟩ := c
  dsimp only at *
  have hm : IntKind.u64.wrap t = t := IntWalk.u64_in t (by omega)
  have h0 : 0 ≤ t := by omega
  rcases hE with ⟨e, a1⟩ | ⟨e, a0, a1⟩ | ⟨e, a0, a1⟩ | ⟨e, a0, a1⟩ | ⟨e, a0⟩ <;> rw [e] <;> clear e
  · have g1 : decide (4 < t) = false := by simp; omega
    go_enter Try.func48, Try.ntmps48
    go_wp2
    refine wp_loop_rounds 1 ?_
    rw [rounds_succ]
    go_wp2
    go_ret
    exact ⟨rfl, below_al (Below.refl _ _) _⟩
  · have g1 : decide (4 < t) = true := by simp; omega
    have g2 : decide (8 < t) = false := by simp; omega
    go_enter Try.func48, Try.ntmps48
    go_wp2
    refine wp_loop_rounds 2 ?_
    rw [rounds_succ]
    go_wp2
    rw [rounds_succ]
    go_wp2
    go_ret
    exact ⟨rfl, below_al (Below.refl _ _) _⟩
  · have g1 : decide (4 < t) = true := by simp; omega
    have g2 : decide (8 < t) = true := by simp; omega
    have g3 : decide (16 < t) = false := by simp; omega
    go_enter Try.func48, Try.ntmps48
    go_wp2
    refine wp_loop_rounds 3 ?_
    rw [rounds_succ]
    go_wp2
    rw [rounds_succ]
    go_wp2
    rw [rounds_succ]
    go_wp2
    go_ret
    exact ⟨rfl, below_al (Below.refl _ _) _⟩
  · have g1 : decide (4 < t) = true := by simp; omega
    have g2 : decide (8 < t) = true := by simp; omega
    have g3 : decide (16 < t) = true := by simp; omega
    have g4 : decide (32 < t) = false := by simp; omega
    go_enter Try.func48, Try.ntmps48
    go_wp2
    refine wp_loop_rounds 4 ?_
    rw [rounds_succ]
    go_wp2
    rw [rounds_succ]
    go_wp2
    rw [rounds_succ]
    go_wp2
    rw [rounds_succ]
    go_wp2
    go_ret
    exact ⟨rfl, below_al (Below.refl _ _) _⟩
  · have g1 : decide (4 < t) = true := by simp; omega
    have g2 : decide (8 < t) = true := by simp; omega
    have g3 : decide (16 < t) = true := by simp; omega
    have g4 : decide (32 < t) = true := by simp; omega
    have g5 : decide (64 < t) = false := by simp; omega
    go_enter Try.func48, Try.ntmps48
    go_wp2
    refine wp_loop_rounds 5 ?_
    rw [rounds_succ]
    go_wp2
    rw [rounds_succ]
    go_wp2
    rw [rounds_succ]
    go_wp2
    rw [rounds_succ]
    go_wp2
    rw [rounds_succ]
    go_wp2
    go_ret
    exact ⟨rfl, below_al (Below.refl _ _) _⟩

/-- How many cells the rings ahead of ring r have. -/
def aheadN (r : Int) : Int := if r = 0 then 0 else if r = 1 then 4 else if r = 2 then 12 else if r = 3 then 28 else if r = 4 then 60 else if r = 5 then 124 else 252
theorem ahead_any (r : Int) (w : World) (h0 : 0 ≤ r) (h1 : r ≤ 6) : Calls Try.prog 62 #[.int .i64 r] w (IntSame (aheadN r) w) := by
  have h : r = 0 ∨ r = 1 ∨ r = 2 ∨ r = 3 ∨ r = 4 ∨ r = 5 ∨ r = 6 := by omega
  clear h0 h1
  rcases h with rfl | rfl | rfl | rfl | rfl | rfl | rfl <;> (go_enter Try.func62, Try.ntmps62; go_wp2; go_ret; exact ⟨rfl, rfl⟩)

theorem within_in (f m e r i p : Int) (w : World) (hp : r * e = p) (h0 : 0 ≤ r) (h1 : r < m) (h2 : 0 ≤ i) (h3 : i < e) (hp0 : 0 ≤ p) (hp1 : p ≤ 1000000000) (hf0 : 0 ≤ f) (hf1 : f ≤ 1000000000) (hi : i ≤ 1000000000) :
    Calls Try.prog 59 #[.int .i64 f, .int .i64 m, .int .i64 e, .int .i64 r, .int .i64 i] w (IntSame (f + p + i) w) := by
  have g0 : decide (r < 0) = false := by simp; omega
  have g1 : decide (m ≤ r) = false := by simp; omega
  have g2 : decide (i < 0) = false := by simp; omega
  have g3 : decide (e ≤ i) = false := by simp; omega
  go_enter Try.func59, Try.ntmps59
  go_wp2
  go_ret
  exact ⟨rfl, rfl⟩
theorem within_out (f m e r i : Int) (w : World) (h : ¬ (0 ≤ r ∧ r < m ∧ 0 ≤ i ∧ i < e)) :
    Calls Try.prog 59 #[.int .i64 f, .int .i64 m, .int .i64 e, .int .i64 r, .int .i64 i] w (IntSame (-1) w) := by
  cases g0 : decide (r < 0) <;> cases g1 : decide (m ≤ r) <;> cases g2 : decide (i < 0) <;> cases g3 : decide (e ≤ i)
  all_goals first
    | (exfalso; simp at g0 g1 g2 g3; omega)
    | (clear h; go_enter Try.func59, Try.ntmps59; go_wp2; go_ret; exact ⟨rfl, rfl⟩)
end Go.Proofs.Ytdjglkpcdhkodaa
