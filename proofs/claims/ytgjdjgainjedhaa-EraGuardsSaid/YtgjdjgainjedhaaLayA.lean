/- The small functions of layout. -/
import Derived.Test.YtgjdjgainjedhaaRows
import Derived.Test.YtgjdjgainjedhaaLayP
import Derived.WalkKit
import Derived.WalkSpells
import Derived.WalkLawsBesides
import Derived.Deep.RegionHeld3
import Derived.Deep.DrawnRows
import Derived.Deep.DeepMust
import Derived.IntWalk
namespace Go.Proofs.Ytgjdjgainjedhaa
open Go.RowKit
attribute [local go_sem ↓] Go.wp_at_zero Go.wp_at_succ

/-- How many cells the rings ahead of ring r have. -/
def aheadN (r : Int) : Int := if r = 0 then 0 else if r = 1 then 4 else if r = 2 then 12 else if r = 3 then 28 else if r = 4 then 60 else if r = 5 then 124 else 252
theorem within_in (f m e r i p : Int) (w : World) (hp : r * e = p) (h0 : 0 ≤ r) (h1 : r < m) (h2 : 0 ≤ i) (h3 : i < e) (hp0 : 0 ≤ p) (hp1 : p ≤ 1000000000) (hf0 : 0 ≤ f) (hf1 : f ≤ 1000000000) (hi : i ≤ 1000000000) :
    Calls Try.prog 47 #[.int .i64 f, .int .i64 m, .int .i64 e, .int .i64 r, .int .i64 i] w (IntSame (f + p + i) w) := by
  have g0 : decide (r < 0) = false := by simp; omega
  have g1 : decide (m ≤ r) = false := by simp; omega
  have g2 : decide (i < 0) = false := by simp; omega
  have g3 : decide (e ≤ i) = false := by simp; omega
  go_enter Try.func47, Try.ntmps47
  go_wp2
  go_ret
  exact ⟨rfl, rfl⟩
theorem within_out (f m e r i : Int) (w : World) (h : ¬ (0 ≤ r ∧ r < m ∧ 0 ≤ i ∧ i < e)) :
    Calls Try.prog 47 #[.int .i64 f, .int .i64 m, .int .i64 e, .int .i64 r, .int .i64 i] w (IntSame (-1) w) := by
  cases g0 : decide (r < 0) <;> cases g1 : decide (m ≤ r) <;> cases g2 : decide (i < 0) <;> cases g3 : decide (e ≤ i)
  all_goals first
    | (exfalso; simp at g0 g1 g2 g3; omega)
    | (clear h; go_enter Try.func47, Try.ntmps47; go_wp2; go_ret; exact ⟨rfl, rfl⟩)
end Go.Proofs.Ytgjdjgainjedhaa
