/- The places of a layout: printed by places_gen.py. -/
import Derived.Test.YtgjdjgainjedhaaLayN
import Derived.Test.YtgjdjgainjedhaaEaM
namespace Go.Proofs.Ytgjdjgainjedhaa
open Go.RowKit
attribute [local go_sem ↓] Go.wp_at_zero Go.wp_at_succ

set_option maxRecDepth 100000 in
set_option maxHeartbeats 2000000 in
theorem resv_any (l : Ly) (a b : Int) (w : World) (f : LyFull l) : Calls Try.prog 50 #[lyV l, .int .i64 a, .int .i64 b] w (IntBelow (resvAt l a b) w) := by
  obtain ⟨x1, x2, x3, x4, x5, x6, x7, x8, x9, x10, y1, y2, y3, y4, y5, y6, y7, y8, y9⟩ := f
  unfold resvAt
  go_enter Try.func50, Try.ntmps50
  go_wp2_with fail
  (with_reducible refine (within_any (l.resv) (l.c.seats) (3) (a) (b) _ (by omega) (by omega) (by omega) (by omega)).mono ?_)
  rintro e w1 ⟨rfl, rfl⟩
  generalize withinN (l.resv) (l.c.seats) (3) (a) (b) = v at *
  go_wp2
  go_ret
  exact ⟨rfl, below_al (Below.refl _ _) _⟩

end Go.Proofs.Ytgjdjgainjedhaa
