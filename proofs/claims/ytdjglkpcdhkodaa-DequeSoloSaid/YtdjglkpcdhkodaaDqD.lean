/- layout.Deque at a seat of the layout. -/
import Derived.Test.YtdjglkpcdhkodaaRingD
namespace Go.Proofs.Ytdjglkpcdhkodaa
open Go.RowKit
attribute [local go_sem ↓] Go.wp_at_zero Go.wp_at_succ

set_option maxRecDepth 100000 in
set_option maxHeartbeats 2000000 in
theorem deque_in (l : Ly) (s z : Int) (i d : Nat) (w : World) (hzi : z = i) (hs0 : 0 ≤ s) (hs1 : s < l.c.seats) (hs2 : l.c.seats ≤ 8) (hi : i ≤ 2) (hd0 : 0 ≤ l.deque) (hd1 : l.deque ≤ 1000000) (hd : l.deque + s * 3 = d) :
    Calls Try.prog 55 #[lyV l, .int .i64 s, .int .i64 z] w (IntBelow ((d + i : Nat) : Int) w) := by
  subst hzi
  have e : ((d + i : Nat) : Int) = l.deque + s * 3 + i := by omega
  rw [e]
  clear e
  go_enter Try.func55, Try.ntmps55
  go_wp2_with fail
  (with_reducible refine (within_in l.deque l.c.seats 3 s i (s * 3) _ rfl (by omega) (by omega) (by omega) (by omega) (by omega) (by omega) (by omega) (by omega) (by omega)).mono ?_)
  rintro e w1 ⟨rfl, rfl⟩
  generalize l.deque + s * 3 + (i : Int) = v at *
  go_wp2
  go_ret
  exact ⟨rfl, below_al (Below.refl _ _) _⟩

end Go.Proofs.Ytdjglkpcdhkodaa
