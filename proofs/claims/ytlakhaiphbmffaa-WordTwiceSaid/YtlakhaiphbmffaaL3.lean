/- The walks of WordTwice and WordSplits. -/
import Derived.Test.YtlakhaiphbmffaaL1
namespace Go.Proofs.Ytlakhaiphbmffaa
open Go.RowKit

theorem rev_rev (x : Int) (h0 : 0 ≤ x) (h : x < 65536) : revI (revI x) = x := by
  have hb := revI_bd x
  have e : (revI x % 65536).toNat = rv 16 (x % 65536).toNat := by unfold revI at *; omega
  show ((rv 16 (revI x % 65536).toNat : Nat) : Int) = x
  rw [e, rv_rv]
  omega
theorem rev_inj (x y : Int) (hx0 : 0 ≤ x) (hx : x < 65536) (hy0 : 0 ≤ y) (hy : y < 65536) (h : revI x = revI y) : x = y := by
  rw [← rev_rev x hx0 hx, h, rev_rev y hy0 hy]

/-- What the four functions tell, the numbers being letters. -/
structure Told (x a r d : Int) : Prop where
  ra : ∀ w, Calls Try.prog 22 #[.int .i64 x] w fun e w' => e = .returned (.int .i64 a) ∧ w = w'
  rb : ∀ w, Calls Try.prog 22 #[.int .i64 a] w fun e w' => e = .returned (.int .i64 x) ∧ w = w'
  re : ∀ w, Calls Try.prog 20 #[.int .i64 x] w fun e w' => e = .returned (.int .i64 r) ∧ w = w'
  du : ∀ w, Calls Try.prog 21 #[.int .i64 x] w fun e w' => e = .returned (.int .i64 d) ∧ w = w'
  kr : ∀ w, Calls Try.prog 23 #[.int .i64 r] w fun e w' => e = .returned (.int .i64 x) ∧ w = w'
  kd : ∀ w, Calls Try.prog 23 #[.int .i64 d] w fun e w' => e = .returned (.int .i64 x) ∧ w = w'
theorem told (x : Int) (h0 : 0 ≤ x) (h : x < 65536) : Told x (revI x) (2 * revI x + 1) (2 * revI x) := by
  have hb := revI_bd x
  refine ⟨rev_any x, fun w => ?_, real_any x, dummy_any x, fun w => ?_, fun w => ?_⟩
  · have := rev_any (revI x) w
    rwa [rev_rev x h0 h] at this
  · have := key_any (2 * revI x + 1) w
    rwa [show (2 * revI x + 1) % 131072 / 2 = revI x by omega, rev_rev x h0 h] at this
  · have := key_any (2 * revI x) w
    rwa [show (2 * revI x) % 131072 / 2 = revI x by omega, rev_rev x h0 h] at this

set_option maxRecDepth 100000 in
set_option maxHeartbeats 4000000 in
theorem twice_core (x y a a2 r d r2 d2 : Int) (w : World) (hx0 : 0 ≤ x) (hx : x < 65536) (hy0 : 0 ≤ y) (hy : y < 65536) (T : Told x a r d) (T2 : Told y a2 r2 d2)
    (q1 : (r % 2 == 1) = true) (q2 : (d2 % 2 == 0) = true) (q3 : 0 ≤ r) (q4 : r < 131072) (q8 : 0 ≤ d2) (q5 : (r == r2) = (x == y)) (q6 : (d == d2) = (x == y)) :
    Calls Try.prog 7 #[.int .u16 x, .int .u16 y] w (BoolBelow true w) := by
  have ha := Below.refl w.heap.size w
  go_enter Try.func7, Try.ntmps7
  go_wp2_with (first
      | (go_at_call 9; refine (awake_any _).mono ?_; rintro e w1 ⟨rfl, hb⟩; replace ha := below_tr ha hb; clear hb)
      | (go_at_call 20; first | (with_reducible refine (T.re _).mono ?_) | (with_reducible refine (T2.re _).mono ?_)); (rintro e w' ⟨rfl, rfl⟩)
      | (go_at_call 21; first | (with_reducible refine (T.du _).mono ?_) | (with_reducible refine (T2.du _).mono ?_)); (rintro e w' ⟨rfl, rfl⟩)
      | (go_at_call 22; first | (with_reducible refine (T.rb _).mono ?_) | (with_reducible refine (T.ra _).mono ?_)); (rintro e w' ⟨rfl, rfl⟩)
      | (go_at_call 23; first | (with_reducible refine (T.kr _).mono ?_) | (with_reducible refine (T2.kd _).mono ?_)); (rintro e w' ⟨rfl, rfl⟩))
  go_ret
  exact ⟨rfl, ha⟩

theorem twice_walk (x y : Int) (w : World) (hx0 : 0 ≤ x) (hx : x < 65536) (hy0 : 0 ≤ y) (hy : y < 65536) :
    Calls Try.prog 7 #[.int .u16 x, .int .u16 y] w (BoolBelow true w) := by
  have bx := revI_bd x
  have hbx := revI_bd y
  refine twice_core x y _ _ _ _ _ _ w hx0 hx hy0 hy (told x hx0 hx) (told y hy0 hy) ?_ ?_ (by omega) (by omega) (by omega) ?_ ?_
  · rw [beq_iff_eq]; omega
  · rw [beq_iff_eq]; omega
  · rw [Bool.eq_iff_iff, beq_iff_eq, beq_iff_eq]
    exact ⟨fun h => rev_inj x y hx0 hx hy0 hy (by omega), fun h => by rw [h]⟩
  · rw [Bool.eq_iff_iff, beq_iff_eq, beq_iff_eq]
    exact ⟨fun h => rev_inj x y hx0 hx hy0 hy (by omega), fun h => by rw [h]⟩
end Go.Proofs.Ytlakhaiphbmffaa
