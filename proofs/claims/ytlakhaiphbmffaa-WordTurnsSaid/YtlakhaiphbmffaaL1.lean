/- The walks of the statements' own functions. -/
import Derived.Test.YtlakhaiphbmffaaW2
namespace Go.Proofs.Ytlakhaiphbmffaa
open Go.RowKit
attribute [local go_sem ↓] Go.wp_at_zero Go.wp_at_succ

theorem bcellA {W w1 : World} (hb : Below W.heap.size W w1) {b o : Nat} (h : b < W.heap.size) : w1.cell? ⟨b, o, none⟩ = W.cell? ⟨b, o, none⟩ := hb.cell (p := ⟨b, o, none⟩) h

theorem keep3 {w W w1 : World} {B : Nat} {x y z : Value} (hb : Below W.heap.size W w1)
    (h : Below w.heap.size w W ∧ B < W.heap.size ∧ W.cell? ⟨B, 0, none⟩ = some x ∧ W.cell? ⟨B, 1, none⟩ = some y ∧ W.cell? ⟨B, 2, none⟩ = some z) :
    Below w.heap.size w w1 ∧ B < w1.heap.size ∧ w1.cell? ⟨B, 0, none⟩ = some x ∧ w1.cell? ⟨B, 1, none⟩ = some y ∧ w1.cell? ⟨B, 2, none⟩ = some z := by
  obtain ⟨hw, h0, h⟩ := h
  refine ⟨below_tr hw hb, Nat.lt_of_lt_of_le h0 hb.size, ?_⟩
  simp only [bcellA hb h0]; exact h

theorem keep3d {w W : World} {B : Nat} {x y z : Value}
    (h : Below w.heap.size w W ∧ B < W.heap.size ∧ W.cell? ⟨B, 0, none⟩ = some x ∧ W.cell? ⟨B, 1, none⟩ = some y ∧ W.cell? ⟨B, 2, none⟩ = some z) :
    Below w.heap.size w W.drew ∧ B < W.drew.heap.size ∧ W.drew.cell? ⟨B, 0, none⟩ = some x ∧ W.drew.cell? ⟨B, 1, none⟩ = some y ∧ W.drew.cell? ⟨B, 2, none⟩ = some z := ⟨h.1.drew, h.2⟩

set_option maxHeartbeats 4000000 in
theorem packs_walk (i : Int) (m : Bool) (c n idx : Int) (w : World) :
    Calls Try.prog 3 #[refV i m c, .int .i64 n, .int .i64 idx] w (BoolBelow true w) := by
  go_enter Try.func3, Try.ntmps3
  go_wp2_with (go_at_call 9; refine (awake_any _).mono ?_; rintro e w1 ⟨rfl, hb0⟩)
  have hS := keep3 (w := w) (B := w.heap.size) (x := .int .i64 i) (y := .bool m) (z := .int .i64 c) hb0 ⟨below_al (Below.refl _ _) _, by simp, by simp, by simp, by simp⟩
  clear hb0
  go_region_held3 (fun w' => Below w.heap.size w w' ∧ w.heap.size < w'.heap.size ∧ w'.cell? ⟨w.heap.size, 0, none⟩ = some (.int .i64 i) ∧ w'.cell? ⟨w.heap.size, 1, none⟩ = some (.bool m) ∧ w'.cell? ⟨w.heap.size, 2, none⟩ = some (.int .i64 c))
    (first | exact keep3 (by assumption) (by assumption) | exact keep3d (by assumption) | go_keep)
    (first
      | (go_at_call 10; refine (pack_any _ _ _ _).mono ?_; rintro e w2 ⟨rfl, hb⟩)
      | (go_at_call 11; refine (rpack_any _ _ _ _).mono ?_; rintro e w2 ⟨rfl, hb⟩)
      | (go_at_call 12; refine (of_any _ _).mono ?_; rintro e w2 ⟨rfl, hb⟩)
      | (go_at_call 13; refine (rof_any _ _).mono ?_; rintro e w2 ⟨rfl, hb⟩)
      | (go_at_call 14; refine (turn_any _ _ _ _ _).mono ?_; rintro e w2 ⟨rfl, hb⟩)
      | (go_at_call 15; refine (rturn_any _ _ _ _ _).mono ?_; rintro e w2 ⟨rfl, hb⟩))
  go_wp2
  go_ret
  refine ⟨rfl, ?_⟩
  rename_i hh
  exact hh.1

theorem back1 (v k c : Int) : offerI (offerI v k c % 4294967296) (offerI v k c / 4294967296 % 4) (offerI v k c / 17179869184 % 268435456) = offerI v k c := by
  unfold offerI; omega
theorem back2 (n : Int) (h0 : 0 ≤ n) (h : n < 4611686018427387904) : offerI (n % 4294967296) (n / 4294967296 % 4) (n / 17179869184 % 268435456) = n := by
  unfold offerI; omega

set_option maxHeartbeats 4000000 in
theorem offers_any (v k c n : Int) (w : World) (h : n < 0 ∨ 4611686018427387904 ≤ n ∨ (0 ≤ n ∧ n < 4611686018427387904)) :
    Calls Try.prog 4 #[.int .i64 v, .int .i64 k, .int .i64 c, .int .i64 n] w (BoolBelow true w) := by
  have b1 := back1 v k c
  have ha := Below.refl w.heap.size w
  rcases h with h | h | ⟨h0, h⟩
  · go_enter Try.func4, Try.ntmps4
    go_wp2_with (first
      | (go_at_call 9; refine (awake_any _).mono ?_; rintro e w1 ⟨rfl, hb⟩; replace ha := below_tr ha hb; clear hb)
      | (go_at_call 16; refine (offered_any _ _).mono ?_; rintro e w' ⟨rfl, rfl⟩)
      | (go_at_call 17; refine (roffered_any _ _).mono ?_; rintro e w' ⟨rfl, rfl⟩)
      | (go_at_call 18; refine (offer_any _ _ _ _).mono ?_; rintro e w2 ⟨rfl, hb⟩; replace ha := below_tr ha hb; clear hb)
      | (go_at_call 19; refine (roffer_any _ _ _ _).mono ?_; rintro e w' ⟨rfl, rfl⟩))
    go_ret
    exact ⟨rfl, ha⟩
  · go_enter Try.func4, Try.ntmps4
    go_wp2_with (first
      | (go_at_call 9; refine (awake_any _).mono ?_; rintro e w1 ⟨rfl, hb⟩; replace ha := below_tr ha hb; clear hb)
      | (go_at_call 16; refine (offered_any _ _).mono ?_; rintro e w' ⟨rfl, rfl⟩)
      | (go_at_call 17; refine (roffered_any _ _).mono ?_; rintro e w' ⟨rfl, rfl⟩)
      | (go_at_call 18; refine (offer_any _ _ _ _).mono ?_; rintro e w2 ⟨rfl, hb⟩; replace ha := below_tr ha hb; clear hb)
      | (go_at_call 19; refine (roffer_any _ _ _ _).mono ?_; rintro e w' ⟨rfl, rfl⟩))
    go_ret
    exact ⟨rfl, ha⟩
  · have b2 := back2 n h0 h
    go_enter Try.func4, Try.ntmps4
    go_wp2_with (first
      | (go_at_call 9; refine (awake_any _).mono ?_; rintro e w1 ⟨rfl, hb⟩; replace ha := below_tr ha hb; clear hb)
      | (go_at_call 16; refine (offered_any _ _).mono ?_; rintro e w' ⟨rfl, rfl⟩)
      | (go_at_call 17; refine (roffered_any _ _).mono ?_; rintro e w' ⟨rfl, rfl⟩)
      | (go_at_call 18; refine (offer_any _ _ _ _).mono ?_; rintro e w2 ⟨rfl, hb⟩; replace ha := below_tr ha hb; clear hb)
      | (go_at_call 19; refine (roffer_any _ _ _ _).mono ?_; rintro e w' ⟨rfl, rfl⟩))
    go_ret
    exact ⟨rfl, ha⟩

theorem offers_walk (v k c n : Int) (w : World) :
    Calls Try.prog 4 #[.int .i64 v, .int .i64 k, .int .i64 c, .int .i64 n] w (BoolBelow true w) := offers_any v k c n w (by omega)

end Go.Proofs.Ytlakhaiphbmffaa
