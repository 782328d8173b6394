/- A node's cells. -/
import Derived.Test.YtgjdjgainjedhaaLayC
import Derived.Test.YtgjdjgainjedhaaArM
namespace Go.Proofs.Ytgjdjgainjedhaa
open Go.RowKit
attribute [local go_sem ↓] Go.wp_at_zero Go.wp_at_succ

structure LyFull (l : Ly) : Prop where
  x1 : 0 ≤ l.alive ∧ l.alive ≤ 1000000
  x2 : 0 ≤ l.owner ∧ l.owner ≤ 1000000
  x3 : 0 ≤ l.resv ∧ l.resv ≤ 1000000
  x4 : 0 ≤ l.deque ∧ l.deque ≤ 1000000
  x5 : 0 ≤ l.task ∧ l.task ≤ 1000000
  x6 : 0 ≤ l.cell ∧ l.cell ≤ 1000000
  x7 : 0 ≤ l.map ∧ l.map ≤ 1000000
  x8 : 0 ≤ l.stack ∧ l.stack ≤ 1000000
  x9 : 0 ≤ l.chan ∧ l.chan ≤ 1000000
  x10 : 0 ≤ l.node ∧ l.node ≤ 1000000
  y1 : 0 ≤ l.c.seats ∧ l.c.seats ≤ 8
  y2 : 0 ≤ l.c.tasks ∧ l.c.tasks ≤ 64
  y3 : 0 ≤ l.c.cells ∧ l.c.cells ≤ 16
  y4 : 0 ≤ l.c.maps ∧ l.c.maps ≤ 8
  y5 : 0 ≤ l.c.buckets ∧ l.c.buckets ≤ 64
  y6 : 0 ≤ l.c.stacks ∧ l.c.stacks ≤ 8
  y7 : 0 ≤ l.c.slots ∧ l.c.slots ≤ 8
  y8 : 0 ≤ l.c.chans ∧ l.c.chans ≤ 8
  y9 : 0 ≤ l.c.nodes ∧ l.c.nodes ≤ 1000
theorem lyFull_of (c : Cf) (h : c.can) : LyFull (lyOf c) := by
  have hl := lyOk_of c h
  obtain ⟨b0, b1, b2, b3, b4, b5, b6, b7, b8, b9, b10, b11⟩ := hl.b0
  have r0 : 1 ≤ c.seats ∧ c.seats ≤ 8 := h.1.1 0 (by omega)
  have r1 : 1 ≤ c.buckets ∧ c.buckets ≤ 64 := h.1.1 1 (by omega)
  have r2 : 1 ≤ c.slots ∧ c.slots ≤ 8 := h.1.1 2 (by omega)
  have r3 : 1 ≤ c.tasks ∧ c.tasks ≤ 64 := h.1.1 3 (by omega)
  have r4 : 0 ≤ c.cells ∧ c.cells ≤ 16 := h.1.1 4 (by omega)
  have r5 : 0 ≤ c.maps ∧ c.maps ≤ 8 := h.1.1 5 (by omega)
  have r6 : 0 ≤ c.stacks ∧ c.stacks ≤ 8 := h.1.1 6 (by omega)
  have r7 : 0 ≤ c.chans ∧ c.chans ≤ 8 := h.1.1 7 (by omega)
  have n1 := h.2
  have e : (lyOf c).c = c := rfl
  have ea : (lyOf c).alive = 4 := rfl
  constructor
  all_goals (try rw [e])
  all_goals (try rw [ea])
  all_goals omega
theorem within_any (f m e r i : Int) (w : World) (hf0 : 0 ≤ f) (hf1 : f ≤ 1000000) (hm : m ≤ 1000) (he : e ≤ 1000) : Calls Try.prog 47 #[.int .i64 f, .int .i64 m, .int .i64 e, .int .i64 r, .int .i64 i] w (IntSame (withinN f m e r i) w) := by
  unfold withinN
  split
  · rename_i h
    have hp := mul_bd r e 1000 1000 (by omega) (by omega) (by omega) (by omega)
    exact within_in f m e r i (r * e) w rfl h.1 h.2.1 h.2.2.1 h.2.2.2 hp.1 (by omega) hf0 (by omega) (by omega)
  · rename_i h
    exact within_out f m e r i w h

set_option maxRecDepth 100000 in
set_option maxHeartbeats 2000000 in
theorem node_any (l : Ly) (a b : Int) (w : World) (f : LyFull l) (ha : a ≤ 9223372036854775807) : Calls Try.prog 25 #[lyV l, .int .i64 a, .int .i64 b] w (IntBelow (nodeAt l a b) w) := by
  obtain ⟨x1, x2, x3, x4, x5, x6, x7, x8, x9, x10, y1, y2, y3, y4, y5, y6, y7, y8, y9⟩ := f
  by_cases h : a < 1
  · have e : nodeAt l a b = -1 := by unfold nodeAt; rw [if_pos h]
    rw [e]
    clear e
    have g1 : decide (a < 1) = true := by simp; omega
    go_enter Try.func25, Try.ntmps25
    go_wp2
    go_ret
    exact ⟨rfl, below_al (Below.refl _ _) _⟩
  · have e : nodeAt l a b = withinN (l.node) (l.c.nodes) (8) (a - 1) (b) := by unfold nodeAt; rw [if_neg h]
    rw [e]
    clear e
    have g1 : decide (a < 1) = false := by simp; omega
    go_enter Try.func25, Try.ntmps25
    go_wp2_with fail
    (with_reducible refine (within_any (l.node) (l.c.nodes) (8) (a - 1) (b) _ (by omega) (by omega) (by omega) (by omega)).mono ?_)
    rintro e w1 ⟨rfl, rfl⟩
    generalize withinN (l.node) (l.c.nodes) (8) (a - 1) (b) = v at *
    go_wp2
    go_ret
    exact ⟨rfl, below_al (Below.refl _ _) _⟩
end Go.Proofs.Ytgjdjgainjedhaa
