/- The reference's may. -/
import Derived.Test.YtgjdjgainjedhaaRefA
import Derived.Test.YtgjdjgainjedhaaLayB
namespace Go.Proofs.Ytgjdjgainjedhaa
open Go.RowKit
attribute [local go_sem ↓] Go.wp_at_zero Go.wp_at_succ

def PwRel (b : Int) (p v : Value) : Prop :=
  ∃ (x : Int) (q : Bool), v = .int .i64 x ∧ p = .bool q ∧ (x = 1 ∧ q = (false) ∨ x = 2 ∧ q = (b == 1) ∨ x = 4 ∧ q = (b == 1 || b == 2) ∨ x = 8 ∧ q = (b == 1 || b == 2 || b == 4) ∨ x = 16 ∧ q = (b == 1 || b == 2 || b == 4 || b == 8) ∨ x = 32 ∧ q = (b == 1 || b == 2 || b == 4 || b == 8 || b == 16) ∨ x = 64 ∧ q = (b == 1 || b == 2 || b == 4 || b == 8 || b == 16 || b == 32) ∨ x = 128 ∧ q = (pow2B b))
def mayB (c : Cf) : Bool := pow2B c.buckets && (inB c.seats 1 8 && (inB c.slots 1 8 && (inB c.tasks 1 64 && (inB c.cells 0 16 && (inB c.maps 0 8 && (inB c.stacks 0 8 && inB c.chans 0 8))))))
theorem mayB_iff (c : Cf) : mayB c = true ↔ c.may := by
  constructor
  · intro h
    simp only [mayB, inB, Bool.and_eq_true, decide_eq_true_eq] at h
    obtain ⟨hp, h0, h2, h3, h4, h5, h6, h7⟩ := h
    have hb : 1 ≤ c.buckets ∧ c.buckets ≤ 64 := by
      simp only [pow2B, Bool.or_eq_true, beq_iff_eq] at hp
      omega
    refine ⟨fun j hj => ?_, hp⟩
    have hj' : j = 0 ∨ j = 1 ∨ j = 2 ∨ j = 3 ∨ j = 4 ∨ j = 5 ∨ j = 6 ∨ j = 7 := by omega
    rcases hj' with rfl | rfl | rfl | rfl | rfl | rfl | rfl | rfl
    · exact h0
    · exact hb
    · exact h2
    · exact h3
    · exact h4
    · exact h5
    · exact h6
    · exact h7
  · intro h
    have r0 : 1 ≤ c.seats ∧ c.seats ≤ 8 := h.1 0 (by omega)
    have r2 : 1 ≤ c.slots ∧ c.slots ≤ 8 := h.1 2 (by omega)
    have r3 : 1 ≤ c.tasks ∧ c.tasks ≤ 64 := h.1 3 (by omega)
    have r4 : 0 ≤ c.cells ∧ c.cells ≤ 16 := h.1 4 (by omega)
    have r5 : 0 ≤ c.maps ∧ c.maps ≤ 8 := h.1 5 (by omega)
    have r6 : 0 ≤ c.stacks ∧ c.stacks ≤ 8 := h.1 6 (by omega)
    have r7 : 0 ≤ c.chans ∧ c.chans ≤ 8 := h.1 7 (by omega)
    simp only [mayB, inB, h.2, Bool.and_eq_true, decide_eq_true_eq, true_and]
    exact ⟨r0, r2, r3, r4, r5, r6, r7⟩

set_option maxRecDepth 100000 in
set_option maxHeartbeats 8000000 in
theorem rmay_any (c : Cf) (w : World) : Calls Try.prog 28 #[cfV c] w (BoolBelow (mayB c) w) := by
  go_enter Try.func28, Try.ntmps28
  go_wp2_with fail
  go_loop [3, 4, 5, 6, 7, 8, 9, 10, 11, 12, 13, 14, 15] (fun p v _ _ _ _ _ _ _ _ _ _ _ => PwRel c.buckets p v) (fun p v _ _ _ _ _ _ _ _ _ _ _ => 200 - (intOf v).toNat)
  case atStart => exact ⟨1, false, rfl, rfl, .inl ⟨rfl, rfl⟩⟩
  case round =>
    obtain ⟨x, q, rfl, rfl, hx⟩ := hrel
    rcases hx with ⟨rfl, hq⟩ | ⟨rfl, hq⟩ | ⟨rfl, hq⟩ | ⟨rfl, hq⟩ | ⟨rfl, hq⟩ | ⟨rfl, hq⟩ | ⟨rfl, hq⟩ | ⟨rfl, hq⟩
    · have HQ := Lib.hid hq
      clear hq
      cases q
      · go_wp2
        go_round
        case rel => exact ⟨2, (c.buckets == 1), rfl, rfl, .inr (.inl ⟨rfl, by simp⟩)⟩
        case measure => simp [intOf]
      · go_wp2
        go_round
        case rel => exact ⟨2, true, rfl, rfl, .inr (.inl ⟨rfl, by have := HQ.out; simp at this⟩)⟩
        case measure => simp [intOf]
    · have HQ := Lib.hid hq
      clear hq
      cases q
      · go_wp2
        go_round
        case rel => exact ⟨4, (c.buckets == 2), rfl, rfl, .inr (.inr (.inl ⟨rfl, by have h := HQ.out; rw [← h]; simp⟩))⟩
        case measure => simp [intOf]
      · go_wp2
        go_round
        case rel => exact ⟨4, true, rfl, rfl, .inr (.inr (.inl ⟨rfl, by have h := HQ.out; rw [← h]; simp⟩))⟩
        case measure => simp [intOf]
    · have HQ := Lib.hid hq
      clear hq
      cases q
      · go_wp2
        go_round
        case rel => exact ⟨8, (c.buckets == 4), rfl, rfl, .inr (.inr (.inr (.inl ⟨rfl, by have h := HQ.out; rw [← h]; simp⟩)))⟩
        case measure => simp [intOf]
      · go_wp2
        go_round
        case rel => exact ⟨8, true, rfl, rfl, .inr (.inr (.inr (.inl ⟨rfl, by have h := HQ.out; rw [← h]; simp⟩)))⟩
        case measure => simp [intOf]
    · have HQ := Lib.hid hq
      clear hq
      cases q
      · go_wp2
        go_round
        case rel => exact ⟨16, (c.buckets == 8), rfl, rfl, .inr (.inr (.inr (.inr (.inl ⟨rfl, by have h := HQ.out; rw [← h]; simp⟩))))⟩
        case measure => simp [intOf]
      · go_wp2
        go_round
        case rel => exact ⟨16, true, rfl, rfl, .inr (.inr (.inr (.inr (.inl ⟨rfl, by have h := HQ.out; rw [← h]; simp⟩))))⟩
        case measure => simp [intOf]
    · have HQ := Lib.hid hq
      clear hq
      cases q
      · go_wp2
        go_round
        case rel => exact ⟨32, (c.buckets == 16), rfl, rfl, .inr (.inr (.inr (.inr (.inr (.inl ⟨rfl, by have h := HQ.out; rw [← h]; simp⟩)))))⟩
        case measure => simp [intOf]
      · go_wp2
        go_round
        case rel => exact ⟨32, true, rfl, rfl, .inr (.inr (.inr (.inr (.inr (.inl ⟨rfl, by have h := HQ.out; rw [← h]; simp⟩)))))⟩
        case measure => simp [intOf]
    · have HQ := Lib.hid hq
      clear hq
      cases q
      · go_wp2
        go_round
        case rel => exact ⟨64, (c.buckets == 32), rfl, rfl, .inr (.inr (.inr (.inr (.inr (.inr (.inl ⟨rfl, by have h := HQ.out; rw [← h]; simp⟩))))))⟩
        case measure => simp [intOf]
      · go_wp2
        go_round
        case rel => exact ⟨64, true, rfl, rfl, .inr (.inr (.inr (.inr (.inr (.inr (.inl ⟨rfl, by have h := HQ.out; rw [← h]; simp⟩))))))⟩
        case measure => simp [intOf]
    · have HQ := Lib.hid hq
      clear hq
      cases q
      · go_wp2
        go_round
        case rel => exact ⟨128, (c.buckets == 64), rfl, rfl, .inr (.inr (.inr (.inr (.inr (.inr (.inr (⟨rfl, by have h := HQ.out; unfold pow2B; rw [← h]; simp⟩)))))))⟩
        case measure => simp [intOf]
      · go_wp2
        go_round
        case rel => exact ⟨128, true, rfl, rfl, .inr (.inr (.inr (.inr (.inr (.inr (.inr (⟨rfl, by have h := HQ.out; unfold pow2B; rw [← h]; simp⟩)))))))⟩
        case measure => simp [intOf]
    · have HQ := Lib.hid hq
      clear hq
      cases q
      · have e : mayB c = false := by have := HQ.out; simp [mayB, ← this]
        have HE := Lib.hid e
        clear e
        go_wp2
        go_ret
        rw [HE.out]
        exact ⟨rfl, below_al (Below.refl _ _) _⟩
      · go_wp2_with fail
        (with_reducible refine (rin_any c.seats 1 8 _).mono ?_)
        rintro e w1 ⟨rfl, rfl⟩
        cases h_seats : inB c.seats 1 8
        · have e : mayB c = false := by simp [mayB, h_seats]
          have HE := Lib.hid e
          clear e
          go_wp2
          go_ret
          rw [HE.out]
          exact ⟨rfl, below_al (Below.refl _ _) _⟩
        go_wp2_with fail
        (with_reducible refine (rin_any c.slots 1 8 _).mono ?_)
        rintro e w1 ⟨rfl, rfl⟩
        cases h_slots : inB c.slots 1 8
        · have e : mayB c = false := by simp [mayB, h_slots]
          have HE := Lib.hid e
          clear e
          go_wp2
          go_ret
          rw [HE.out]
          exact ⟨rfl, below_al (Below.refl _ _) _⟩
        go_wp2_with fail
        (with_reducible refine (rin_any c.tasks 1 64 _).mono ?_)
        rintro e w1 ⟨rfl, rfl⟩
        cases h_tasks : inB c.tasks 1 64
        · have e : mayB c = false := by simp [mayB, h_tasks]
          have HE := Lib.hid e
          clear e
          go_wp2
          go_ret
          rw [HE.out]
          exact ⟨rfl, below_al (Below.refl _ _) _⟩
        go_wp2_with fail
        (with_reducible refine (rin_any c.cells 0 16 _).mono ?_)
        rintro e w1 ⟨rfl, rfl⟩
        cases h_cells : inB c.cells 0 16
        · have e : mayB c = false := by simp [mayB, h_cells]
          have HE := Lib.hid e
          clear e
          go_wp2
          go_ret
          rw [HE.out]
          exact ⟨rfl, below_al (Below.refl _ _) _⟩
        go_wp2_with fail
        (with_reducible refine (rin_any c.maps 0 8 _).mono ?_)
        rintro e w1 ⟨rfl, rfl⟩
        cases h_maps : inB c.maps 0 8
        · have e : mayB c = false := by simp [mayB, h_maps]
          have HE := Lib.hid e
          clear e
          go_wp2
          go_ret
          rw [HE.out]
          exact ⟨rfl, below_al (Below.refl _ _) _⟩
        go_wp2_with fail
        (with_reducible refine (rin_any c.stacks 0 8 _).mono ?_)
        rintro e w1 ⟨rfl, rfl⟩
        cases h_stacks : inB c.stacks 0 8
        · have e : mayB c = false := by simp [mayB, h_stacks]
          have HE := Lib.hid e
          clear e
          go_wp2
          go_ret
          rw [HE.out]
          exact ⟨rfl, below_al (Below.refl _ _) _⟩
        go_wp2_with fail
        (with_reducible refine (rin_any c.chans 0 8 _).mono ?_)
        rintro e w1 ⟨rfl, rfl⟩
        have e : mayB c = inB c.chans 0 8 := by have := HQ.out; simp [mayB, ← this, h_seats, h_slots, h_tasks, h_cells, h_maps, h_stacks]
        have HE := Lib.hid e
        clear e
        generalize inB c.chans 0 8 = z at *
        go_wp2
        go_ret
        rw [HE.out]
        exact ⟨rfl, below_al (Below.refl _ _) _⟩
end Go.Proofs.Ytgjdjgainjedhaa
