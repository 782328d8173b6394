/- The reference's places: printed by refp_gen.py. -/
import Derived.Test.YtgjdjgainjedhaaRefO
import Derived.Test.YtgjdjgainjedhaaLayN
import Derived.Test.YtgjdjgainjedhaaEaM
namespace Go.Proofs.Ytgjdjgainjedhaa
open Go.RowKit
attribute [local go_sem ↓] Go.wp_at_zero Go.wp_at_succ

theorem below_dn {a w : World} (h : Below a.heap.size a w) (n : Nat) : Below a.heap.size a (w.drewN n) := ⟨h.os, h.tape, h.output, h.size, h.block⟩
theorem rat_t (x : Int) (w : World) : Calls Try.prog 26 #[.int .i64 x, .bool true] w (IntSame x w) := by
  go_enter Try.func26, Try.ntmps26
  go_wp2
  go_ret
  exact ⟨rfl, rfl⟩
theorem rat_f (x : Int) (w : World) : Calls Try.prog 26 #[.int .i64 x, .bool false] w (IntSame (-1) w) := by
  go_enter Try.func26, Try.ntmps26
  go_wp2
  go_ret
  exact ⟨rfl, rfl⟩

set_option maxRecDepth 100000 in
set_option maxHeartbeats 2000000 in
theorem rresv_any (l : Ly) (a b : Int) (w : World) (f : LyFull l) : Calls Try.prog 14 #[lyV l, .int .i64 a, .int .i64 b] w (IntBelow (resvAt l a b) w) := by
  obtain ⟨x1, x2, x3, x4, x5, x6, x7, x8, x9, x10, y1, y2, y3, y4, y5, y6, y7, y8, y9⟩ := f
  have ws0 : IntKind.i64.wrap (l.c.seats - 1) = l.c.seats - 1 := wrap_in _ (by omega) (by omega)
  by_cases h0 : 0 ≤ a ∧ a ≤ l.c.seats - 1
  · by_cases h1 : 0 ≤ b ∧ b ≤ 2
    · have c0 : inB a (0) (l.c.seats - 1) = true := by simp [inB]; omega
      have c1 : inB b (0) (2) = true := by simp [inB]; omega
      have e : resvAt l a b = l.resv + 3 * a + b := by
        unfold resvAt withinN
        repeat' split
        all_goals omega
      have wa0 : IntKind.i64.wrap (3 * a) = 3 * a := wrap_in _ (by omega) (by omega)
      have wa1 : IntKind.i64.wrap (l.resv + 3 * a) = l.resv + 3 * a := wrap_in _ (by omega) (by omega)
      have wa2 : IntKind.i64.wrap (l.resv + 3 * a + b) = l.resv + 3 * a + b := wrap_in _ (by omega) (by omega)
      have HE := Lib.hid e
      clear e
      go_enter Try.func14, Try.ntmps14
      go_wp2_with fail
      go_quiet (first | (go_at_call 27; exact Calls.quiet_of_same (rin_any _ _ _ _)) | (go_at_call 26; exact Calls.quiet_of_same (rat_t _ _)))
      go_wp2
      go_ret
      rw [HE.out]
      exact ⟨rfl, below_dn (below_al (Below.refl _ _) _) _⟩
    · have c0 : inB a (0) (l.c.seats - 1) = true := by simp [inB]; omega
      have c1 : inB b (0) (2) = false := by simp [inB]; omega
      have e : resvAt l a b = -1 := by
        unfold resvAt withinN
        repeat' split
        all_goals omega
      have HE := Lib.hid e
      clear e
      go_enter Try.func14, Try.ntmps14
      go_wp2_with fail
      go_quiet (first | (go_at_call 27; exact Calls.quiet_of_same (rin_any _ _ _ _)) | (go_at_call 26; exact Calls.quiet_of_same (rat_f _ _)))
      go_wp2
      go_ret
      rw [HE.out]
      exact ⟨rfl, below_dn (below_al (Below.refl _ _) _) _⟩
  · have c0 : inB a (0) (l.c.seats - 1) = false := by simp [inB]; omega
    have e : resvAt l a b = -1 := by
      unfold resvAt withinN
      repeat' split
      all_goals omega
    have HE := Lib.hid e
    clear e
    go_enter Try.func14, Try.ntmps14
    go_wp2_with fail
    go_quiet (first | (go_at_call 27; exact Calls.quiet_of_same (rin_any _ _ _ _)) | (go_at_call 26; exact Calls.quiet_of_same (rat_f _ _)))
    go_wp2
    go_ret
    rw [HE.out]
    exact ⟨rfl, below_dn (below_al (Below.refl _ _) _) _⟩

set_option maxRecDepth 100000 in
set_option maxHeartbeats 2000000 in
theorem rcell_any (l : Ly) (a : Int) (w : World) (f : LyFull l) : Calls Try.prog 13 #[lyV l, .int .i64 a] w (IntBelow (cellAt l a) w) := by
  obtain ⟨x1, x2, x3, x4, x5, x6, x7, x8, x9, x10, y1, y2, y3, y4, y5, y6, y7, y8, y9⟩ := f
  have ws0 : IntKind.i64.wrap (l.c.cells - 1) = l.c.cells - 1 := wrap_in _ (by omega) (by omega)
  by_cases h0 : 0 ≤ a ∧ a ≤ l.c.cells - 1
  · have c0 : inB a (0) (l.c.cells - 1) = true := by simp [inB]; omega
    have e : cellAt l a = l.cell + a := by
      unfold cellAt withinN
      repeat' split
      all_goals omega
    have wa0 : IntKind.i64.wrap (l.cell + a) = l.cell + a := wrap_in _ (by omega) (by omega)
    have HE := Lib.hid e
    clear e
    go_enter Try.func13, Try.ntmps13
    go_wp2_with fail
    go_quiet (first | (go_at_call 27; exact Calls.quiet_of_same (rin_any _ _ _ _)) | (go_at_call 26; exact Calls.quiet_of_same (rat_t _ _)))
    go_wp2
    go_ret
    rw [HE.out]
    exact ⟨rfl, below_dn (below_al (Below.refl _ _) _) _⟩
  · have c0 : inB a (0) (l.c.cells - 1) = false := by simp [inB]; omega
    have e : cellAt l a = -1 := by
      unfold cellAt withinN
      repeat' split
      all_goals omega
    have HE := Lib.hid e
    clear e
    go_enter Try.func13, Try.ntmps13
    go_wp2_with fail
    go_quiet (first | (go_at_call 27; exact Calls.quiet_of_same (rin_any _ _ _ _)) | (go_at_call 26; exact Calls.quiet_of_same (rat_f _ _)))
    go_wp2
    go_ret
    rw [HE.out]
    exact ⟨rfl, below_dn (below_al (Below.refl _ _) _) _⟩

set_option maxRecDepth 100000 in
set_option maxHeartbeats 2000000 in
theorem rnode_any (l : Ly) (a b : Int) (w : World) (f : LyFull l) : Calls Try.prog 55 #[lyV l, .int .i64 a, .int .i64 b] w (IntBelow (nodeAt l a b) w) := by
  obtain ⟨x1, x2, x3, x4, x5, x6, x7, x8, x9, x10, y1, y2, y3, y4, y5, y6, y7, y8, y9⟩ := f
  by_cases h0 : 1 ≤ a ∧ a ≤ l.c.nodes
  · by_cases h1 : 0 ≤ b ∧ b ≤ 7
    · have c0 : inB a (1) (l.c.nodes) = true := by simp [inB]; omega
      have c1 : inB b (0) (7) = true := by simp [inB]; omega
      have e : nodeAt l a b = l.node + 8 * (a - 1) + b := by
        unfold nodeAt withinN
        repeat' split
        all_goals omega
      have wa0 : IntKind.i64.wrap (a - 1) = a - 1 := wrap_in _ (by omega) (by omega)
      have wa1 : IntKind.i64.wrap (8 * (a - 1)) = 8 * (a - 1) := wrap_in _ (by omega) (by omega)
      have wa2 : IntKind.i64.wrap (l.node + 8 * (a - 1)) = l.node + 8 * (a - 1) := wrap_in _ (by omega) (by omega)
      have wa3 : IntKind.i64.wrap (l.node + 8 * (a - 1) + b) = l.node + 8 * (a - 1) + b := wrap_in _ (by omega) (by omega)
      have HE := Lib.hid e
      clear e
      go_enter Try.func55, Try.ntmps55
      go_wp2_with fail
      go_quiet (first | (go_at_call 27; exact Calls.quiet_of_same (rin_any _ _ _ _)) | (go_at_call 26; exact Calls.quiet_of_same (rat_t _ _)))
      go_wp2
      go_ret
      rw [HE.out]
      exact ⟨rfl, below_dn (below_al (Below.refl _ _) _) _⟩
    · have c0 : inB a (1) (l.c.nodes) = true := by simp [inB]; omega
      have c1 : inB b (0) (7) = false := by simp [inB]; omega
      have e : nodeAt l a b = -1 := by
        unfold nodeAt withinN
        repeat' split
        all_goals omega
      have HE := Lib.hid e
      clear e
      go_enter Try.func55, Try.ntmps55
      go_wp2_with fail
      go_quiet (first | (go_at_call 27; exact Calls.quiet_of_same (rin_any _ _ _ _)) | (go_at_call 26; exact Calls.quiet_of_same (rat_f _ _)))
      go_wp2
      go_ret
      rw [HE.out]
      exact ⟨rfl, below_dn (below_al (Below.refl _ _) _) _⟩
  · have c0 : inB a (1) (l.c.nodes) = false := by simp [inB]; omega
    have e : nodeAt l a b = -1 := by
      unfold nodeAt withinN
      repeat' split
      all_goals omega
    have HE := Lib.hid e
    clear e
    go_enter Try.func55, Try.ntmps55
    go_wp2_with fail
    go_quiet (first | (go_at_call 27; exact Calls.quiet_of_same (rin_any _ _ _ _)) | (go_at_call 26; exact Calls.quiet_of_same (rat_f _ _)))
    go_wp2
    go_ret
    rw [HE.out]
    exact ⟨rfl, below_dn (below_al (Below.refl _ _) _) _⟩

end Go.Proofs.Ytgjdjgainjedhaa
