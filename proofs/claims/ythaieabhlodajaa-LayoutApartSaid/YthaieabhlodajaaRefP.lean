/- The reference's places: printed by refp_gen.py. -/
import Derived.Test.YthaieabhlodajaaRefO
import Derived.Test.YthaieabhlodajaaLayH
namespace Go.Proofs.Ythaieabhlodajaa
open Go.RowKit
attribute [local go_sem ↓] Go.wp_at_zero Go.wp_at_succ

theorem rat_t (x : Int) (w : World) : Calls Try.prog 54 #[.int .i64 x, .bool true] w (IntSame x w) := by
  go_enter Try.func54, Try.ntmps54
  go_wp2
  go_ret
  exact ⟨rfl, rfl⟩
theorem rat_f (x : Int) (w : World) : Calls Try.prog 54 #[.int .i64 x, .bool false] w (IntSame (-1) w) := by
  go_enter Try.func54, Try.ntmps54
  go_wp2
  go_ret
  exact ⟨rfl, rfl⟩

set_option maxRecDepth 100000 in
set_option maxHeartbeats 2000000 in
theorem ralive_any (l : Ly) (a : Int) (w : World) (f : LyFull l) : Calls Try.prog 40 #[lyV l, .int .i64 a] w (IntBelow (aliveAt l a) w) := by
  obtain ⟨x1, x2, x3, x4, x5, x6, x7, x8, x9, x10, y1, y2, y3, y4, y5, y6, y7, y8, y9⟩ := f
  have ws0 : IntKind.i64.wrap (l.c.seats - 1) = l.c.seats - 1 := wrap_in _ (by omega) (by omega)
  by_cases h0 : 0 ≤ a ∧ a ≤ l.c.seats - 1
  · have c0 : inB a (0) (l.c.seats - 1) = true := by simp [inB]; omega
    have e : aliveAt l a = l.alive + a := by
      unfold aliveAt withinN
      repeat' split
      all_goals omega
    have wa0 : IntKind.i64.wrap (l.alive + a) = l.alive + a := wrap_in _ (by omega) (by omega)
    have HE := Lib.hid e
    clear e
    go_enter Try.func40, Try.ntmps40
    go_wp2_with fail
    go_quiet (first | (go_at_call 23; exact Calls.quiet_of_same (rin_any _ _ _ _)) | (go_at_call 54; exact Calls.quiet_of_same (rat_t _ _)))
    go_wp2
    go_ret
    rw [HE.out]
    exact ⟨rfl, below_dn (below_al (Below.refl _ _) _) _⟩
  · have c0 : inB a (0) (l.c.seats - 1) = false := by simp [inB]; omega
    have e : aliveAt l a = -1 := by
      unfold aliveAt withinN
      repeat' split
      all_goals omega
    have HE := Lib.hid e
    clear e
    go_enter Try.func40, Try.ntmps40
    go_wp2_with fail
    go_quiet (first | (go_at_call 23; exact Calls.quiet_of_same (rin_any _ _ _ _)) | (go_at_call 54; exact Calls.quiet_of_same (rat_f _ _)))
    go_wp2
    go_ret
    rw [HE.out]
    exact ⟨rfl, below_dn (below_al (Below.refl _ _) _) _⟩

set_option maxRecDepth 100000 in
set_option maxHeartbeats 2000000 in
theorem rowner_any (l : Ly) (a : Int) (w : World) (f : LyFull l) : Calls Try.prog 41 #[lyV l, .int .i64 a] w (IntBelow (ownerAt l a) w) := by
  obtain ⟨x1, x2, x3, x4, x5, x6, x7, x8, x9, x10, y1, y2, y3, y4, y5, y6, y7, y8, y9⟩ := f
  have ws0 : IntKind.i64.wrap (l.c.seats - 1) = l.c.seats - 1 := wrap_in _ (by omega) (by omega)
  by_cases h0 : 0 ≤ a ∧ a ≤ l.c.seats - 1
  · have c0 : inB a (0) (l.c.seats - 1) = true := by simp [inB]; omega
    have e : ownerAt l a = l.owner + a := by
      unfold ownerAt withinN
      repeat' split
      all_goals omega
    have wa0 : IntKind.i64.wrap (l.owner + a) = l.owner + a := wrap_in _ (by omega) (by omega)
    have HE := Lib.hid e
    clear e
    go_enter Try.func41, Try.ntmps41
    go_wp2_with fail
    go_quiet (first | (go_at_call 23; exact Calls.quiet_of_same (rin_any _ _ _ _)) | (go_at_call 54; exact Calls.quiet_of_same (rat_t _ _)))
    go_wp2
    go_ret
    rw [HE.out]
    exact ⟨rfl, below_dn (below_al (Below.refl _ _) _) _⟩
  · have c0 : inB a (0) (l.c.seats - 1) = false := by simp [inB]; omega
    have e : ownerAt l a = -1 := by
      unfold ownerAt withinN
      repeat' split
      all_goals omega
    have HE := Lib.hid e
    clear e
    go_enter Try.func41, Try.ntmps41
    go_wp2_with fail
    go_quiet (first | (go_at_call 23; exact Calls.quiet_of_same (rin_any _ _ _ _)) | (go_at_call 54; exact Calls.quiet_of_same (rat_f _ _)))
    go_wp2
    go_ret
    rw [HE.out]
    exact ⟨rfl, below_dn (below_al (Below.refl _ _) _) _⟩

set_option maxRecDepth 100000 in
set_option maxHeartbeats 2000000 in
theorem rresv_any (l : Ly) (a b : Int) (w : World) (f : LyFull l) : Calls Try.prog 42 #[lyV l, .int .i64 a, .int .i64 b] w (IntBelow (resvAt l a b) w) := by
  obtain ⟨x1, x2, x3, x4, x5, x6, x7, x8, x9, x10, y1, y2, y3, y4, y5, y6, y7, y8, y9⟩ := f
  have ws0 : IntKind.i64.wrap (l.c.seats - 1) = l.c.seats - 1 := wrap_in _ (by omega) (by omega)
  by_cases h0 : 0 ≤ a ∧ a ≤ l.c.seats - 1
  · by_cases h1 : 0 ≤ b ∧ b ≤ 2
    · have c0 : inB a (0) (l.c.seats - 1) = true := by simp [inB]; omega
      have c1 : inB b (0) (2) = true := by simp [inB]; omega
      have e : resvAt l a b = l.resv + 3 * a + b := by
        unfold resvAt withinN
        repeat' split
        all_goals omega
      have wa0 : IntKind.i64.wrap (3 * a) = 3 * a := wrap_in _ (by omega) (by omega)
      have wa1 : IntKind.i64.wrap (l.resv + 3 * a) = l.resv + 3 * a := wrap_in _ (by omega) (by omega)
      have wa2 : IntKind.i64.wrap (l.resv + 3 * a + b) = l.resv + 3 * a + b := wrap_in _ (by omega) (by omega)
      have HE := Lib.hid e
      clear e
      go_enter Try.func42, Try.ntmps42
      go_wp2_with fail
      go_quiet (first | (go_at_call 23; exact Calls.quiet_of_same (rin_any _ _ _ _)) | (go_at_call 54; exact Calls.quiet_of_same (rat_t _ _)))
      go_wp2
      go_ret
      rw [HE.out]
      exact ⟨rfl, below_dn (below_al (Below.refl _ _) _) _⟩
    · have c0 : inB a (0) (l.c.seats - 1) = true := by simp [inB]; omega
      have c1 : inB b (0) (2) = false := by simp [inB]; omega
      have e : resvAt l a b = -1 := by
        unfold resvAt withinN
        repeat' split
        all_goals omega
      have HE := Lib.hid e
      clear e
      go_enter Try.func42, Try.ntmps42
      go_wp2_with fail
      go_quiet (first | (go_at_call 23; exact Calls.quiet_of_same (rin_any _ _ _ _)) | (go_at_call 54; exact Calls.quiet_of_same (rat_f _ _)))
      go_wp2
      go_ret
      rw [HE.out]
      exact ⟨rfl, below_dn (below_al (Below.refl _ _) _) _⟩
  · have c0 : inB a (0) (l.c.seats - 1) = false := by simp [inB]; omega
    have e : resvAt l a b = -1 := by
      unfold resvAt withinN
      repeat' split
      all_goals omega
    have HE := Lib.hid e
    clear e
    go_enter Try.func42, Try.ntmps42
    go_wp2_with fail
    go_quiet (first | (go_at_call 23; exact Calls.quiet_of_same (rin_any _ _ _ _)) | (go_at_call 54; exact Calls.quiet_of_same (rat_f _ _)))
    go_wp2
    go_ret
    rw [HE.out]
    exact ⟨rfl, below_dn (below_al (Below.refl _ _) _) _⟩

set_option maxRecDepth 100000 in
set_option maxHeartbeats 2000000 in
theorem rdeque_any (l : Ly) (a b : Int) (w : World) (f : LyFull l) : Calls Try.prog 43 #[lyV l, .int .i64 a, .int .i64 b] w (IntBelow (dequeAt l a b) w) := by
  obtain ⟨x1, x2, x3, x4, x5, x6, x7, x8, x9, x10, y1, y2, y3, y4, y5, y6, y7, y8, y9⟩ := f
  have ws0 : IntKind.i64.wrap (l.c.seats - 1) = l.c.seats - 1 := wrap_in _ (by omega) (by omega)
  by_cases h0 : 0 ≤ a ∧ a ≤ l.c.seats - 1
  · by_cases h1 : 0 ≤ b ∧ b ≤ 2
    · have c0 : inB a (0) (l.c.seats - 1) = true := by simp [inB]; omega
      have c1 : inB b (0) (2) = true := by simp [inB]; omega
      have e : dequeAt l a b = l.deque + 3 * a + b := by
        unfold dequeAt withinN
        repeat' split
        all_goals omega
      have wa0 : IntKind.i64.wrap (3 * a) = 3 * a := wrap_in _ (by omega) (by omega)
      have wa1 : IntKind.i64.wrap (l.deque + 3 * a) = l.deque + 3 * a := wrap_in _ (by omega) (by omega)
      have wa2 : IntKind.i64.wrap (l.deque + 3 * a + b) = l.deque + 3 * a + b := wrap_in _ (by omega) (by omega)
      have HE := Lib.hid e
      clear e
      go_enter Try.func43, Try.ntmps43
      go_wp2_with fail
      go_quiet (first | (go_at_call 23; exact Calls.quiet_of_same (rin_any _ _ _ _)) | (go_at_call 54; exact Calls.quiet_of_same (rat_t _ _)))
      go_wp2
      go_ret
      rw [HE.out]
      exact ⟨rfl, below_dn (below_al (Below.refl _ _) _) _⟩
    · have c0 : inB a (0) (l.c.seats - 1) = true := by simp [inB]; omega
      have c1 : inB b (0) (2) = false := by simp [inB]; omega
      have e : dequeAt l a b = -1 := by
        unfold dequeAt withinN
        repeat' split
        all_goals omega
      have HE := Lib.hid e
      clear e
      go_enter Try.func43, Try.ntmps43
      go_wp2_with fail
      go_quiet (first | (go_at_call 23; exact Calls.quiet_of_same (rin_any _ _ _ _)) | (go_at_call 54; exact Calls.quiet_of_same (rat_f _ _)))
      go_wp2
      go_ret
      rw [HE.out]
      exact ⟨rfl, below_dn (below_al (Below.refl _ _) _) _⟩
  · have c0 : inB a (0) (l.c.seats - 1) = false := by simp [inB]; omega
    have e : dequeAt l a b = -1 := by
      unfold dequeAt withinN
      repeat' split
      all_goals omega
    have HE := Lib.hid e
    clear e
    go_enter Try.func43, Try.ntmps43
    go_wp2_with fail
    go_quiet (first | (go_at_call 23; exact Calls.quiet_of_same (rin_any _ _ _ _)) | (go_at_call 54; exact Calls.quiet_of_same (rat_f _ _)))
    go_wp2
    go_ret
    rw [HE.out]
    exact ⟨rfl, below_dn (below_al (Below.refl _ _) _) _⟩

set_option maxRecDepth 100000 in
set_option maxHeartbeats 2000000 in
theorem rcell_any (l : Ly) (a : Int) (w : World) (f : LyFull l) : Calls Try.prog 46 #[lyV l, .int .i64 a] w (IntBelow (cellAt l a) w) := by
  obtain ⟨x1, x2, x3, x4, x5, x6, x7, x8, x9, x10, y1, y2, y3, y4, y5, y6, y7, y8, y9⟩ := f
  have ws0 : IntKind.i64.wrap (l.c.cells - 1) = l.c.cells - 1 := wrap_in _ (by omega) (by omega)
  by_cases h0 : 0 ≤ a ∧ a ≤ l.c.cells - 1
  · have c0 : inB a (0) (l.c.cells - 1) = true := by simp [inB]; omega
    have e : cellAt l a = l.cell + a := by
      unfold cellAt withinN
      repeat' split
      all_goals omega
    have wa0 : IntKind.i64.wrap (l.cell + a) = l.cell + a := wrap_in _ (by omega) (by omega)
    have HE := Lib.hid e
    clear e
    go_enter Try.func46, Try.ntmps46
    go_wp2_with fail
    go_quiet (first | (go_at_call 23; exact Calls.quiet_of_same (rin_any _ _ _ _)) | (go_at_call 54; exact Calls.quiet_of_same (rat_t _ _)))
    go_wp2
    go_ret
    rw [HE.out]
    exact ⟨rfl, below_dn (below_al (Below.refl _ _) _) _⟩
  · have c0 : inB a (0) (l.c.cells - 1) = false := by simp [inB]; omega
    have e : cellAt l a = -1 := by
      unfold cellAt withinN
      repeat' split
      all_goals omega
    have HE := Lib.hid e
    clear e
    go_enter Try.func46, Try.ntmps46
    go_wp2_with fail
    go_quiet (first | (go_at_call 23; exact Calls.quiet_of_same (rin_any _ _ _ _)) | (go_at_call 54; exact Calls.quiet_of_same (rat_f _ _)))
    go_wp2
    go_ret
    rw [HE.out]
    exact ⟨rfl, below_dn (below_al (Below.refl _ _) _) _⟩

set_option maxRecDepth 100000 in
set_option maxHeartbeats 2000000 in
theorem rhead_any (l : Ly) (a : Int) (w : World) (f : LyFull l) : Calls Try.prog 51 #[lyV l, .int .i64 a] w (IntBelow (headAt l a) w) := by
  obtain ⟨x1, x2, x3, x4, x5, x6, x7, x8, x9, x10, y1, y2, y3, y4, y5, y6, y7, y8, y9⟩ := f
  have ws0 : IntKind.i64.wrap (l.c.chans - 1) = l.c.chans - 1 := wrap_in _ (by omega) (by omega)
  by_cases h0 : 0 ≤ a ∧ a ≤ l.c.chans - 1
  · have c0 : inB a (0) (l.c.chans - 1) = true := by simp [inB]; omega
    have e : headAt l a = l.chan + 2 * a := by
      unfold headAt withinN
      repeat' split
      all_goals omega
    have wa0 : IntKind.i64.wrap (2 * a) = 2 * a := wrap_in _ (by omega) (by omega)
    have wa1 : IntKind.i64.wrap (l.chan + 2 * a) = l.chan + 2 * a := wrap_in _ (by omega) (by omega)
    have HE := Lib.hid e
    clear e
    go_enter Try.func51, Try.ntmps51
    go_wp2_with fail
    go_quiet (first | (go_at_call 23; exact Calls.quiet_of_same (rin_any _ _ _ _)) | (go_at_call 54; exact Calls.quiet_of_same (rat_t _ _)))
    go_wp2
    go_ret
    rw [HE.out]
    exact ⟨rfl, below_dn (below_al (Below.refl _ _) _) _⟩
  · have c0 : inB a (0) (l.c.chans - 1) = false := by simp [inB]; omega
    have e : headAt l a = -1 := by
      unfold headAt withinN
      repeat' split
      all_goals omega
    have HE := Lib.hid e
    clear e
    go_enter Try.func51, Try.ntmps51
    go_wp2_with fail
    go_quiet (first | (go_at_call 23; exact Calls.quiet_of_same (rin_any _ _ _ _)) | (go_at_call 54; exact Calls.quiet_of_same (rat_f _ _)))
    go_wp2
    go_ret
    rw [HE.out]
    exact ⟨rfl, below_dn (below_al (Below.refl _ _) _) _⟩

set_option maxRecDepth 100000 in
set_option maxHeartbeats 2000000 in
theorem rtask_any (l : Ly) (a b : Int) (w : World) (f : LyFull l) : Calls Try.prog 45 #[lyV l, .int .i64 a, .int .i64 b] w (IntBelow (taskAt l a b) w) := by
  obtain ⟨x1, x2, x3, x4, x5, x6, x7, x8, x9, x10, y1, y2, y3, y4, y5, y6, y7, y8, y9⟩ := f
  by_cases h0 : 1 ≤ a ∧ a ≤ l.c.tasks
  · by_cases h1 : 0 ≤ b ∧ b ≤ 3
    · have c0 : inB a (1) (l.c.tasks) = true := by simp [inB]; omega
      have c1 : inB b (0) (3) = true := by simp [inB]; omega
      have e : taskAt l a b = l.task + 4 * (a - 1) + b := by
        unfold taskAt withinN
        repeat' split
        all_goals omega
      have wa0 : IntKind.i64.wrap (a - 1) = a - 1 := wrap_in _ (by omega) (by omega)
      have wa1 : IntKind.i64.wrap (4 * (a - 1)) = 4 * (a - 1) := wrap_in _ (by omega) (by omega)
      have wa2 : IntKind.i64.wrap (l.task + 4 * (a - 1)) = l.task + 4 * (a - 1) := wrap_in _ (by omega) (by omega)
      have wa3 : IntKind.i64.wrap (l.task + 4 * (a - 1) + b) = l.task + 4 * (a - 1) + b := wrap_in _ (by omega) (by omega)
      have HE := Lib.hid e
      clear e
      go_enter Try.func45, Try.ntmps45
      go_wp2_with fail
      go_quiet (first | (go_at_call 23; exact Calls.quiet_of_same (rin_any _ _ _ _)) | (go_at_call 54; exact Calls.quiet_of_same (rat_t _ _)))
      go_wp2
      go_ret
      rw [HE.out]
      exact ⟨rfl, below_dn (below_al (Below.refl _ _) _) _⟩
    · have c0 : inB a (1) (l.c.tasks) = true := by simp [inB]; omega
      have c1 : inB b (0) (3) = false := by simp [inB]; omega
      have e : taskAt l a b = -1 := by
        unfold taskAt withinN
        repeat' split
        all_goals omega
      have HE := Lib.hid e
      clear e
      go_enter Try.func45, Try.ntmps45
      go_wp2_with fail
      go_quiet (first | (go_at_call 23; exact Calls.quiet_of_same (rin_any _ _ _ _)) | (go_at_call 54; exact Calls.quiet_of_same (rat_f _ _)))
      go_wp2
      go_ret
      rw [HE.out]
      exact ⟨rfl, below_dn (below_al (Below.refl _ _) _) _⟩
  · have c0 : inB a (1) (l.c.tasks) = false := by simp [inB]; omega
    have e : taskAt l a b = -1 := by
      unfold taskAt withinN
      repeat' split
      all_goals omega
    have HE := Lib.hid e
    clear e
    go_enter Try.func45, Try.ntmps45
    go_wp2_with fail
    go_quiet (first | (go_at_call 23; exact Calls.quiet_of_same (rin_any _ _ _ _)) | (go_at_call 54; exact Calls.quiet_of_same (rat_f _ _)))
    go_wp2
    go_ret
    rw [HE.out]
    exact ⟨rfl, below_dn (below_al (Below.refl _ _) _) _⟩

set_option maxRecDepth 100000 in
set_option maxHeartbeats 2000000 in
theorem rnode_any (l : Ly) (a b : Int) (w : World) (f : LyFull l) : Calls Try.prog 53 #[lyV l, .int .i64 a, .int .i64 b] w (IntBelow (nodeAt l a b) w) := by
  obtain ⟨x1, x2, x3, x4, x5, x6, x7, x8, x9, x10, y1, y2, y3, y4, y5, y6, y7, y8, y9⟩ := f
  by_cases h0 : 1 ≤ a ∧ a ≤ l.c.nodes
  · by_cases h1 : 0 ≤ b ∧ b ≤ 7
    · have c0 : inB a (1) (l.c.nodes) = true := by simp [inB]; omega
      have c1 : inB b (0) (7) = true := by simp [inB]; omega
      have e : nodeAt l a b = l.node + 8 * (a - 1) + b := by
        unfold nodeAt withinN
        repeat' split
        all_goals omega
      have wa0 : IntKind.i64.wrap (a - 1) = a - 1 := wrap_in _ (by omega) (by omega)
      have wa1 : IntKind.i64.wrap (8 * (a - 1)) = 8 * (a - 1) := wrap_in _ (by omega) (by omega)
      have wa2 : IntKind.i64.wrap (l.node + 8 * (a - 1)) = l.node + 8 * (a - 1) := wrap_in _ (by omega) (by omega)
      have wa3 : IntKind.i64.wrap (l.node + 8 * (a - 1) + b) = l.node + 8 * (a - 1) + b := wrap_in _ (by omega) (by omega)
      have HE := Lib.hid e
      clear e
      go_enter Try.func53, Try.ntmps53
      go_wp2_with fail
      go_quiet (first | (go_at_call 23; exact Calls.quiet_of_same (rin_any _ _ _ _)) | (go_at_call 54; exact Calls.quiet_of_same (rat_t _ _)))
      go_wp2
      go_ret
      rw [HE.out]
      exact ⟨rfl, below_dn (below_al (Below.refl _ _) _) _⟩
    · have c0 : inB a (1) (l.c.nodes) = true := by simp [inB]; omega
      have c1 : inB b (0) (7) = false := by simp [inB]; omega
      have e : nodeAt l a b = -1 := by
        unfold nodeAt withinN
        repeat' split
        all_goals omega
      have HE := Lib.hid e
      clear e
      go_enter Try.func53, Try.ntmps53
      go_wp2_with fail
      go_quiet (first | (go_at_call 23; exact Calls.quiet_of_same (rin_any _ _ _ _)) | (go_at_call 54; exact Calls.quiet_of_same (rat_f _ _)))
      go_wp2
      go_ret
      rw [HE.out]
      exact ⟨rfl, below_dn (below_al (Below.refl _ _) _) _⟩
  · have c0 : inB a (1) (l.c.nodes) = false := by simp [inB]; omega
    have e : nodeAt l a b = -1 := by
      unfold nodeAt withinN
      repeat' split
      all_goals omega
    have HE := Lib.hid e
    clear e
    go_enter Try.func53, Try.ntmps53
    go_wp2_with fail
    go_quiet (first | (go_at_call 23; exact Calls.quiet_of_same (rin_any _ _ _ _)) | (go_at_call 54; exact Calls.quiet_of_same (rat_f _ _)))
    go_wp2
    go_ret
    rw [HE.out]
    exact ⟨rfl, below_dn (below_al (Below.refl _ _) _) _⟩

set_option maxRecDepth 100000 in
set_option maxHeartbeats 2000000 in
theorem rmap_any (l : Ly) (a b : Int) (w : World) (f : LyFull l) : Calls Try.prog 47 #[lyV l, .int .i64 a, .int .i64 b] w (IntBelow (mapAt l a b) w) := by
  obtain ⟨x1, x2, x3, x4, x5, x6, x7, x8, x9, x10, y1, y2, y3, y4, y5, y6, y7, y8, y9⟩ := f
  have ws0 : IntKind.i64.wrap (l.c.maps - 1) = l.c.maps - 1 := wrap_in _ (by omega) (by omega)
  by_cases h0 : 0 ≤ a ∧ a ≤ l.c.maps - 1
  · by_cases h1 : 0 ≤ b ∧ b ≤ 1
    · have c0 : inB a (0) (l.c.maps - 1) = true := by simp [inB]; omega
      have c1 : inB b (0) (1) = true := by simp [inB]; omega
      have hz : (l.c.buckets + 2) * a = a * (2 + l.c.buckets) := by rw [Int.mul_comm, Int.add_comm l.c.buckets]
      have hb := mul_bd a (2 + l.c.buckets) 1000 1000 (by omega) (by omega) (by omega) (by omega)
      rw [← hz] at hb
      have e : mapAt l a b = l.map + (l.c.buckets + 2) * a + b := by
        unfold mapAt withinN
        repeat' split
        all_goals omega
      have wa0 : IntKind.i64.wrap (l.c.buckets + 2) = l.c.buckets + 2 := wrap_in _ (by omega) (by omega)
      have wa1 : IntKind.i64.wrap ((l.c.buckets + 2) * a) = (l.c.buckets + 2) * a := wrap_in _ (by omega) (by omega)
      have wa2 : IntKind.i64.wrap (l.map + (l.c.buckets + 2) * a) = l.map + (l.c.buckets + 2) * a := wrap_in _ (by omega) (by omega)
      have wa3 : IntKind.i64.wrap (l.map + (l.c.buckets + 2) * a + b) = l.map + (l.c.buckets + 2) * a + b := wrap_in _ (by omega) (by omega)
      clear hz hb
      have HE := Lib.hid e
      clear e
      go_enter Try.func47, Try.ntmps47
      go_wp2_with fail
      go_quiet (first | (go_at_call 23; exact Calls.quiet_of_same (rin_any _ _ _ _)) | (go_at_call 54; exact Calls.quiet_of_same (rat_t _ _)))
      go_wp2
      go_ret
      rw [HE.out]
      exact ⟨rfl, below_dn (below_al (Below.refl _ _) _) _⟩
    · have c0 : inB a (0) (l.c.maps - 1) = true := by simp [inB]; omega
      have c1 : inB b (0) (1) = false := by simp [inB]; omega
      have e : mapAt l a b = -1 := by
        unfold mapAt withinN
        repeat' split
        all_goals omega
      have HE := Lib.hid e
      clear e
      go_enter Try.func47, Try.ntmps47
      go_wp2_with fail
      go_quiet (first | (go_at_call 23; exact Calls.quiet_of_same (rin_any _ _ _ _)) | (go_at_call 54; exact Calls.quiet_of_same (rat_f _ _)))
      go_wp2
      go_ret
      rw [HE.out]
      exact ⟨rfl, below_dn (below_al (Below.refl _ _) _) _⟩
  · have c0 : inB a (0) (l.c.maps - 1) = false := by simp [inB]; omega
    have e : mapAt l a b = -1 := by
      unfold mapAt withinN
      repeat' split
      all_goals omega
    have HE := Lib.hid e
    clear e
    go_enter Try.func47, Try.ntmps47
    go_wp2_with fail
    go_quiet (first | (go_at_call 23; exact Calls.quiet_of_same (rin_any _ _ _ _)) | (go_at_call 54; exact Calls.quiet_of_same (rat_f _ _)))
    go_wp2
    go_ret
    rw [HE.out]
    exact ⟨rfl, below_dn (below_al (Below.refl _ _) _) _⟩

set_option maxRecDepth 100000 in
set_option maxHeartbeats 2000000 in
theorem rbucket_any (l : Ly) (a b : Int) (w : World) (f : LyFull l) : Calls Try.prog 48 #[lyV l, .int .i64 a, .int .i64 b] w (IntBelow (bucketAt l a b) w) := by
  obtain ⟨x1, x2, x3, x4, x5, x6, x7, x8, x9, x10, y1, y2, y3, y4, y5, y6, y7, y8, y9⟩ := f
  have ws0 : IntKind.i64.wrap (l.c.maps - 1) = l.c.maps - 1 := wrap_in _ (by omega) (by omega)
  have ws1 : IntKind.i64.wrap (l.c.buckets - 1) = l.c.buckets - 1 := wrap_in _ (by omega) (by omega)
  by_cases h0 : 0 ≤ a ∧ a ≤ l.c.maps - 1
  · by_cases h1 : 0 ≤ b ∧ b ≤ l.c.buckets - 1
    · have c0 : inB a (0) (l.c.maps - 1) = true := by simp [inB]; omega
      have c1 : inB b (0) (l.c.buckets - 1) = true := by simp [inB]; omega
      have hz : (l.c.buckets + 2) * a = a * (2 + l.c.buckets) := by rw [Int.mul_comm, Int.add_comm l.c.buckets]
      have hb := mul_bd a (2 + l.c.buckets) 1000 1000 (by omega) (by omega) (by omega) (by omega)
      rw [← hz] at hb
      have e : bucketAt l a b = l.map + (l.c.buckets + 2) * a + 2 + b := by
        unfold bucketAt withinN
        repeat' split
        all_goals omega
      have wa0 : IntKind.i64.wrap (l.c.buckets + 2) = l.c.buckets + 2 := wrap_in _ (by omega) (by omega)
      have wa1 : IntKind.i64.wrap ((l.c.buckets + 2) * a) = (l.c.buckets + 2) * a := wrap_in _ (by omega) (by omega)
      have wa2 : IntKind.i64.wrap (l.map + (l.c.buckets + 2) * a) = l.map + (l.c.buckets + 2) * a := wrap_in _ (by omega) (by omega)
      have wa3 : IntKind.i64.wrap (l.map + (l.c.buckets + 2) * a + 2) = l.map + (l.c.buckets + 2) * a + 2 := wrap_in _ (by omega) (by omega)
      have wa4 : IntKind.i64.wrap (l.map + (l.c.buckets + 2) * a + 2 + b) = l.map + (l.c.buckets + 2) * a + 2 + b := wrap_in _ (by omega) (by omega)
      clear hz hb
      have HE := Lib.hid e
      clear e
      go_enter Try.func48, Try.ntmps48
      go_wp2_with fail
      go_quiet (first | (go_at_call 23; exact Calls.quiet_of_same (rin_any _ _ _ _)) | (go_at_call 54; exact Calls.quiet_of_same (rat_t _ _)))
      go_wp2
      go_ret
      rw [HE.out]
      exact ⟨rfl, below_dn (below_al (Below.refl _ _) _) _⟩
    · have c0 : inB a (0) (l.c.maps - 1) = true := by simp [inB]; omega
      have c1 : inB b (0) (l.c.buckets - 1) = false := by simp [inB]; omega
      have e : bucketAt l a b = -1 := by
        unfold bucketAt withinN
        repeat' split
        all_goals omega
      have HE := Lib.hid e
      clear e
      go_enter Try.func48, Try.ntmps48
      go_wp2_with fail
      go_quiet (first | (go_at_call 23; exact Calls.quiet_of_same (rin_any _ _ _ _)) | (go_at_call 54; exact Calls.quiet_of_same (rat_f _ _)))
      go_wp2
      go_ret
      rw [HE.out]
      exact ⟨rfl, below_dn (below_al (Below.refl _ _) _) _⟩
  · have c0 : inB a (0) (l.c.maps - 1) = false := by simp [inB]; omega
    have e : bucketAt l a b = -1 := by
      unfold bucketAt withinN
      repeat' split
      all_goals omega
    have HE := Lib.hid e
    clear e
    go_enter Try.func48, Try.ntmps48
    go_wp2_with fail
    go_quiet (first | (go_at_call 23; exact Calls.quiet_of_same (rin_any _ _ _ _)) | (go_at_call 54; exact Calls.quiet_of_same (rat_f _ _)))
    go_wp2
    go_ret
    rw [HE.out]
    exact ⟨rfl, below_dn (below_al (Below.refl _ _) _) _⟩

set_option maxRecDepth 100000 in
set_option maxHeartbeats 2000000 in
theorem rtop_any (l : Ly) (a : Int) (w : World) (f : LyFull l) : Calls Try.prog 49 #[lyV l, .int .i64 a] w (IntBelow (topAt l a) w) := by
  obtain ⟨x1, x2, x3, x4, x5, x6, x7, x8, x9, x10, y1, y2, y3, y4, y5, y6, y7, y8, y9⟩ := f
  have ws0 : IntKind.i64.wrap (l.c.stacks - 1) = l.c.stacks - 1 := wrap_in _ (by omega) (by omega)
  by_cases h0 : 0 ≤ a ∧ a ≤ l.c.stacks - 1
  · have c0 : inB a (0) (l.c.stacks - 1) = true := by simp [inB]; omega
    have hz : (l.c.slots + 1) * a = a * (1 + l.c.slots) := by rw [Int.mul_comm, Int.add_comm l.c.slots]
    have hb := mul_bd a (1 + l.c.slots) 1000 1000 (by omega) (by omega) (by omega) (by omega)
    rw [← hz] at hb
    have e : topAt l a = l.stack + (l.c.slots + 1) * a := by
      unfold topAt withinN
      repeat' split
      all_goals omega
    have wa0 : IntKind.i64.wrap (l.c.slots + 1) = l.c.slots + 1 := wrap_in _ (by omega) (by omega)
    have wa1 : IntKind.i64.wrap ((l.c.slots + 1) * a) = (l.c.slots + 1) * a := wrap_in _ (by omega) (by omega)
    have wa2 : IntKind.i64.wrap (l.stack + (l.c.slots + 1) * a) = l.stack + (l.c.slots + 1) * a := wrap_in _ (by omega) (by omega)
    clear hz hb
    have HE := Lib.hid e
    clear e
    go_enter Try.func49, Try.ntmps49
    go_wp2_with fail
    go_quiet (first | (go_at_call 23; exact Calls.quiet_of_same (rin_any _ _ _ _)) | (go_at_call 54; exact Calls.quiet_of_same (rat_t _ _)))
    go_wp2
    go_ret
    rw [HE.out]
    exact ⟨rfl, below_dn (below_al (Below.refl _ _) _) _⟩
  · have c0 : inB a (0) (l.c.stacks - 1) = false := by simp [inB]; omega
    have e : topAt l a = -1 := by
      unfold topAt withinN
      repeat' split
      all_goals omega
    have HE := Lib.hid e
    clear e
    go_enter Try.func49, Try.ntmps49
    go_wp2_with fail
    go_quiet (first | (go_at_call 23; exact Calls.quiet_of_same (rin_any _ _ _ _)) | (go_at_call 54; exact Calls.quiet_of_same (rat_f _ _)))
    go_wp2
    go_ret
    rw [HE.out]
    exact ⟨rfl, below_dn (below_al (Below.refl _ _) _) _⟩

set_option maxRecDepth 100000 in
set_option maxHeartbeats 2000000 in
theorem rslot_any (l : Ly) (a b : Int) (w : World) (f : LyFull l) : Calls Try.prog 50 #[lyV l, .int .i64 a, .int .i64 b] w (IntBelow (slotAt l a b) w) := by
  obtain ⟨x1, x2, x3, x4, x5, x6, x7, x8, x9, x10, y1, y2, y3, y4, y5, y6, y7, y8, y9⟩ := f
  have ws0 : IntKind.i64.wrap (l.c.stacks - 1) = l.c.stacks - 1 := wrap_in _ (by omega) (by omega)
  have ws1 : IntKind.i64.wrap (l.c.slots - 1) = l.c.slots - 1 := wrap_in _ (by omega) (by omega)
  by_cases h0 : 0 ≤ a ∧ a ≤ l.c.stacks - 1
  · by_cases h1 : 0 ≤ b ∧ b ≤ l.c.slots - 1
    · have c0 : inB a (0) (l.c.stacks - 1) = true := by simp [inB]; omega
      have c1 : inB b (0) (l.c.slots - 1) = true := by simp [inB]; omega
      have hz : (l.c.slots + 1) * a = a * (1 + l.c.slots) := by rw [Int.mul_comm, Int.add_comm l.c.slots]
      have hb := mul_bd a (1 + l.c.slots) 1000 1000 (by omega) (by omega) (by omega) (by omega)
      rw [← hz] at hb
      have e : slotAt l a b = l.stack + (l.c.slots + 1) * a + 1 + b := by
        unfold slotAt withinN
        repeat' split
        all_goals omega
      have wa0 : IntKind.i64.wrap (l.c.slots + 1) = l.c.slots + 1 := wrap_in _ (by omega) (by omega)
      have wa1 : IntKind.i64.wrap ((l.c.slots + 1) * a) = (l.c.slots + 1) * a := wrap_in _ (by omega) (by omega)
      have wa2 : IntKind.i64.wrap (l.stack + (l.c.slots + 1) * a) = l.stack + (l.c.slots + 1) * a := wrap_in _ (by omega) (by omega)
      have wa3 : IntKind.i64.wrap (l.stack + (l.c.slots + 1) * a + 1) = l.stack + (l.c.slots + 1) * a + 1 := wrap_in _ (by omega) (by omega)
      have wa4 : IntKind.i64.wrap (l.stack + (l.c.slots + 1) * a + 1 + b) = l.stack + (l.c.slots + 1) * a + 1 + b := wrap_in _ (by omega) (by omega)
      clear hz hb
      have HE := Lib.hid e
      clear e
      go_enter Try.func50, Try.ntmps50
      go_wp2_with fail
      go_quiet (first | (go_at_call 23; exact Calls.quiet_of_same (rin_any _ _ _ _)) | (go_at_call 54; exact Calls.quiet_of_same (rat_t _ _)))
      go_wp2
      go_ret
      rw [HE.out]
      exact ⟨rfl, below_dn (below_al (Below.refl _ _) _) _⟩
    · have c0 : inB a (0) (l.c.stacks - 1) = true := by simp [inB]; omega
      have c1 : inB b (0) (l.c.slots - 1) = false := by simp [inB]; omega
      have e : slotAt l a b = -1 := by
        unfold slotAt withinN
        repeat' split
        all_goals omega
      have HE := Lib.hid e
      clear e
      go_enter Try.func50, Try.ntmps50
      go_wp2_with fail
      go_quiet (first | (go_at_call 23; exact Calls.quiet_of_same (rin_any _ _ _ _)) | (go_at_call 54; exact Calls.quiet_of_same (rat_f _ _)))
      go_wp2
      go_ret
      rw [HE.out]
      exact ⟨rfl, below_dn (below_al (Below.refl _ _) _) _⟩
  · have c0 : inB a (0) (l.c.stacks - 1) = false := by simp [inB]; omega
    have e : slotAt l a b = -1 := by
      unfold slotAt withinN
      repeat' split
      all_goals omega
    have HE := Lib.hid e
    clear e
    go_enter Try.func50, Try.ntmps50
    go_wp2_with fail
    go_quiet (first | (go_at_call 23; exact Calls.quiet_of_same (rin_any _ _ _ _)) | (go_at_call 54; exact Calls.quiet_of_same (rat_f _ _)))
    go_wp2
    go_ret
    rw [HE.out]
    exact ⟨rfl, below_dn (below_al (Below.refl _ _) _) _⟩

set_option maxRecDepth 100000 in
set_option maxHeartbeats 2000000 in
theorem rtail_any (l : Ly) (a : Int) (w : World) (f : LyFull l) : Calls Try.prog 52 #[lyV l, .int .i64 a] w (IntBelow (tailAt l a) w) := by
  obtain ⟨x1, x2, x3, x4, x5, x6, x7, x8, x9, x10, y1, y2, y3, y4, y5, y6, y7, y8, y9⟩ := f
  have ws0 : IntKind.i64.wrap (l.c.chans - 1) = l.c.chans - 1 := wrap_in _ (by omega) (by omega)
  by_cases h0 : 0 ≤ a ∧ a ≤ l.c.chans - 1
  · have c0 : inB a (0) (l.c.chans - 1) = true := by simp [inB]; omega
    have e : tailAt l a = l.chan + 2 * a + 1 := by
      unfold tailAt withinN
      repeat' split
      all_goals omega
    have wa0 : IntKind.i64.wrap (2 * a) = 2 * a := wrap_in _ (by omega) (by omega)
    have wa1 : IntKind.i64.wrap (l.chan + 2 * a) = l.chan + 2 * a := wrap_in _ (by omega) (by omega)
    have wa2 : IntKind.i64.wrap (l.chan + 2 * a + 1) = l.chan + 2 * a + 1 := wrap_in _ (by omega) (by omega)
    have HE := Lib.hid e
    clear e
    go_enter Try.func52, Try.ntmps52
    go_wp2_with fail
    go_quiet (first | (go_at_call 23; exact Calls.quiet_of_same (rin_any _ _ _ _)) | (go_at_call 54; exact Calls.quiet_of_same (rat_t _ _)))
    go_wp2
    go_ret
    rw [HE.out]
    exact ⟨rfl, below_dn (below_al (Below.refl _ _) _) _⟩
  · have c0 : inB a (0) (l.c.chans - 1) = false := by simp [inB]; omega
    have e : tailAt l a = -1 := by
      unfold tailAt withinN
      repeat' split
      all_goals omega
    have HE := Lib.hid e
    clear e
    go_enter Try.func52, Try.ntmps52
    go_wp2_with fail
    go_quiet (first | (go_at_call 23; exact Calls.quiet_of_same (rin_any _ _ _ _)) | (go_at_call 54; exact Calls.quiet_of_same (rat_f _ _)))
    go_wp2
    go_ret
    rw [HE.out]
    exact ⟨rfl, below_dn (below_al (Below.refl _ _) _) _⟩
end Go.Proofs.Ythaieabhlodajaa
