/- The reference's small functions of layout: in, Rings, room, Ring. -/
import Derived.Test.YtdjglkpcdhkodaaRingA
namespace Go.Proofs.Ytdjglkpcdhkodaa
open Go.RowKit
attribute [local go_sem ↓] Go.wp_at_zero Go.wp_at_succ

def inB (n lo hi : Int) : Bool := decide (lo ≤ n) && decide (n ≤ hi)
def BoolSm (b : Bool) (w : World) (e : Ending) (w' : World) : Prop := e = .returned (.bool b) ∧ w' = w
theorem rin_any (n lo hi : Int) (w : World) : Calls Try.prog 32 #[.int .i64 n, .int .i64 lo, .int .i64 hi] w (BoolSm (inB n lo hi) w) := by
  by_cases h : lo ≤ n
  · have e : inB n lo hi = decide (n ≤ hi) := by simp [inB, h]
    rw [e]
    clear e
    have g : decide (lo ≤ n) = true := by simp [h]
    go_enter Try.func32, Try.ntmps32
    go_wp2
    go_ret
    exact ⟨rfl, rfl⟩
  · have e : inB n lo hi = false := by simp [inB, h]
    rw [e]
    clear e
    have g : decide (lo ≤ n) = false := by simp; omega
    go_enter Try.func32, Try.ntmps32
    go_wp2
    go_ret
    exact ⟨rfl, rfl⟩

set_option maxRecDepth 100000 in
set_option maxHeartbeats 4000000 in
theorem rrings_any (l : Ly) (w : World) (h1 : 1 ≤ l.c.tasks) (h2 : l.c.tasks ≤ 64) : Calls Try.prog 33 #[lyV l] w (IntBelow (ringsN l.c.tasks) w) := by
  have hE : ringsN l.c.tasks = 1 ∧ l.c.tasks ≤ 4 ∨ ringsN l.c.tasks = 2 ∧ 4 < l.c.tasks ∧ l.c.tasks ≤ 8 ∨ ringsN l.c.tasks = 3 ∧ 8 < l.c.tasks ∧ l.c.tasks ≤ 16 ∨ ringsN l.c.tasks = 4 ∧ 16 < l.c.tasks ∧ l.c.tasks ≤ 32 ∨ ringsN l.c.tasks = 5 ∧ 32 < l.c.tasks := by
    unfold ringsN
    repeat' split
    all_goals omega
  obtain ⟨c, x1, x2, x3, x4, x5, x6, x7, x8, x9, x10, x11, x12, x13, x14, x15, x16⟩ := l
  obtain ⟨c0, c1, c2, c3, t, c5, c6, c7, c8⟩ := c
  dsimp only at *
  rcases hE with ⟨e, a1⟩ | ⟨e, a0, a1⟩ | ⟨e, a0, a1⟩ | ⟨e, a0, a1⟩ | ⟨e, a0⟩ <;> rw [e] <;> clear e
  · have g1 : decide (4 < t) = false := by simp; omega
    go_enter Try.func33, Try.ntmps33
    go_wp2
    refine wp_loop_rounds 1 ?_
    rw [rounds_succ]
    go_wp2
    go_ret
    exact ⟨rfl, below_al (Below.refl _ _) _⟩
  · have g1 : decide (4 < t) = true := by simp; omega
    have g2 : decide (8 < t) = false := by simp; omega
    go_enter Try.func33, Try.ntmps33
    go_wp2
    refine wp_loop_rounds 2 ?_
    rw [rounds_succ]
    go_wp2
    rw [rounds_succ]
    go_wp2
    go_ret
    exact ⟨rfl, below_al (Below.refl _ _) _⟩
  · have g1 : decide (4 < t) = true := by simp; omega
    have g2 : decide (8 < t) = true := by simp; omega
    have g3 : decide (16 < t) = false := by simp; omega
    go_enter Try.func33, Try.ntmps33
    go_wp2
    refine wp_loop_rounds 3 ?_
    rw [rounds_succ]
    go_wp2
    rw [rounds_succ]
    go_wp2
    rw [rounds_succ]
    go_wp2
    go_ret
    exact ⟨rfl, below_al (Below.refl _ _) _⟩
  · have g1 : decide (4 < t) = true := by simp; omega
    have g2 : decide (8 < t) = true := by simp; omega
    have g3 : decide (16 < t) = true := by simp; omega
    have g4 : decide (32 < t) = false := by simp; omega
    go_enter Try.func33, Try.ntmps33
    go_wp2
    refine wp_loop_rounds 4 ?_
    rw [rounds_succ]
    go_wp2
    rw [rounds_succ]
    go_wp2
    rw [rounds_succ]
    go_wp2
    rw [rounds_succ]
    go_wp2
    go_ret
    exact ⟨rfl, below_al (Below.refl _ _) _⟩
  · have g1 : decide (4 < t) = true := by simp; omega
    have g2 : decide (8 < t) = true := by simp; omega
    have g3 : decide (16 < t) = true := by simp; omega
    have g4 : decide (32 < t) = true := by simp; omega
    have g5 : decide (64 < t) = false := by simp; omega
    go_enter Try.func33, Try.ntmps33
    go_wp2
    refine wp_loop_rounds 5 ?_
    rw [rounds_succ]
    go_wp2
    rw [rounds_succ]
    go_wp2
    rw [rounds_succ]
    go_wp2
    rw [rounds_succ]
    go_wp2
    rw [rounds_succ]
    go_wp2
    go_ret
    exact ⟨rfl, below_al (Below.refl _ _) _⟩

theorem rroom_any (r : Int) (w : World) (h0 : 0 ≤ r) (h1 : r ≤ 6) : Calls Try.prog 34 #[.int .i64 r] w (IntSame (aheadN r) w) := by
  have h : r = 0 ∨ r = 1 ∨ r = 2 ∨ r = 3 ∨ r = 4 ∨ r = 5 ∨ r = 6 := by omega
  clear h0 h1
  rcases h with rfl | rfl | rfl | rfl | rfl | rfl | rfl
  · go_enter Try.func34, Try.ntmps34
    go_wp2
    refine wp_loop_rounds 1 ?_
    rw [rounds_succ]
    go_wp2
    go_ret
    exact ⟨rfl, rfl⟩
  · go_enter Try.func34, Try.ntmps34
    go_wp2
    refine wp_loop_rounds 2 ?_
    rw [rounds_succ]
    go_wp2
    rw [rounds_succ]
    go_wp2
    go_ret
    exact ⟨rfl, rfl⟩
  · go_enter Try.func34, Try.ntmps34
    go_wp2
    refine wp_loop_rounds 3 ?_
    rw [rounds_succ]
    go_wp2
    rw [rounds_succ]
    go_wp2
    rw [rounds_succ]
    go_wp2
    go_ret
    exact ⟨rfl, rfl⟩
  · go_enter Try.func34, Try.ntmps34
    go_wp2
    refine wp_loop_rounds 4 ?_
    rw [rounds_succ]
    go_wp2
    rw [rounds_succ]
    go_wp2
    rw [rounds_succ]
    go_wp2
    rw [rounds_succ]
    go_wp2
    go_ret
    exact ⟨rfl, rfl⟩
  · go_enter Try.func34, Try.ntmps34
    go_wp2
    refine wp_loop_rounds 5 ?_
    rw [rounds_succ]
    go_wp2
    rw [rounds_succ]
    go_wp2
    rw [rounds_succ]
    go_wp2
    rw [rounds_succ]
    go_wp2
    rw [rounds_succ]
    go_wp2
    go_ret
    exact ⟨rfl, rfl⟩
  · go_enter Try.func34, Try.ntmps34
    go_wp2
    refine wp_loop_rounds 6 ?_
    rw [rounds_succ]
    go_wp2
    rw [rounds_succ]
    go_wp2
    rw [rounds_succ]
    go_wp2
    rw [rounds_succ]
    go_wp2
    rw [rounds_succ]
    go_wp2
    rw [rounds_succ]
    go_wp2
    go_ret
    exact ⟨rfl, rfl⟩
  · go_enter Try.func34, Try.ntmps34
    go_wp2
    refine wp_loop_rounds 7 ?_
    rw [rounds_succ]
    go_wp2
    rw [rounds_succ]
    go_wp2
    rw [rounds_succ]
    go_wp2
    rw [rounds_succ]
    go_wp2
    rw [rounds_succ]
    go_wp2
    rw [rounds_succ]
    go_wp2
    rw [rounds_succ]
    go_wp2
    go_ret
    exact ⟨rfl, rfl⟩

set_option maxRecDepth 100000 in
set_option maxHeartbeats 4000000 in
theorem rring_any (l : Ly) (s r : Int) (w : World) (f : LyFit l) : Calls Try.prog 36 #[lyV l, .int .i64 s, .int .i64 r] w (IntBelow (ringAt l s r) w) := by
  have hn := ringsN_in l.c.tasks
  have f1 := f.t1
  have f2 := f.t2
  have f3 := f.r1
  have f4 := f.r2
  have f5 := f.s2
  have f6 := f.s1
  have ha := aheadN_in (ringsN l.c.tasks)
  have hb := aheadN_in r
  by_cases hs : 0 ≤ s ∧ s < l.c.seats
  · have i1 : inB s 0 (l.c.seats - 1) = true := by simp [inB]; omega
    by_cases hr : 0 ≤ r ∧ r < ringsN l.c.tasks
    · have i2 : inB r 0 (ringsN l.c.tasks - 1) = true := by simp [inB]; omega
      have hv := ringAt_eq l s r ⟨hr.1, hr.2, hs.1, hs.2⟩
      have hm := mul_in s _ hs.1 (by omega) ha.1 ha.2
      have w1' : IntKind.i64.wrap (s * aheadN (ringsN l.c.tasks)) = s * aheadN (ringsN l.c.tasks) := IntWalk.i64_in _ (by omega)
      have w2' : IntKind.i64.wrap (l.ring + s * aheadN (ringsN l.c.tasks)) = l.ring + s * aheadN (ringsN l.c.tasks) := IntWalk.i64_in _ (by omega)
      have w3' : IntKind.i64.wrap (l.ring + s * aheadN (ringsN l.c.tasks) + aheadN r) = l.ring + s * aheadN (ringsN l.c.tasks) + aheadN r := IntWalk.i64_in _ (by omega)
      have HV := Lib.hid (And.intro hv (And.intro i1 i2))
      clear hv i1 i2
      go_enter Try.func36, Try.ntmps36
      go_wp2_with (refine wpList_load_row rfl 31 (.tmp 3) rfl w.heap.size rfl 31 (lyC l) (0, 0) _ (Bk.made w _ _) Try.underlying31 rfl (by kernel_rfl) ?_)
      (with_reducible refine (rrings_any l _ f1 f2).mono ?_)
      rintro e w1 ⟨rfl, hb1⟩
      have k0 := (Bk.made w 31 (lyC l)).keep hb1
      have hbl := below_tr (below_al (Below.refl w.heap.size w) (.cells (lyC l) 31)) hb1
      have c0 := k0.cell 0
      have c1 := k0.cell 17
      simp at c0 c1
      clear hb1
      go_wp2_with fail
      (with_reducible refine (rin_any s 0 (l.c.seats - 1) _).mono ?_)
      rintro e w2 ⟨rfl, rfl⟩
      rw [HV.out.2.1]
      go_wp2_with fail
      (with_reducible refine (rin_any r 0 (ringsN l.c.tasks - 1) _).mono ?_)
      rintro e w2 ⟨rfl, rfl⟩
      rw [HV.out.2.2]
      go_wp2_with fail
      go_quiet (first | (go_at_call 34; exact Calls.quiet_of_same (rroom_any _ _ (by omega) (by omega))))
      go_wp2
      go_ret
      rw [HV.out.1]
      exact ⟨rfl, below_dn hbl _⟩
    · have i2 : inB r 0 (ringsN l.c.tasks - 1) = false := by simp [inB]; omega
      have hv : ringAt l s r = -1 := by
        unfold ringAt
        rw [if_neg (by omega)]
      have HV := Lib.hid (And.intro hv (And.intro i1 i2))
      clear hv i1 i2
      go_enter Try.func36, Try.ntmps36
      go_wp2_with (refine wpList_load_row rfl 31 (.tmp 3) rfl w.heap.size rfl 31 (lyC l) (0, 0) _ (Bk.made w _ _) Try.underlying31 rfl (by kernel_rfl) ?_)
      (with_reducible refine (rrings_any l _ f1 f2).mono ?_)
      rintro e w1 ⟨rfl, hb1⟩
      have k0 := (Bk.made w 31 (lyC l)).keep hb1
      have hbl := below_tr (below_al (Below.refl w.heap.size w) (.cells (lyC l) 31)) hb1
      have c0 := k0.cell 0
      simp at c0
      clear hb1
      go_wp2_with fail
      (with_reducible refine (rin_any s 0 (l.c.seats - 1) _).mono ?_)
      rintro e w2 ⟨rfl, rfl⟩
      rw [HV.out.2.1]
      go_wp2_with fail
      (with_reducible refine (rin_any r 0 (ringsN l.c.tasks - 1) _).mono ?_)
      rintro e w2 ⟨rfl, rfl⟩
      rw [HV.out.2.2]
      go_wp2
      go_ret
      rw [HV.out.1]
      exact ⟨rfl, hbl⟩
  · have i1 : inB s 0 (l.c.seats - 1) = false := by simp [inB]; omega
    have hv : ringAt l s r = -1 := by
      unfold ringAt
      rw [if_neg (by omega)]
    have HV := Lib.hid (And.intro hv i1)
    clear hv i1
    go_enter Try.func36, Try.ntmps36
    go_wp2_with (refine wpList_load_row rfl 31 (.tmp 3) rfl w.heap.size rfl 31 (lyC l) (0, 0) _ (Bk.made w _ _) Try.underlying31 rfl (by kernel_rfl) ?_)
    (with_reducible refine (rrings_any l _ f1 f2).mono ?_)
    rintro e w1 ⟨rfl, hb1⟩
    have k0 := (Bk.made w 31 (lyC l)).keep hb1
    have hbl := below_tr (below_al (Below.refl w.heap.size w) (.cells (lyC l) 31)) hb1
    have c0 := k0.cell 0
    simp at c0
    clear hb1
    go_wp2_with fail
    (with_reducible refine (rin_any s 0 (l.c.seats - 1) _).mono ?_)
    rintro e w2 ⟨rfl, rfl⟩
    rw [HV.out.2]
    go_wp2
    go_ret
    rw [HV.out.1]
    exact ⟨rfl, hbl⟩
end Go.Proofs.Ytdjglkpcdhkodaa
