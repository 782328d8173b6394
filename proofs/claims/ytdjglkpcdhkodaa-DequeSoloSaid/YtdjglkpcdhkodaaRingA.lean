/- layout.Ring, ring.Size, places, Place, fits. -/
import Derived.Test.YtdjglkpcdhkodaaLayA
import Derived.Deep.QuietTactic
import Derived.BigQuiet
import Derived.Outline
namespace Go.Proofs.Ytdjglkpcdhkodaa
open Go.RowKit
attribute [local go_sem ↓] Go.wp_at_zero Go.wp_at_succ

theorem below_dn {a w : World} (h : Below a.heap.size a w) (n : Nat) : Below a.heap.size a (w.drewN n) := ⟨h.os, h.tape, h.output, h.size, h.block⟩
structure LyFit (l : Ly) : Prop where
  t1 : 1 ≤ l.c.tasks
  t2 : l.c.tasks ≤ 64
  s1 : 0 ≤ l.c.seats
  s2 : l.c.seats ≤ 8
  r1 : 0 ≤ l.ring
  r2 : l.ring ≤ 1000000
theorem ringsN_in (t : Int) : 1 ≤ ringsN t ∧ ringsN t ≤ 5 := by
  unfold ringsN
  repeat' split
  all_goals omega
/-- What a seat's ring's first cell is; -1: there is none. -/
def ringAt (l : Ly) (s r : Int) : Int := if 0 ≤ r ∧ r < ringsN l.c.tasks ∧ 0 ≤ s ∧ s < l.c.seats then l.ring + s * aheadN (ringsN l.c.tasks) + aheadN r else -1
theorem aheadN_in (r : Int) : 0 ≤ aheadN r ∧ aheadN r ≤ 252 := by
  unfold aheadN
  repeat' split
  all_goals omega
theorem aheadN_lt (r n : Int) (h0 : 0 ≤ r) (h1 : r < n) (h2 : n ≤ 6) : aheadN r < aheadN n := by
  have h : r = 0 ∨ r = 1 ∨ r = 2 ∨ r = 3 ∨ r = 4 ∨ r = 5 := by omega
  have h' : n = 1 ∨ n = 2 ∨ n = 3 ∨ n = 4 ∨ n = 5 ∨ n = 6 := by omega
  rcases h with rfl | rfl | rfl | rfl | rfl | rfl <;> rcases h' with rfl | rfl | rfl | rfl | rfl | rfl <;> first | omega | decide
theorem mul_in (s a : Int) (h0 : 0 ≤ s) (h1 : s ≤ 8) (h2 : 0 ≤ a) (h3 : a ≤ 252) : 0 ≤ s * a ∧ s * a ≤ 2016 :=
  ⟨Int.mul_nonneg h0 h2, by have := Int.mul_le_mul h1 h3 h2 (by omega : (0 : Int) ≤ 8); omega⟩
theorem ringAt_in (l : Ly) (s r : Int) (f : LyFit l) : ringAt l s r = -1 ∨ (0 ≤ ringAt l s r ∧ ringAt l s r ≤ 1010000) := by
  unfold ringAt
  split
  · rename_i h
    have h1 := aheadN_in (ringsN l.c.tasks)
    have h2 := aheadN_in r
    have h3 := mul_in s _ (by omega) (by have := f.s2; omega) h1.1 h1.2
    have := f.r1
    have := f.r2
    omega
  · exact .inl rfl
theorem ringAt_of (l : Ly) (s r : Int) (h : ringAt l s r ≠ -1) : 0 ≤ r ∧ r < ringsN l.c.tasks ∧ 0 ≤ s ∧ s < l.c.seats := by
  unfold ringAt at h
  split at h
  · assumption
  · exact absurd rfl h
theorem ringAt_eq (l : Ly) (s r : Int) (h : 0 ≤ r ∧ r < ringsN l.c.tasks ∧ 0 ≤ s ∧ s < l.c.seats) : ringAt l s r = l.ring + s * aheadN (ringsN l.c.tasks) + aheadN r := by
  unfold ringAt
  rw [if_pos h]

set_option maxRecDepth 100000 in
set_option maxHeartbeats 4000000 in
theorem ring_any (l : Ly) (s r : Int) (w : World) (f : LyFit l) : Calls Try.prog 60 #[lyV l, .int .i64 s, .int .i64 r] w (IntBelow (ringAt l s r) w) := by
  have hn := ringsN_in l.c.tasks
  have f1 := f.t1
  have f2 := f.t2
  have f3 := f.r1
  have f4 := f.r2
  have f5 := f.s2
  by_cases hr : 0 ≤ r ∧ r < ringsN l.c.tasks
  · have ha := aheadN_in (ringsN l.c.tasks)
    have hb := aheadN_in r
    have hlt := aheadN_lt r _ hr.1 hr.2 (by omega)
    have g0 : decide (r < 0) = false := by simp; omega
    have g1 : decide (ringsN l.c.tasks ≤ r) = false := by simp; omega
    by_cases hs : 0 ≤ s ∧ s < l.c.seats
    · have hv := ringAt_eq l s r ⟨hr.1, hr.2, hs.1, hs.2⟩
      have hm := mul_in s _ hs.1 (by omega) ha.1 ha.2
      obtain ⟨p, hp⟩ : ∃ p, p = s * aheadN (ringsN l.c.tasks) := ⟨_, rfl⟩
      rw [← hp] at hv hm
      have HV := Lib.hid hv
      have HP := Lib.hid hp
      clear hv hp
      go_enter Try.func60, Try.ntmps60
      go_wp2_with (refine wpList_load_row rfl 31 (.tmp 3) rfl w.heap.size rfl 31 (lyC l) (0, 0) _ (Bk.made w _ _) Try.underlying31 rfl (by kernel_rfl) ?_)
      (with_reducible refine (rings_any l _ f1 f2).mono ?_)
      rintro e w1 ⟨rfl, hb1⟩
      have k0 := (Bk.made w 31 (lyC l)).keep hb1
      have hbl := below_tr (below_al (Below.refl w.heap.size w) (.cells (lyC l) 31)) hb1
      have c0 := k0.cell 0
      have c1 := k0.cell 17
      simp at c0 c1
      clear hb1
      go_wp2_with fail
      go_quiet (first | (go_at_call 62; exact Calls.quiet_of_same (ahead_any _ _ (by omega) (by omega))) | (go_at_call 59; exact Calls.quiet_of_same (within_in _ _ _ _ _ _ _ HP.out.symm (by omega) (by omega) (by omega) (by omega) (by omega) (by omega) (by omega) (by omega) (by omega))))
      go_wp2
      go_ret
      rw [HV.out]
      exact ⟨rfl, below_dn hbl _⟩
    · have hv : ringAt l s r = -1 := by
        unfold ringAt
        rw [if_neg (by omega)]
      have HV := Lib.hid hv
      have hs' : ¬ (0 ≤ s ∧ s < l.c.seats ∧ 0 ≤ aheadN r ∧ aheadN r < aheadN (ringsN l.c.tasks)) := fun h => hs ⟨h.1, h.2.1⟩
      have HS := Lib.hid hs'
      clear hv hs hs'
      go_enter Try.func60, Try.ntmps60
      go_wp2_with (refine wpList_load_row rfl 31 (.tmp 3) rfl w.heap.size rfl 31 (lyC l) (0, 0) _ (Bk.made w _ _) Try.underlying31 rfl (by kernel_rfl) ?_)
      (with_reducible refine (rings_any l _ f1 f2).mono ?_)
      rintro e w1 ⟨rfl, hb1⟩
      have k0 := (Bk.made w 31 (lyC l)).keep hb1
      have hbl := below_tr (below_al (Below.refl w.heap.size w) (.cells (lyC l) 31)) hb1
      have c0 := k0.cell 0
      have c1 := k0.cell 17
      simp at c0 c1
      clear hb1
      go_wp2_with fail
      go_quiet (first | (go_at_call 62; exact Calls.quiet_of_same (ahead_any _ _ (by omega) (by omega))) | (go_at_call 59; exact Calls.quiet_of_same (within_out _ _ _ _ _ _ HS.out)))
      go_wp2
      go_ret
      rw [HV.out]
      exact ⟨rfl, below_dn hbl _⟩
  · have hv : ringAt l s r = -1 := by
      unfold ringAt
      rw [if_neg (by omega)]
    have HV := Lib.hid hv
    clear hv
    by_cases h0 : r < 0
    · have g0 : decide (r < 0) = true := by simp; omega
      clear hr
      go_enter Try.func60, Try.ntmps60
      go_wp2_with (refine wpList_load_row rfl 31 (.tmp 3) rfl w.heap.size rfl 31 (lyC l) (0, 0) _ (Bk.made w _ _) Try.underlying31 rfl (by kernel_rfl) ?_)
      (with_reducible refine (rings_any l _ f1 f2).mono ?_)
      rintro e w1 ⟨rfl, hb1⟩
      have hbl := below_tr (below_al (Below.refl w.heap.size w) (.cells (lyC l) 31)) hb1
      clear hb1
      go_wp2
      go_ret
      rw [HV.out]
      exact ⟨rfl, hbl⟩
    · have g0 : decide (r < 0) = false := by simp; omega
      have g1 : decide (ringsN l.c.tasks ≤ r) = true := by simp; omega
      clear hr
      go_enter Try.func60, Try.ntmps60
      go_wp2_with (refine wpList_load_row rfl 31 (.tmp 3) rfl w.heap.size rfl 31 (lyC l) (0, 0) _ (Bk.made w _ _) Try.underlying31 rfl (by kernel_rfl) ?_)
      (with_reducible refine (rings_any l _ f1 f2).mono ?_)
      rintro e w1 ⟨rfl, hb1⟩
      have hbl := below_tr (below_al (Below.refl w.heap.size w) (.cells (lyC l) 31)) hb1
      clear hb1
      go_wp2
      go_ret
      rw [HV.out]
      exact ⟨rfl, hbl⟩

/-- How many cells a ring has. -/
def sizeN (r : Int) : Int := if 0 ≤ r ∧ r ≤ 15 then 4 * 2 ^ r.toNat else 0
theorem size_any (r : Int) (w : World) : Calls Try.prog 47 #[.int .i64 r] w (IntSame (sizeN r) w) := by
  by_cases h0 : r < 0
  · have e : sizeN r = 0 := by unfold sizeN; rw [if_neg (by omega)]
    rw [e]
    clear e
    go_enter Try.func47, Try.ntmps47
    go_wp2
    go_ret
    exact ⟨rfl, rfl⟩
  · by_cases h1 : 15 < r
    · have e : sizeN r = 0 := by unfold sizeN; rw [if_neg (by omega)]
      rw [e]
      clear e
      go_enter Try.func47, Try.ntmps47
      go_wp2
      go_ret
      exact ⟨rfl, rfl⟩
    · have h : r = 0 ∨ r = 1 ∨ r = 2 ∨ r = 3 ∨ r = 4 ∨ r = 5 ∨ r = 6 ∨ r = 7 ∨ r = 8 ∨ r = 9 ∨ r = 10 ∨ r = 11 ∨ r = 12 ∨ r = 13 ∨ r = 14 ∨ r = 15 := by omega
      clear h0 h1
      rcases h with rfl | rfl | rfl | rfl | rfl | rfl | rfl | rfl | rfl | rfl | rfl | rfl | rfl | rfl | rfl | rfl <;> (go_enter Try.func47, Try.ntmps47; go_wp2; go_ret; exact ⟨rfl, rfl⟩)
theorem sizeN_in (r : Int) : 0 ≤ sizeN r ∧ sizeN r ≤ 131072 := by
  by_cases h : 0 ≤ r ∧ r ≤ 15
  · have h : r = 0 ∨ r = 1 ∨ r = 2 ∨ r = 3 ∨ r = 4 ∨ r = 5 ∨ r = 6 ∨ r = 7 ∨ r = 8 ∨ r = 9 ∨ r = 10 ∨ r = 11 ∨ r = 12 ∨ r = 13 ∨ r = 14 ∨ r = 15 := by omega
    rcases h with rfl | rfl | rfl | rfl | rfl | rfl | rfl | rfl | rfl | rfl | rfl | rfl | rfl | rfl | rfl | rfl <;> decide
  · unfold sizeN
    rw [if_neg h]
    omega
theorem sizeN_pos (r : Int) (h0 : 0 ≤ r) (h1 : r ≤ 15) : 4 ≤ sizeN r := by
  have h : r = 0 ∨ r = 1 ∨ r = 2 ∨ r = 3 ∨ r = 4 ∨ r = 5 ∨ r = 6 ∨ r = 7 ∨ r = 8 ∨ r = 9 ∨ r = 10 ∨ r = 11 ∨ r = 12 ∨ r = 13 ∨ r = 14 ∨ r = 15 := by omega
  rcases h with rfl | rfl | rfl | rfl | rfl | rfl | rfl | rfl | rfl | rfl | rfl | rfl | rfl | rfl | rfl | rfl <;> decide
end Go.Proofs.Ytdjglkpcdhkodaa
