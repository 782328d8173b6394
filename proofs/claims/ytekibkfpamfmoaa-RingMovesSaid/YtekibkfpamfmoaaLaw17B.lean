/- The walk of RingApart. -/
import Derived.Test.YtekibkfpamfmoaaLaw17A
namespace Go.Proofs.Ytekibkfpamfmoaa
open Go.RowKit
attribute [local go_sem ↓] Go.wp_at_zero Go.wp_at_succ

theorem ahead_next (r : Int) (h0 : 0 ≤ r) (h1 : r ≤ 5) : aheadN (r + 1) = aheadN r + sizeN r := by
  have h : r = 0 ∨ r = 1 ∨ r = 2 ∨ r = 3 ∨ r = 4 ∨ r = 5 := by omega
  rcases h with rfl | rfl | rfl | rfl | rfl | rfl <;> decide
theorem ahead_mono (r n : Int) (h0 : 0 ≤ r) (h1 : r ≤ n) (h2 : n ≤ 6) : aheadN r ≤ aheadN n := by
  by_cases h : r = n
  · rw [h]; exact Int.le_refl _
  · exact Int.le_of_lt (aheadN_lt r n h0 (by omega) h2)
/-- Where a place of a ring lies. -/
theorem place_bd (l : Ly) (s r i : Int) (f : LyFit l) (h : 0 ≤ placeAt l s r i) :
    0 ≤ r ∧ r < ringsN l.c.tasks ∧ 0 ≤ s ∧ s < l.c.seats ∧ l.ring + s * aheadN (ringsN l.c.tasks) + aheadN r ≤ placeAt l s r i ∧ placeAt l s r i < l.ring + s * aheadN (ringsN l.c.tasks) + aheadN (r + 1) := by
  unfold placeAt at h ⊢
  split at h
  · omega
  · rename_i hn
    rw [if_neg hn]
    have hr : ringAt l s r ≠ -1 := fun e => hn (.inl e)
    have ho := ringAt_of l s r hr
    have hb := ringsN_in l.c.tasks
    rw [ringAt_eq l s r ho]
    have h4 := sizeN_pos r ho.1 (by omega)
    have m0 : 0 ≤ i % sizeN r := Int.emod_nonneg _ (by omega)
    have m1 : i % sizeN r < sizeN r := Int.emod_lt_of_pos _ (by omega)
    have := ahead_next r ho.1 (by omega)
    refine ⟨ho.1, ho.2.1, ho.2.2.1, ho.2.2.2, by omega, by omega⟩
theorem mul_step (x y A : Int) (hA : 0 ≤ A) (h : x + 1 ≤ y) : x * A + A ≤ y * A := by
  have := Int.mul_le_mul_of_nonneg_right h hA
  rw [Int.add_mul, Int.one_mul] at this
  exact this
theorem apart_law (l : Ly) (s r i s' r' i' : Int) (f : LyFit l) (h : 0 ≤ placeAt l s r i) (h' : placeAt l s r i = placeAt l s' r' i') : s = s' ∧ r = r' := by
  obtain ⟨a0, a1, a2, a3, a4, a5⟩ := place_bd l s r i f h
  obtain ⟨b0, b1, b2, b3, b4, b5⟩ := place_bd l s' r' i' f (h' ▸ h)
  have hb := ringsN_in l.c.tasks
  rw [← h'] at b4 b5
  have hA := aheadN_in (ringsN l.c.tasks)
  have u1 := ahead_mono (r + 1) (ringsN l.c.tasks) (by omega) (by omega) (by omega)
  have u2 := ahead_mono (r' + 1) (ringsN l.c.tasks) (by omega) (by omega) (by omega)
  have v1 := (aheadN_in r).1
  have v2 := (aheadN_in r').1
  have hs : s = s' := by
    rcases Int.lt_trichotomy s s' with hlt | he | hlt
    · have := mul_step s s' _ hA.1 (by omega); omega
    · exact he
    · have := mul_step s' s _ hA.1 (by omega); omega
  subst hs
  refine ⟨rfl, ?_⟩
  rcases Int.lt_trichotomy r r' with hlt | he | hlt
  · have := ahead_mono (r + 1) r' (by omega) (by omega) (by omega); omega
  · exact he
  · have := ahead_mono (r' + 1) r (by omega) (by omega) (by omega); omega
theorem inside_law (a b s r i : Int) (h0 : 1 ≤ a) (h1 : a ≤ 8) (h2 : 1 ≤ b) (h3 : b ≤ 64) (h : 0 ≤ placeAt (whereL a b) s r i) : (whereL a b).ring ≤ placeAt (whereL a b) s r i ∧ placeAt (whereL a b) s r i < (whereL a b).task := by
  have f := whereL_fit a b h0 h1 h2 h3
  obtain ⟨a0, a1, a2, a3, a4, a5⟩ := place_bd _ s r i f h
  have hk := (lyOk_of _ (cfOf_can a b h0 h1 h2 h3)).task
  have hb := ringsN_in (whereL a b).c.tasks
  have hA := aheadN_in (ringsN (whereL a b).c.tasks)
  have u1 := ahead_mono (r + 1) (ringsN (whereL a b).c.tasks) (by omega) (by omega) (by omega)
  have v1 := (aheadN_in r).1
  have m := Int.mul_nonneg a2 hA.1
  have st := mul_step s (whereL a b).c.seats _ hA.1 (by omega)
  have hk' : (whereL a b).ring + (whereL a b).c.seats * aheadN (ringsN (whereL a b).c.tasks) = (whereL a b).task := hk
  omega

set_option maxRecDepth 100000 in
set_option maxHeartbeats 8000000 in
theorem apart_any (x y s0 s1 r0 r1 i k : Int) (w : World) (x0 : 0 ≤ x) (x1 : x < 256) (y0 : 0 ≤ y) (y1 : y < 256) (p0 : 0 ≤ s0) (p1 : s0 < 256) (p2 : 0 ≤ s1) (p3 : s1 < 256) (p4 : 0 ≤ r0) (p5 : r0 < 256) (p6 : 0 ≤ r1) (p7 : r1 < 256)
    (i0 : 0 ≤ i) (i1 : i < 65536) (k0 : 0 ≤ k) (k1 : k < 65536) :
    Calls Try.prog 5 #[.int .u8 x, .int .u8 y, .agg #[.int .u8 s0, .int .u8 s1], .agg #[.int .u8 r0, .int .u8 r1], .int .u16 i, .int .u16 k] w (BoolBelow true w) := by
  have a0 : 0 ≤ x % 3 := Int.emod_nonneg _ (by omega)
  have a1 : x % 3 < 3 := Int.emod_lt_of_pos _ (by omega)
  have a2 : 0 ≤ y % 64 := Int.emod_nonneg _ (by omega)
  have a3 : y % 64 < 64 := Int.emod_lt_of_pos _ (by omega)
  have b0 : 0 ≤ s0 % (1 + x % 3) := Int.emod_nonneg _ (by omega)
  have b1 : s0 % (1 + x % 3) < 1 + x % 3 := Int.emod_lt_of_pos _ (by omega)
  have b2 : 0 ≤ s1 % (1 + x % 3) := Int.emod_nonneg _ (by omega)
  have b3 : s1 % (1 + x % 3) < 1 + x % 3 := Int.emod_lt_of_pos _ (by omega)
  have b4 : 0 ≤ r0 % 8 := Int.emod_nonneg _ (by omega)
  have b5 : r0 % 8 < 8 := Int.emod_lt_of_pos _ (by omega)
  have b6 : 0 ≤ r1 % 8 := Int.emod_nonneg _ (by omega)
  have b7 : r1 % 8 < 8 := Int.emod_lt_of_pos _ (by omega)
  have f := whereL_fit (1 + x % 3) (1 + y % 64) (by omega) (by omega) (by omega) (by omega)
  have hin := inside_law (1 + x % 3) (1 + y % 64) (s0 % (1 + x % 3)) (r0 % 8) i (by omega) (by omega) (by omega) (by omega)
  have hap := apart_law (whereL (1 + x % 3) (1 + y % 64)) (s0 % (1 + x % 3)) (r0 % 8) i (s1 % (1 + x % 3)) (r1 % 8) k f
  obtain ⟨l, hl⟩ : ∃ l, l = whereL (1 + x % 3) (1 + y % 64) := ⟨_, rfl⟩
  rw [← hl] at f hin hap
  have HL := Lib.hid hl
  have HF := Lib.hid f
  clear hl f
  obtain ⟨a, ha⟩ : ∃ a, a = placeAt l (s0 % (1 + x % 3)) (r0 % 8) i := ⟨_, rfl⟩
  obtain ⟨b, hb⟩ : ∃ b, b = placeAt l (s1 % (1 + x % 3)) (r1 % 8) k := ⟨_, rfl⟩
  rw [← ha] at hin hap
  rw [← hb] at hap
  have HA := Lib.hid ha
  have HB := Lib.hid hb
  clear ha hb
  have cases4 : (decide (0 ≤ a) = false ∧ decide (a < 0) = true ∧ True ∧ True ∧ True ∧ True ∧ True ∧ True) ∨
      (decide (0 ≤ a) = true ∧ decide (a < 0) = false ∧ decide (a < l.ring) = false ∧ decide (l.task ≤ a) = false ∧ decide (b < 0) = true ∧ True ∧ True ∧ True) ∨
      (decide (0 ≤ a) = true ∧ decide (a < 0) = false ∧ decide (a < l.ring) = false ∧ decide (l.task ≤ a) = false ∧ decide (b < 0) = false ∧ (a != b) = true ∧ True ∧ True) ∨
      (decide (0 ≤ a) = true ∧ decide (a < 0) = false ∧ decide (a < l.ring) = false ∧ decide (l.task ≤ a) = false ∧ decide (b < 0) = false ∧ (a != b) = false ∧ (s0 % (1 + x % 3) == s1 % (1 + x % 3)) = true ∧ (r0 % 8 == r1 % 8) = true) := by
    by_cases h1 : 0 ≤ a
    · have := hin h1
      by_cases h2 : b < 0
      · exact .inr (.inl ⟨by simp; omega, by simp; omega, by simp; omega, by simp; omega, by simp; omega, trivial, trivial, trivial⟩)
      · by_cases h3 : a = b
        · obtain ⟨e1, e2⟩ := hap h1 h3
          exact .inr (.inr (.inr ⟨by simp; omega, by simp; omega, by simp; omega, by simp; omega, by simp; omega, by simp [h3], by simp [e1], by simp [e2]⟩))
        · exact .inr (.inr (.inl ⟨by simp; omega, by simp; omega, by simp; omega, by simp; omega, by simp; omega, by simp [h3], trivial, trivial⟩))
    · exact .inl ⟨by simp; omega, by simp; omega, trivial, trivial, trivial, trivial, trivial, trivial⟩
  clear hin hap
  rcases cases4 with ⟨g1, g2, g3, g4, g5, g6, g7, g8⟩ | ⟨g1, g2, g3, g4, g5, g6, g7, g8⟩ | ⟨g1, g2, g3, g4, g5, g6, g7, g8⟩ | ⟨g1, g2, g3, g4, g5, g6, g7, g8⟩
  all_goals
    go_enter Try.func5, Try.ntmps5
    go_wp2_with fail
    (with_reducible refine (awake_any _).mono ?_)
    rintro e w1 ⟨rfl, hb⟩
    have hbl := below_tr (below_al (below_al (Below.refl w.heap.size w) (.cells #[.int .u8 s0, .int .u8 s1] 37)) (.cells #[.int .u8 r0, .int .u8 r1] 37)) hb
    have ks := ((Bk.made w 37 #[.int .u8 s0, .int .u8 s1]).alloc (.cells #[.int .u8 r0, .int .u8 r1] 37)).keep hb
    have kr := (Bk.new (w.alloc (.cells #[.int .u8 s0, .int .u8 s1] 37)) (g := w.heap.size + 1) (by simp) 37 #[.int .u8 r0, .int .u8 r1]).keep hb
    clear hb
    go_wp2_with fail
    (with_reducible refine (where_any x y _ x0 x1 y0 y1).mono ?_)
    rintro e w2 ⟨rfl, hb⟩
    rw [← HL.out]
    have hbA := below_al (Below.refl w2.heap.size w2) (.cells (lyC l) 26)
    replace ks := (ks.keep hb).keep hbA
    replace kr := (kr.keep hb).keep hbA
    replace hbl := below_tr (below_tr hbl hb) hbA
    have kl := Bk.made w2 26 (lyC l)
    have q0 := ks.cell 0
    have q1 := ks.cell 1
    have q2 := kr.cell 0
    have q3 := kr.cell 1
    simp at q0 q1 q2 q3
    clear hb hbA
    go_wp2_with (first
      | (refine wpList_store_new rfl 26 (.tmp 14) (.tmp 23) rfl rfl w2.heap.size _ _ (lyC l) rfl rfl rfl rfl (by kernel_rfl) rfl (by simp [Value.oneCell']) ?_; (generalize w2.alloc (.cells (lyC l) 26) = w3 at *))
      | (refine wpList_load_row rfl 26 (.tmp 14) rfl w2.heap.size rfl 26 (lyC l) (0, 0) _ kl Try.underlying26 rfl (by kernel_rfl) ?_))
    (with_reducible refine (place_any l (s0 % (1 + x % 3)) (r0 % 8) i _ HF.out).mono ?_)
    rintro e w4 ⟨rfl, hb⟩
    rw [← HA.out]
    replace kl := kl.keep hb
    replace ks := ks.keep hb
    replace kr := kr.keep hb
    replace hbl := below_tr hbl hb
    clear hb q0 q1 q2 q3 w3
    have q0 := ks.cell 0
    have q1 := ks.cell 1
    have q2 := kr.cell 0
    have q3 := kr.cell 1
    simp at q0 q1 q2 q3
    go_wp2_with (refine wpList_load_row rfl 26 (.tmp 14) rfl w2.heap.size rfl 26 (lyC l) (0, 0) _ kl Try.underlying26 rfl (by kernel_rfl) ?_)
    (with_reducible refine (place_any l (s1 % (1 + x % 3)) (r1 % 8) k _ HF.out).mono ?_)
    rintro e w5 ⟨rfl, hb⟩
    rw [← HB.out]
    replace kl := kl.keep hb
    replace kr := kr.keep hb
    replace hbl := below_tr hbl hb
    clear hb q0 q1 q2 q3 w4 ks
    have q2 := kr.cell 0
    have q3 := kr.cell 1
    have q4 := kl.cell 17
    have q5 := kl.cell 18
    simp at q2 q3 q4 q5
    go_wp2
    go_ret
    exact ⟨rfl, hbl⟩
end Go.Proofs.Ytekibkfpamfmoaa
