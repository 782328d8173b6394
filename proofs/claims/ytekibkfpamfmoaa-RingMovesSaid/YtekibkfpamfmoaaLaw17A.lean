/- The walk of RingRound. -/
import Derived.Test.YtekibkfpamfmoaaRingD
namespace Go.Proofs.Ytekibkfpamfmoaa
open Go.RowKit
attribute [local go_sem ↓] Go.wp_at_zero Go.wp_at_succ

theorem place_none (l : Ly) (s r i : Int) (h : ringAt l s r = -1) : placeAt l s r i = -1 := by unfold placeAt; rw [if_pos (.inl h)]
theorem place_some (l : Ly) (s r i : Int) (h : ringAt l s r ≠ -1) (hi : 0 ≤ i) : placeAt l s r i = ringAt l s r + i % sizeN r := by unfold placeAt; rw [if_neg (by omega)]
theorem round_law (i m n : Int) (hn : 4 ≤ n) : i % n = (i + m) % n ↔ m % n = 0 := by
  constructor
  · intro h
    have h1 : (i + m - i) % n = 0 := by rw [Int.sub_emod, h]; simp
    rwa [show i + m - i = m by omega] at h1
  · intro h
    rw [Int.add_emod, h]
    simp

set_option maxRecDepth 100000 in
set_option maxHeartbeats 8000000 in
theorem round_any (x y se r i m : Int) (w : World) (x0 : 0 ≤ x) (x1 : x < 256) (y0 : 0 ≤ y) (y1 : y < 256) (s0 : 0 ≤ se) (s1 : se < 256) (r0 : 0 ≤ r) (r1 : r < 256) (i0 : 0 ≤ i) (i1 : i < 4294967296) (m0 : 0 ≤ m) (m1 : m < 256) :
    Calls Try.prog 4 #[.int .u8 x, .int .u8 y, .int .u8 se, .int .u8 r, .int .u32 i, .int .u8 m] w (BoolBelow true w) := by
  have a0 : 0 ≤ x % 3 := Int.emod_nonneg _ (by omega)
  have a1 : x % 3 < 3 := Int.emod_lt_of_pos _ (by omega)
  have a2 : 0 ≤ y % 64 := Int.emod_nonneg _ (by omega)
  have a3 : y % 64 < 64 := Int.emod_lt_of_pos _ (by omega)
  have b0 : 0 ≤ se % (1 + x % 3) := Int.emod_nonneg _ (by omega)
  have b1 : se % (1 + x % 3) < 1 + x % 3 := Int.emod_lt_of_pos _ (by omega)
  have b2 : 0 ≤ r % 8 := Int.emod_nonneg _ (by omega)
  have b3 : r % 8 < 8 := Int.emod_lt_of_pos _ (by omega)
  have f := whereL_fit (1 + x % 3) (1 + y % 64) (by omega) (by omega) (by omega) (by omega)
  have hn := ringsN_in (1 + y % 64)
  obtain ⟨l, hl⟩ : ∃ l, l = whereL (1 + x % 3) (1 + y % 64) := ⟨_, rfl⟩
  have hls : l.c.seats = 1 + x % 3 := by rw [hl]; rfl
  have hlt : l.c.tasks = 1 + y % 64 := by rw [hl]; rfl
  rw [← hl] at f
  have hrn : ringsN l.c.tasks = ringsN (1 + y % 64) := by rw [hlt]
  rw [← hrn] at hn
  have t1 := f.t1
  have t2 := f.t2
  have HL := Lib.hid hl
  have HF := Lib.hid f
  have hsz := sizeN_in (r % 8)
  clear hl f
  by_cases hk : r % 8 < ringsN l.c.tasks
  · have hne : ringAt l (se % (1 + x % 3)) (r % 8) ≠ -1 := by
      rw [ringAt_eq _ _ _ ⟨b2, hk, b0, by omega⟩]
      have := aheadN_in (ringsN l.c.tasks)
      have := aheadN_in (r % 8)
      have h3 := mul_in (se % (1 + x % 3)) _ b0 (by omega) (aheadN_in (ringsN l.c.tasks)).1 (aheadN_in (ringsN l.c.tasks)).2
      have := HF.out.r1
      omega
    have hp := place_some l (se % (1 + x % 3)) (r % 8) i hne i0
    have hq := place_some l (se % (1 + x % 3)) (r % 8) (i + m) hne (by omega)
    have hrg := ringAt_in l (se % (1 + x % 3)) (r % 8) HF.out
    have hs4 := sizeN_pos (r % 8) b2 (by omega)
    have hlaw := round_law i m _ hs4
    have hm0 : 0 ≤ i % sizeN (r % 8) := Int.emod_nonneg _ (by omega)
    have ha : 0 ≤ placeAt l (se % (1 + x % 3)) (r % 8) i := by omega
    have g1 : decide (placeAt l (se % (1 + x % 3)) (r % 8) i < 0) = false := by simp; omega
    have g2 : decide (sizeN (r % 8) < 4) = false := by simp; omega
    have g3 : decide (r % 8 < ringsN l.c.tasks) = true := by simp; omega
    have hmz : 0 ≤ m % sizeN (r % 8) := Int.emod_nonneg _ (by omega)
    obtain ⟨q, q1, q2⟩ : ∃ q, (placeAt l (se % (1 + x % 3)) (r % 8) i == placeAt l (se % (1 + x % 3)) (r % 8) (i + m)) = q ∧ (m % sizeN (r % 8) == 0) = q := by
      refine ⟨_, rfl, ?_⟩
      rw [Bool.eq_iff_iff]
      simp only [beq_iff_eq]
      rw [hp, hq]
      constructor
      · intro h
        rw [hlaw.2 h]
      · intro h
        exact hlaw.1 (by omega)
    clear hlaw hp hq hrg hm0 hne hls hlt hrn
    go_enter Try.func4, Try.ntmps4
    go_wp2_with fail
    (with_reducible refine (awake_any _).mono ?_)
    rintro e w1 ⟨rfl, hbl⟩
    go_wp2_with fail
    (with_reducible refine (where_any x y _ x0 x1 y0 y1).mono ?_)
    rintro e w2 ⟨rfl, hb⟩
    rw [← HL.out]
    replace hbl := below_tr hbl hb
    clear hb
    have k0 := Bk.made w2 26 (lyC l)
    go_wp2_with (first
      | (refine wpList_store_new rfl 26 (.tmp 14) (.tmp 23) rfl rfl w2.heap.size _ _ (lyC l) rfl rfl rfl rfl (by kernel_rfl) rfl (by simp [Value.oneCell']) ?_)
      | (refine wpList_load_row rfl 26 (.tmp 14) rfl w2.heap.size rfl 26 (lyC l) (0, 0) _ k0 Try.underlying26 rfl (by kernel_rfl) ?_))
    (with_reducible refine (place_any l (se % (1 + x % 3)) (r % 8) i _ HF.out).mono ?_)
    rintro e w3 ⟨rfl, hb⟩
    replace k0 := k0.keep hb
    replace hbl := below_tr (below_al hbl _) hb
    clear hb
    go_wp2_with (refine wpList_load_row rfl 26 (.tmp 14) rfl w2.heap.size rfl 26 (lyC l) (0, 0) _ k0 Try.underlying26 rfl (by kernel_rfl) ?_)
    (with_reducible refine (place_any l (se % (1 + x % 3)) (r % 8) (i + m) _ HF.out).mono ?_)
    rintro e w4 ⟨rfl, hb⟩
    replace k0 := k0.keep hb
    replace hbl := below_tr hbl hb
    clear hb
    go_wp2_with fail
    (with_reducible refine (size_any (r % 8) _).mono ?_)
    rintro e w5 ⟨rfl, rfl⟩
    generalize placeAt l (se % (1 + x % 3)) (r % 8) i = a at *
    generalize placeAt l (se % (1 + x % 3)) (r % 8) (i + m) = b at *
    generalize sizeN (r % 8) = n at *
    go_wp2_with (refine wpList_load_rowG (by rfl) 26 (.tmp 14) rfl w2.heap.size rfl 26 (lyC l) (0, 0) _ k0 Try.underlying26 rfl (by kernel_rfl) ?_)
    (with_reducible refine (rings_any l _ t1 t2).mono ?_)
    rintro e w6 ⟨rfl, hb⟩
    replace hbl := below_tr hbl hb
    clear hb k0
    generalize ringsN l.c.tasks = rn at *
    go_wp2
    go_ret
    refine ⟨ret_bool ?_, hbl⟩
    simp [q1, q2]
  · have hne : ringAt l (se % (1 + x % 3)) (r % 8) = -1 := by
      unfold ringAt
      rw [if_neg (by omega)]
    have hp := place_none l (se % (1 + x % 3)) (r % 8) i hne
    have hq := place_none l (se % (1 + x % 3)) (r % 8) (i + m) hne
    have g3 : decide (ringsN l.c.tasks ≤ r % 8) = true := by simp; omega
    have HP := Lib.hid (And.intro hp hq)
    clear hp hq hne hk hls hlt hrn
    go_enter Try.func4, Try.ntmps4
    go_wp2_with fail
    (with_reducible refine (awake_any _).mono ?_)
    rintro e w1 ⟨rfl, hbl⟩
    go_wp2_with fail
    (with_reducible refine (where_any x y _ x0 x1 y0 y1).mono ?_)
    rintro e w2 ⟨rfl, hb⟩
    rw [← HL.out]
    replace hbl := below_tr hbl hb
    clear hb
    have k0 := Bk.made w2 26 (lyC l)
    go_wp2_with (first
      | (refine wpList_store_new rfl 26 (.tmp 14) (.tmp 23) rfl rfl w2.heap.size _ _ (lyC l) rfl rfl rfl rfl (by kernel_rfl) rfl (by simp [Value.oneCell']) ?_)
      | (refine wpList_load_row rfl 26 (.tmp 14) rfl w2.heap.size rfl 26 (lyC l) (0, 0) _ k0 Try.underlying26 rfl (by kernel_rfl) ?_))
    (with_reducible refine (place_any l (se % (1 + x % 3)) (r % 8) i _ HF.out).mono ?_)
    rintro e w3 ⟨rfl, hb⟩
    rw [HP.out.1]
    replace k0 := k0.keep hb
    replace hbl := below_tr (below_al hbl _) hb
    clear hb
    go_wp2_with (refine wpList_load_row rfl 26 (.tmp 14) rfl w2.heap.size rfl 26 (lyC l) (0, 0) _ k0 Try.underlying26 rfl (by kernel_rfl) ?_)
    (with_reducible refine (place_any l (se % (1 + x % 3)) (r % 8) (i + m) _ HF.out).mono ?_)
    rintro e w4 ⟨rfl, hb⟩
    rw [HP.out.2]
    replace k0 := k0.keep hb
    replace hbl := below_tr hbl hb
    clear hb
    go_wp2_with fail
    (with_reducible refine (size_any (r % 8) _).mono ?_)
    rintro e w5 ⟨rfl, rfl⟩
    generalize sizeN (r % 8) = n at *
    go_wp2_with (refine wpList_load_rowG (by rfl) 26 (.tmp 14) rfl w2.heap.size rfl 26 (lyC l) (0, 0) _ k0 Try.underlying26 rfl (by kernel_rfl) ?_)
    (with_reducible refine (rings_any l _ t1 t2).mono ?_)
    rintro e w6 ⟨rfl, hb⟩
    replace hbl := below_tr hbl hb
    clear hb k0
    generalize ringsN l.c.tasks = rn at *
    go_wp2
    go_ret
    exact ⟨rfl, hbl⟩
end Go.Proofs.Ytekibkfpamfmoaa
