/- The walk of RingEnough. -/
import Derived.Test.YtekibkfpamfmoaaLaw17B
namespace Go.Proofs.Ytekibkfpamfmoaa
open Go.RowKit
attribute [local go_sem ↓] Go.wp_at_zero Go.wp_at_succ

theorem size_vals : sizeN 0 = 4 ∧ sizeN 1 = 8 ∧ sizeN 2 = 16 ∧ sizeN 3 = 32 ∧ sizeN 4 = 64 := by decide
theorem enough_law (t k : Int) (h0 : 1 ≤ t) (h1 : t ≤ 64) (k0 : 0 ≤ k) (k1 : k < ringsN t) : t ≤ sizeN k ↔ k = ringsN t - 1 := by
  obtain ⟨v0, v1, v2, v3, v4⟩ := size_vals
  have hb := ringsN_in t
  have h : k = 0 ∨ k = 1 ∨ k = 2 ∨ k = 3 ∨ k = 4 := by omega
  have hr : ringsN t = 1 ∧ t ≤ 4 ∨ ringsN t = 2 ∧ 4 < t ∧ t ≤ 8 ∨ ringsN t = 3 ∧ 8 < t ∧ t ≤ 16 ∨ ringsN t = 4 ∧ 16 < t ∧ t ≤ 32 ∨ ringsN t = 5 ∧ 32 < t := by
    unfold ringsN
    repeat' split
    all_goals omega
  rcases h with rfl | rfl | rfl | rfl | rfl <;> first | rw [v0] | rw [v1] | rw [v2] | rw [v3] | rw [v4]
  all_goals omega
theorem twice_law (k : Int) (k0 : 1 ≤ k) (k1 : k ≤ 4) : sizeN k = 2 * sizeN (k - 1) := by
  have h : k = 1 ∨ k = 2 ∨ k = 3 ∨ k = 4 := by omega
  rcases h with rfl | rfl | rfl | rfl <;> decide
def EnRel (w : World) (n : Int) (g : Nat) (l : Ly) (i : Value) (wr : World) : Prop := ∃ k : Nat, (k : Int) ≤ n ∧ i = .int .i64 k ∧ Below w.heap.size w wr ∧ Bk wr g 26 (lyC l)
set_option maxRecDepth 100000 in
set_option maxHeartbeats 8000000 in
theorem enough_any (x y : Int) (w : World) (x0 : 0 ≤ x) (x1 : x < 256) (y0 : 0 ≤ y) (y1 : y < 256) : Calls Try.prog 6 #[.int .u8 x, .int .u8 y] w (BoolBelow true w) := by
  have a0 : 0 ≤ x % 3 := Int.emod_nonneg _ (by omega)
  have a1 : x % 3 < 3 := Int.emod_lt_of_pos _ (by omega)
  have a2 : 0 ≤ y % 64 := Int.emod_nonneg _ (by omega)
  have a3 : y % 64 < 64 := Int.emod_lt_of_pos _ (by omega)
  have f := whereL_fit (1 + x % 3) (1 + y % 64) (by omega) (by omega) (by omega) (by omega)
  have hn := ringsN_in (1 + y % 64)
  obtain ⟨l, hl⟩ : ∃ l, l = whereL (1 + x % 3) (1 + y % 64) := ⟨_, rfl⟩
  have hls : l.c.seats = 1 + x % 3 := by rw [hl]; rfl
  have hlt : l.c.tasks = 1 + y % 64 := by rw [hl]; rfl
  rw [← hl] at f
  have hlaw := fun k => enough_law (1 + y % 64) k (by omega) (by omega)
  rw [← hlt] at hn
  have hlaw2 : ∀ k, 0 ≤ k → k < ringsN l.c.tasks → (1 + y % 64 ≤ sizeN k ↔ k = ringsN l.c.tasks - 1) := by rw [hlt]; exact hlaw
  have hpl : ∀ k, 0 ≤ k → k < ringsN l.c.tasks → 0 ≤ placeAt l 0 k 0 := by
    intro k k0 k1
    have he := ringAt_eq l 0 k ⟨k0, k1, by omega, by omega⟩
    have h1 := (aheadN_in k).1
    have h2 := f.r1
    have hne : ringAt l 0 k ≠ -1 := by rw [he]; omega
    rw [place_some l 0 k 0 hne (by omega), he]
    simp
    omega
  have hpn : placeAt l 0 (ringsN l.c.tasks) 0 = -1 := place_none _ _ _ _ (by unfold ringAt; rw [if_neg (by omega)])
  have t1 := f.t1
  have t2 := f.t2
  have HL := Lib.hid hl
  have HF := Lib.hid f
  have HW := Lib.hid (And.intro hlaw2 (And.intro hpl hpn))
  clear hl f hlaw hlaw2 hpl hpn hls hlt
  go_enter Try.func6, Try.ntmps6
  go_wp2_with fail
  (with_reducible refine (awake_any _).mono ?_)
  rintro e w1 ⟨rfl, hbl⟩
  go_wp2_with fail
  (with_reducible refine (where_any x y _ x0 x1 y0 y1).mono ?_)
  rintro e w2 ⟨rfl, hb⟩
  rw [← HL.out]
  replace hbl := below_tr hbl hb
  clear hb
  have k0 := Bk.made w2 26 (lyC l)
  go_wp2_with (first
    | (refine wpList_store_new rfl 26 (.tmp 6) (.tmp 13) rfl rfl w2.heap.size _ _ (lyC l) rfl rfl rfl rfl (by kernel_rfl) rfl (by simp [Value.oneCell']) ?_)
    | (refine wpList_load_row rfl 26 (.tmp 6) rfl w2.heap.size rfl 26 (lyC l) (0, 0) _ k0 Try.underlying26 rfl (by kernel_rfl) ?_))
  (with_reducible refine (rings_any l _ t1 t2).mono ?_)
  rintro e w3 ⟨rfl, hb⟩
  replace k0 := k0.keep hb
  replace hbl := below_tr (below_al hbl _) hb
  clear hb
  generalize ringsN l.c.tasks = n at *
  go_wp2_with fail
  go_loopw [9, 20, 21, 22, 23, 24, 25, 26, 27, 28, 29, 30, 31, 32, 33, 34, 35, 36, 37, 38, 39, 40, 41, 42, 43, 44, 45, 46, 47, 48, 49, 50, 51, 52, 53, 54, 55, 56] (fun i _ _ _ _ _ _ _ _ _ _ _ _ _ _ _ _ _ _ _ _ _ _ _ _ _ _ _ _ _ _ _ _ _ _ _ _ _ wr => EnRel w n w2.heap.size l i wr) (fun i _ _ _ _ _ _ _ _ _ _ _ _ _ _ _ _ _ _ _ _ _ _ _ _ _ _ _ _ _ _ _ _ _ _ _ _ _ _ => n.toNat - (intOf i).toNat)
  case atStart => exact ⟨0, by omega, rfl, hbl, k0⟩
  case round =>
    clear hbl k0
    obtain ⟨k, hk, rfl, hbl, k0⟩ := hrel
    by_cases hlt : (k : Int) < n
    · have g0 : decide ((k : Int) < n) = true := by simp; omega
      have g1 : decide ((k : Int) < 20) = true := by simp; omega
      have hsz := sizeN_in k
      have hp := HW.out.2.1 k (by omega) hlt
      have g5 : decide (placeAt l 0 k 0 < 0) = false := by simp; omega
      obtain ⟨q, q1, q2⟩ : ∃ q, decide (1 + y % 64 ≤ sizeN k) = q ∧ ((k : Int) == n - 1) = q := by
        refine ⟨_, rfl, ?_⟩
        have := HW.out.1 k (by omega) hlt
        rw [Bool.eq_iff_iff]
        simp only [beq_iff_eq, decide_eq_true_eq]
        exact this.symm
      have q3 : (q != q) = false := by simp
      by_cases hk0 : 0 < (k : Int)
      · have g2 : decide (0 < (k : Int)) = true := by simp; omega
        have htw := twice_law k (by omega) (by omega)
        have hsz' := sizeN_in ((k : Int) - 1)
        have g3 : (sizeN k != 2 * sizeN ((k : Int) - 1)) = false := by simp [← htw]
        have HT := Lib.hid htw
        clear htw
        go_wp2_with fail
        (with_reducible refine (size_any k _).mono ?_)
        rintro e w5 ⟨rfl, rfl⟩
        go_wp2_with fail
        (with_reducible refine (size_any k _).mono ?_)
        rintro e w5 ⟨rfl, rfl⟩
        go_wp2_with fail
        (with_reducible refine (size_any ((k : Int) - 1) _).mono ?_)
        rintro e w5 ⟨rfl, rfl⟩
        go_wp2_with (refine wpList_load_rowG (by rfl) 26 (.tmp 6) rfl w2.heap.size rfl 26 (lyC l) (0, 0) _ k0 Try.underlying26 rfl (by kernel_rfl) ?_)
        (with_reducible refine (place_any l 0 k 0 _ HF.out).mono ?_)
        rintro e w6 ⟨rfl, hb⟩
        replace k0 := k0.keep hb
        replace hbl := below_tr hbl hb
        clear hb
        go_wp2
        go_roundw
        case rel => exact ⟨k + 1, by omega, by go_num, hbl, k0⟩
        case measure => simp [intOf]; omega
      · have g2 : decide (0 < (k : Int)) = false := by simp; omega
        go_wp2_with fail
        (with_reducible refine (size_any k _).mono ?_)
        rintro e w5 ⟨rfl, rfl⟩
        go_wp2_with (refine wpList_load_rowG (by rfl) 26 (.tmp 6) rfl w2.heap.size rfl 26 (lyC l) (0, 0) _ k0 Try.underlying26 rfl (by kernel_rfl) ?_)
        (with_reducible refine (place_any l 0 k 0 _ HF.out).mono ?_)
        rintro e w6 ⟨rfl, hb⟩
        replace k0 := k0.keep hb
        replace hbl := below_tr hbl hb
        clear hb
        go_wp2
        go_roundw
        case rel => exact ⟨k + 1, by omega, by go_num, hbl, k0⟩
        case measure => simp [intOf]; omega
    · have g0 : decide ((k : Int) < n) = false := by simp; omega
      have g1 : decide (1 ≤ n) = true := by simp; omega
      have g2 : decide (n ≤ 5) = true := by simp; omega
      go_wp2_with (refine wpList_load_rowG (by rfl) 26 (.tmp 6) rfl w2.heap.size rfl 26 (lyC l) (0, 0) _ k0 Try.underlying26 rfl (by kernel_rfl) ?_)
      (with_reducible refine (place_any l 0 n 0 _ HF.out).mono ?_)
      rintro e w6 ⟨rfl, hb⟩
      rw [HW.out.2.2]
      replace hbl := below_tr hbl hb
      clear hb k0
      go_wp2
      go_ret
      exact ⟨rfl, hbl⟩
end Go.Proofs.Ytekibkfpamfmoaa
