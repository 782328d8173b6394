/- The reference's Size, Place, Fits of rings. -/
import Derived.Test.YtdjglkpcdhkodaaRefA
import Derived.Test.YtdjglkpcdhkodaaRingB
namespace Go.Proofs.Ytdjglkpcdhkodaa
open Go.RowKit
attribute [local go_sem ↓] Go.wp_at_zero Go.wp_at_succ

def SzRel (r : Int) (n i : Value) : Prop := ∃ (k : Nat) (z : Int), (k : Int) ≤ r ∧ i = .int .i64 k ∧ n = .int .i64 z ∧ z = 4 * 2 ^ k ∧ z ≤ 131072
theorem pow_le (k : Nat) (h : k ≤ 15) : (4 * 2 ^ k : Int) ≤ 131072 := by
  have h : k = 0 ∨ k = 1 ∨ k = 2 ∨ k = 3 ∨ k = 4 ∨ k = 5 ∨ k = 6 ∨ k = 7 ∨ k = 8 ∨ k = 9 ∨ k = 10 ∨ k = 11 ∨ k = 12 ∨ k = 13 ∨ k = 14 ∨ k = 15 := by omega
  rcases h with rfl | rfl | rfl | rfl | rfl | rfl | rfl | rfl | rfl | rfl | rfl | rfl | rfl | rfl | rfl | rfl <;> decide
theorem pow_pos' (k : Nat) : (0 : Int) < 4 * 2 ^ k := by
  have : (0 : Int) < 2 ^ k := Int.pow_pos (by omega)
  omega
set_option maxHeartbeats 1000000 in
theorem rsize_any (r : Int) (w : World) : Calls Try.prog 37 #[.int .i64 r] w (IntSame (sizeN r) w) := by
  by_cases h0 : r < 0
  · have e : sizeN r = 0 := by unfold sizeN; rw [if_neg (by omega)]
    rw [e]
    clear e
    go_enter Try.func37, Try.ntmps37
    go_wp2
    go_ret
    exact ⟨rfl, rfl⟩
  · by_cases h1 : 15 < r
    · have e : sizeN r = 0 := by unfold sizeN; rw [if_neg (by omega)]
      rw [e]
      clear e
      go_enter Try.func37, Try.ntmps37
      go_wp2
      go_ret
      exact ⟨rfl, rfl⟩
    · have e : sizeN r = 4 * 2 ^ r.toNat := by unfold sizeN; rw [if_pos (by omega)]
      have HE := Lib.hid e
      clear e
      have g0 : decide (r < 0) = false := by simp; omega
      have g1 : decide (15 < r) = false := by simp; omega
      go_enter Try.func37, Try.ntmps37
      go_wp2
      go_loop [3, 4, 11, 12, 13, 14, 15, 16, 17] (fun n i _ _ _ _ _ _ _ => SzRel r n i) (fun _ i _ _ _ _ _ _ _ => r.toNat - (intOf i).toNat)
      case atStart => exact ⟨0, 4, by omega, rfl, rfl, by decide, by omega⟩
      case round =>
        obtain ⟨k, z, hk, rfl, rfl, hz, hz1⟩ := hrel
        have hz0 : 0 < z := by rw [hz]; exact pow_pos' k
        have HZ := Lib.hid hz
        clear hz
        by_cases hlt : (k : Int) < r
        · have g2 : decide ((k : Int) < r) = true := by simp; omega
          go_wp2
          go_round
          case rel =>
            refine ⟨k + 1, 2 * z, by omega, by go_num, rfl, by rw [HZ.out, Int.pow_succ]; omega, ?_⟩
            have : (2 * z : Int) = 4 * 2 ^ (k + 1) := by rw [HZ.out, Int.pow_succ]; omega
            rw [this]
            exact pow_le _ (by omega)
          case measure => simp [intOf]; omega
        · have g2 : decide ((k : Int) < r) = false := by simp; omega
          go_wp2
          go_ret
          refine ⟨ret_int ?_, rfl⟩
          rw [HE.out, HZ.out, show r.toNat = k by omega]

set_option maxRecDepth 100000 in
set_option maxHeartbeats 4000000 in
theorem rplace_any (l : Ly) (s r i : Int) (w : World) (f : LyFit l) : Calls Try.prog 24 #[lyV l, .int .i64 s, .int .i64 r, .int .i64 i] w (IntBelow (placeAt l s r i) w) := by
  have hin := ringAt_in l s r f
  have hsz := sizeN_in r
  by_cases h : ringAt l s r = -1
  · have hv : placeAt l s r i = -1 := by unfold placeAt; rw [if_pos (.inl h)]
    rw [hv]
    have H := Lib.hid h
    clear hv h hin
    go_enter Try.func24, Try.ntmps24
    go_wp2_with (refine wpList_load_row rfl 31 (.tmp 4) rfl w.heap.size rfl 31 (lyC l) (0, 0) _ (Bk.made w _ _) Try.underlying31 rfl (by kernel_rfl) ?_)
    (with_reducible refine (rring_any l s r _ f).mono ?_)
    rintro e w1 ⟨rfl, hb1⟩
    rw [H.out]
    have hbl := below_tr (below_al (Below.refl w.heap.size w) (.cells (lyC l) 31)) hb1
    clear hb1
    go_wp2_with fail
    (with_reducible refine (rsize_any r _).mono ?_)
    rintro e w2 ⟨rfl, rfl⟩
    generalize sizeN r = n at *
    go_wp2
    go_ret
    exact ⟨rfl, hbl⟩
  · have hof := ringAt_of l s r h
    have hn := ringsN_in l.c.tasks
    have hs := sizeN_pos r (by omega) (by omega)
    have g0 : decide (ringAt l s r < 0) = false := by simp; omega
    have g1 : (sizeN r == 0) = false := by simp; omega
    have hp : 0 ≤ ringAt l s r ∧ ringAt l s r ≤ 1010000 := by omega
    by_cases hi : i < 0
    · have hv : placeAt l s r i = -1 := by unfold placeAt; rw [if_pos (.inr hi)]
      rw [hv]
      clear hv h hin hof hn
      go_enter Try.func24, Try.ntmps24
      go_wp2_with (refine wpList_load_row rfl 31 (.tmp 4) rfl w.heap.size rfl 31 (lyC l) (0, 0) _ (Bk.made w _ _) Try.underlying31 rfl (by kernel_rfl) ?_)
      (with_reducible refine (rring_any l s r _ f).mono ?_)
      rintro e w1 ⟨rfl, hb1⟩
      have hbl := below_tr (below_al (Below.refl w.heap.size w) (.cells (lyC l) 31)) hb1
      clear hb1
      go_wp2_with fail
      (with_reducible refine (rsize_any r _).mono ?_)
      rintro e w2 ⟨rfl, rfl⟩
      generalize sizeN r = n at *
      generalize ringAt l s r = a at *
      go_wp2
      go_ret
      exact ⟨rfl, hbl⟩
    · have hv : placeAt l s r i = ringAt l s r + i % sizeN r := by unfold placeAt; rw [if_neg (by omega)]
      have HV := Lib.hid hv
      have g2 : decide (i < 0) = false := by simp; omega
      have hi0 : 0 ≤ i := by omega
      have hm0 : 0 ≤ i % sizeN r := Int.emod_nonneg _ (by omega)
      have hm1 : i % sizeN r < sizeN r := Int.emod_lt_of_pos _ (by omega)
      clear hv h hin hof hn hi
      go_enter Try.func24, Try.ntmps24
      go_wp2_with (refine wpList_load_row rfl 31 (.tmp 4) rfl w.heap.size rfl 31 (lyC l) (0, 0) _ (Bk.made w _ _) Try.underlying31 rfl (by kernel_rfl) ?_)
      (with_reducible refine (rring_any l s r _ f).mono ?_)
      rintro e w1 ⟨rfl, hb1⟩
      have hbl := below_tr (below_al (Below.refl w.heap.size w) (.cells (lyC l) 31)) hb1
      clear hb1
      go_wp2_with fail
      (with_reducible refine (rsize_any r _).mono ?_)
      rintro e w2 ⟨rfl, rfl⟩
      generalize sizeN r = n at *
      generalize ringAt l s r = a at *
      go_wp2
      go_ret
      rw [HV.out]
      exact ⟨rfl, hbl⟩

def BoolBl (b : Bool) (w : World) (e : Ending) (w' : World) : Prop := e = .returned (.bool b) ∧ Below w.heap.size w w'
set_option maxRecDepth 100000 in
set_option maxHeartbeats 4000000 in
theorem rfits_any (l : Ly) (s r t b : Int) (w : World) (f : LyFit l) (hb : b ≤ 9223372036854775807) : Calls Try.prog 23 #[lyV l, .int .i64 s, .int .i64 r, .int .i64 t, .int .i64 b] w (BoolBl (decide (ringAt l s r ≠ -1) && fitsB r t b) w) := by
  have hin := ringAt_in l s r f
  have hsz := sizeN_in r
  have hcase : (decide (0 ≤ ringAt l s r) = false ∧ True ∧ True ∧ True ∧ (decide (ringAt l s r ≠ -1) && fitsB r t b) = false) ∨
      (decide (0 ≤ ringAt l s r) = true ∧ decide (0 < sizeN r) = true ∧ decide (0 ≤ t) = false ∧ True ∧ (decide (ringAt l s r ≠ -1) && fitsB r t b) = false) ∨
      (decide (0 ≤ ringAt l s r) = true ∧ decide (0 < sizeN r) = true ∧ (decide (0 ≤ t) = true ∧ 0 ≤ t) ∧ decide (t ≤ b) = false ∧ (decide (ringAt l s r ≠ -1) && fitsB r t b) = false) ∨
      (decide (0 ≤ ringAt l s r) = true ∧ decide (0 < sizeN r) = true ∧ (decide (0 ≤ t) = true ∧ 0 ≤ t) ∧ (decide (t ≤ b) = true ∧ t ≤ b) ∧ (decide (ringAt l s r ≠ -1) && fitsB r t b) = decide (b - t ≤ sizeN r)) := by
    by_cases h : ringAt l s r = -1
    · left
      simp [h]
    · have hof := ringAt_of l s r h
      have hn := ringsN_in l.c.tasks
      have hs := sizeN_pos r (by omega) (by omega)
      right
      by_cases h1 : 0 ≤ t
      · right
        by_cases h2 : t ≤ b
        · right
          refine ⟨by simp; omega, by simp; omega, ⟨by simp; omega, h1⟩, ⟨by simp; omega, h2⟩, by simp [h, fitsB, h1, h2]⟩
        · left
          refine ⟨by simp; omega, by simp; omega, ⟨by simp; omega, h1⟩, by simp; omega, by simp [fitsB, h2]⟩
      · left
        refine ⟨by simp; omega, by simp; omega, by simp; omega, trivial, by simp [fitsB, h1]⟩
  clear hin
  rcases hcase with ⟨g1, g2, g3, g4, e⟩ | ⟨g1, g2, g3, g4, e⟩ | ⟨g1, g2, ⟨g3, h3⟩, g4, e⟩ | ⟨g1, g2, ⟨g3, h3⟩, ⟨g4, h4⟩, e⟩
  all_goals
    rw [e]
    clear e
    go_enter Try.func23, Try.ntmps23
    go_wp2_with (refine wpList_load_row rfl 31 (.tmp 5) rfl w.heap.size rfl 31 (lyC l) (0, 0) _ (Bk.made w _ _) Try.underlying31 rfl (by kernel_rfl) ?_)
    (with_reducible refine (rring_any l s r _ f).mono ?_)
    rintro e w1 ⟨rfl, hb1⟩
    have hbl := below_tr (below_al (Below.refl w.heap.size w) (.cells (lyC l) 31)) hb1
    clear hb1
    go_wp2_with fail
    (with_reducible refine (rsize_any r _).mono ?_)
    rintro e w2 ⟨rfl, rfl⟩
    generalize sizeN r = n at *
    generalize ringAt l s r = a at *
    go_wp2
    go_ret
    exact ⟨rfl, hbl⟩
end Go.Proofs.Ytdjglkpcdhkodaa
