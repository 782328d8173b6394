/- The walk of WordSplits. -/
import Derived.Test.YtlakhaiphbmffaaL1
namespace Go.Proofs.Ytlakhaiphbmffaa
open Go.RowKit

theorem rev_split (x : Int) (J : Nat) (hJ : J ≤ 16) (h0 : 0 ≤ x) : revI (x % 2 ^ J) = 2 ^ (16 - J) * (revI x / 2 ^ (16 - J)) := by
  obtain ⟨X, rfl⟩ := Int.eq_ofNat_of_zero_le h0
  have e1 : ((X : Int) % 2 ^ J) = ((X % 2 ^ J : Nat) : Int) := by push_cast; rfl
  have hp : (2 : Nat) ^ J ≤ 2 ^ 16 := Nat.pow_le_pow_right (by omega) hJ
  have hl : X % 2 ^ J < 2 ^ J := Nat.mod_lt _ (Nat.two_pow_pos _)
  have hm : ∀ Y : Nat, ((Y : Int) % 65536).toNat = Y % 2 ^ 16 := by intro Y; omega
  unfold revI
  rw [e1, hm, hm, Nat.mod_eq_of_lt (by omega), show X % 2 ^ J = (X % 2 ^ 16) % 2 ^ J from (Nat.mod_mod_of_dvd _ (Nat.pow_dvd_pow 2 hJ)).symm, rv_mod J 16 _ hJ]
  push_cast
  rfl

/-- The law of the buckets, in numbers: R a key's bits turned round, q = 2^(16-J). -/
theorem between (q R S : Int) (hq : 0 < q) : ¬ (2 * (q * (R / q)) < 2 * (q * S) ∧ 2 * (q * S) < 2 * R + 1) := by
  rintro ⟨h1, h2⟩
  have h3 : R / q < S := by
    by_cases h : R / q < S
    · exact h
    · have := Int.mul_le_mul_of_nonneg_left (Int.not_lt.1 h) (Int.le_of_lt hq)
      omega
  have h4 : q * (R / q + 1) ≤ q * S := Int.mul_le_mul_of_nonneg_left (by omega) (Int.le_of_lt hq)
  have h5 := Int.lt_mul_ediv_self_add (x := R) hq
  rw [Int.mul_add] at h4
  omega

theorem under (q R : Int) (hq : 0 < q) : 2 * (q * (R / q)) < 2 * R + 1 := by
  have := Int.mul_ediv_self_le (x := R) (k := q) (by omega)
  omega

theorem finer (q R : Int) (hq : 0 < q) : 2 * (2 * q * (R / (2 * q))) ≤ 2 * (q * (R / q)) := by
  have h1 : R / (2 * q) = R / q / 2 := by rw [Int.mul_comm, Int.ediv_ediv_of_nonneg (by omega)]
  have h2 : 2 * (R / q / 2) ≤ R / q := by omega
  have h3 := Int.mul_le_mul_of_nonneg_left h2 (Int.le_of_lt hq)
  rw [h1, Int.mul_comm 2 q, Int.mul_assoc]
  omega

structure Splits (x y s own other real twice : Int) : Prop where
  own : ∀ w, Calls Try.prog 21 #[.int .i64 (x % s)] w fun e w' => e = .returned (.int .i64 own) ∧ w = w'
  other : ∀ w, Calls Try.prog 21 #[.int .i64 (y % s)] w fun e w' => e = .returned (.int .i64 other) ∧ w = w'
  real : ∀ w, Calls Try.prog 20 #[.int .i64 x] w fun e w' => e = .returned (.int .i64 real) ∧ w = w'
  t1 : 2 * s ≤ 65536 → ∀ w, Calls Try.prog 21 #[.int .i64 (x % (2 * s))] w fun e w' => e = .returned (.int .i64 twice) ∧ w = w'
  t2 : 65536 < 2 * s → ∀ w, Calls Try.prog 21 #[.int .i64 (x % 65536)] w fun e w' => e = .returned (.int .i64 twice) ∧ w = w'

theorem splits (x y s : Int) (J : Nat) (hJ : J ≤ 16) (hs : s = 2 ^ J) (hx0 : 0 ≤ x) (hy0 : 0 ≤ y) :
    ∃ own other real twice, Splits x y s own other real twice ∧ own < real ∧ ¬ (own < other ∧ other < real) ∧ own ≤ twice ∧ twice < real := by
  have hq : (0 : Int) < 2 ^ (16 - J) := Int.pow_pos (by omega)
  have eo : revI (x % s) = 2 ^ (16 - J) * (revI x / 2 ^ (16 - J)) := by rw [hs]; exact rev_split x J hJ hx0
  have et : revI (y % s) = 2 ^ (16 - J) * (revI y / 2 ^ (16 - J)) := by rw [hs]; exact rev_split y J hJ hy0
  by_cases h16 : J ≤ 15
  · have hle : (2 : Int) ^ J ≤ 2 ^ 15 := by exact_mod_cast Nat.pow_le_pow_right (n := 2) (i := J) (j := 15) (by omega) (by omega)
    refine ⟨_, _, _, 2 * revI (x % (2 * s)), ⟨fun w => dummy_any _ w, fun w => dummy_any _ w, fun w => real_any _ w, fun _ w => dummy_any _ w, fun h => absurd h (by omega)⟩, ?_, ?_, ?_⟩
    · rw [eo]; exact under _ _ hq
    · rw [eo, et]; exact between _ _ _ hq
    rw [show 2 * s = 2 ^ (J + 1) by rw [hs, Int.pow_succ'], rev_split x (J + 1) (by omega) hx0, eo]
    have e3 : (2 : Int) ^ (16 - J) = 2 * 2 ^ (16 - (J + 1)) := by rw [show 16 - J = 16 - (J + 1) + 1 by omega, Int.pow_succ']
    rw [e3]
    exact ⟨finer _ _ (Int.pow_pos (by omega)), under _ _ (Int.pow_pos (by omega))⟩
  · have hs' : s = 65536 := by
      have : J = 16 := by omega
      rw [hs, this]; rfl
    refine ⟨_, _, _, 2 * revI (x % s), ⟨fun w => dummy_any _ w, fun w => dummy_any _ w, fun w => real_any _ w, fun h => absurd h (by omega), fun _ w => ?_⟩, ?_, ?_, ?_⟩
    · rw [hs']; exact dummy_any _ w
    · rw [eo]; exact under _ _ hq
    · rw [eo, et]; exact between _ _ _ hq
    exact ⟨Int.le_refl _, by rw [eo]; exact under _ _ hq⟩

set_option maxHeartbeats 4000000 in
theorem splits_core (x y i s own other real twice : Int) (J : Nat) (w : World) (hx0 : 0 ≤ x) (hx : x < 65536) (hy0 : 0 ≤ y) (hy : y < 65536) (hi0 : 0 ≤ i) (hi : i < 256) (hJ : (J : Int) = i % 17)
    (hs1 : 1 ≤ s) (hs2 : s ≤ 65536) (hs : Hid (s = 2 ^ J)) (T : Splits x y s own other real twice) (q1 : own < real) (q2 : ¬ (own < other ∧ other < real)) (q3 : own ≤ twice) (q4 : twice < real) :
    Calls Try.prog 8 #[.int .u16 x, .int .u16 y, .int .u8 i] w (BoolBelow true w) := by
  have ha := Below.refl w.heap.size w
  have hJ2 : J ≤ 16 := by omega
  have HJ := Lib.hid hJ
  clear hJ
  go_enter Try.func8, Try.ntmps8
  go_wp2_with (go_at_call 9; refine (awake_any _).mono ?_; rintro e w1 ⟨rfl, hb⟩; replace ha := below_tr ha hb; clear hb)
  go_loop [8, 9] (fun t n => ∃ k : Nat, k ≤ J ∧ n = .int .i64 k ∧ t = .int .i64 (2 ^ k)) (fun _ n => 17 - (intOf n).toNat)
  case atStart => exact ⟨0, by omega, rfl, rfl⟩
  case round =>
    obtain ⟨k, hk, rfl, rfl⟩ := hrel
    by_cases hlt : k < J
    · have hb : (2 : Int) ^ k ≤ 65536 := by
        have h : (2 : Int) ^ k ≤ 2 ^ 16 := by exact_mod_cast Nat.pow_le_pow_right (n := 2) (i := k) (j := 16) (by omega) (by omega)
        omega
      have h1 : (0 : Int) < 2 ^ k := Int.pow_pos (by omega)
      have hlt2 : (k : Int) < i % 17 := by have := HJ.out; omega
      go_wp2
      go_round
      case rel => exact ⟨k + 1, by omega, by go_num, by rw [Int.pow_succ, Int.mul_comm]⟩
      case measure => show 17 - ((k : Int) + 1).toNat < 17 - (k : Int).toNat; omega
    · obtain rfl : k = J := by omega
      have hlt2 : ¬ ((k : Int) < i % 17) := by have := HJ.out; omega
      have hse := hs.out
      rw [← hse]
      clear hse
      go_wp2_with (first
        | (go_at_call 21; first | (with_reducible refine (T.own _).mono ?_) | (with_reducible refine (T.other _).mono ?_) | (with_reducible refine (T.t1 (by assumption) _).mono ?_) | (with_reducible refine (T.t2 (by assumption) _).mono ?_)); (rintro e w' ⟨rfl, rfl⟩)
        | (go_at_call 20; (with_reducible refine (T.real _).mono ?_)); (rintro e w' ⟨rfl, rfl⟩))
      all_goals
        go_ret
        exact ⟨rfl, ha⟩

theorem splits_walk (x y i : Int) (w : World) (hx0 : 0 ≤ x) (hx : x < 65536) (hy0 : 0 ≤ y) (hy : y < 65536) (hi0 : 0 ≤ i) (hi : i < 256) :
    Calls Try.prog 8 #[.int .u16 x, .int .u16 y, .int .u8 i] w (BoolBelow true w) := by
  have hj : (i % 17).toNat ≤ 16 := by omega
  obtain ⟨own, other, real, twice, T, q1, q2, q3, q4⟩ := splits x y (2 ^ (i % 17).toNat) (i % 17).toNat hj rfl hx0 hy0
  have h1 : (0 : Int) < 2 ^ (i % 17).toNat := Int.pow_pos (by omega)
  have h2 : (2 : Int) ^ (i % 17).toNat ≤ 2 ^ 16 := by exact_mod_cast Nat.pow_le_pow_right (n := 2) (i := (i % 17).toNat) (j := 16) (by omega) hj
  exact splits_core x y i _ own other real twice (i % 17).toNat w hx0 hx hy0 hy hi0 hi (by omega) (by omega) (by omega) rfl T q1 q2 q3 q4
end Go.Proofs.Ytlakhaiphbmffaa
