/- Contracts of package word's inner functions over the seat's translation. -/
import Derived.Test.YtlakhaiphbmffaaRows
import Derived.Test.YtlakhaiphbmffaaMath
import Derived.WalkKit
import Derived.WalkSpells
import Derived.WalkLawsBesides
import Derived.Lib.Hide
namespace Go.Proofs.Ytlakhaiphbmffaa
open Go.RowKit

set_option maxHeartbeats 400000 in
theorem low_nat (n : Int) (b : Nat) (w : World) (hb : b ≤ 62) :
    Calls Try.prog 26 #[.int .i64 n, .int .i64 b] w fun e w' => e = .returned (.int .i64 (n % 2 ^ b)) ∧ w = w' := by
  go_enter Try.func26, Try.ntmps26
  go_wp2
  go_ret
  exact ⟨ret_int (low_eq n b hb), rfl⟩

theorem low_any (n b : Int) (w : World) (h0 : 0 ≤ b) (hb : b ≤ 62) :
    Calls Try.prog 26 #[.int .i64 n, .int .i64 b] w fun e w' => e = .returned (.int .i64 (n % 2 ^ b.toNat)) ∧ w = w' := by
  obtain ⟨B, rfl⟩ := Int.eq_ofNat_of_zero_le h0
  exact low_nat n B w (by omega)

set_option maxHeartbeats 400000 in
theorem mod_any (m n : Int) (w : World) (hn : 0 < n) (hn2 : n < 9223372036854775808) :
    Calls Try.prog 25 #[.int .i64 m, .int .i64 n] w fun e w' => e = .returned (.int .i64 (m % n)) ∧ w = w' := by
  go_enter Try.func25, Try.ntmps25
  go_wp2
  · have h := mod_neg m n hn (by assumption)
    have hl := Int.emod_nonneg m (show n ≠ 0 by omega)
    have hu := Int.emod_lt_of_pos m hn
    go_ret
    exact ⟨ret_int (by rw [IntWalk.wrap64_in _ ⟨by omega, by omega⟩, h]), rfl⟩
  · have h := mod_pos m n hn (by assumption)
    go_ret
    exact ⟨ret_int h, rfl⟩

set_option maxHeartbeats 1000000 in
theorem lay_pack (g : Nat) (n0 n1 n2 : Int) (w : World) (hg : g < w.heap.size) (c0 : w.cell? ⟨g, 0, none⟩ = some (.int .i64 n0)) (c1 : w.cell? ⟨g, 1, none⟩ = some (.int .i64 16))
    (c2 : w.cell? ⟨g, 2, none⟩ = some (.int .i64 n1)) (c3 : w.cell? ⟨g, 3, none⟩ = some (.int .i64 1)) (c4 : w.cell? ⟨g, 4, none⟩ = some (.int .i64 n2)) (c5 : w.cell? ⟨g, 5, none⟩ = some (.int .i64 28)) :
    Calls Try.prog 24 #[.slice (some ⟨g, 0, none⟩) 3 3] w fun e w' => e = .returned (.int .i64 (n0 % 65536 + n1 % 2 * 65536 + n2 % 268435456 * 131072)) ∧ Below w.heap.size w w' := by
  go_enter Try.func24, Try.ntmps24
  go_wp2
  refine wp_loop_rounds 4 ?_
  rw [rounds_succ]
  go_wp2_with (go_at_call 26; refine (low_any _ _ _ (by omega) (by omega)).mono ?_; rintro e w' ⟨rfl, rfl⟩)
  rw [rounds_succ]
  go_wp2_with (go_at_call 26; refine (low_any _ _ _ (by omega) (by omega)).mono ?_; rintro e w' ⟨rfl, rfl⟩)
  rw [rounds_succ]
  go_wp2_with (go_at_call 26; refine (low_any _ _ _ (by omega) (by omega)).mono ?_; rintro e w' ⟨rfl, rfl⟩)
  rw [rounds_succ]
  go_wp2
  go_ret
  refine ⟨ret_int (lay_pack_eq n0 n1 n2), ?_⟩
  exact below_al (below_al (below_al (Below.refl _ _) _) _) _

set_option maxHeartbeats 1000000 in
theorem lay_offer (g : Nat) (n0 n1 n2 : Int) (w : World) (hg : g < w.heap.size) (c0 : w.cell? ⟨g, 0, none⟩ = some (.int .i64 n0)) (c1 : w.cell? ⟨g, 1, none⟩ = some (.int .i64 32))
    (c2 : w.cell? ⟨g, 2, none⟩ = some (.int .i64 n1)) (c3 : w.cell? ⟨g, 3, none⟩ = some (.int .i64 2)) (c4 : w.cell? ⟨g, 4, none⟩ = some (.int .i64 n2)) (c5 : w.cell? ⟨g, 5, none⟩ = some (.int .i64 28)) :
    Calls Try.prog 24 #[.slice (some ⟨g, 0, none⟩) 3 3] w fun e w' => e = .returned (.int .i64 (n0 % 4294967296 + n1 % 4 * 4294967296 + n2 % 268435456 * 17179869184)) ∧ Below w.heap.size w w' := by
  go_enter Try.func24, Try.ntmps24
  go_wp2
  refine wp_loop_rounds 4 ?_
  rw [rounds_succ]
  go_wp2_with (go_at_call 26; refine (low_any _ _ _ (by omega) (by omega)).mono ?_; rintro e w' ⟨rfl, rfl⟩)
  rw [rounds_succ]
  go_wp2_with (go_at_call 26; refine (low_any _ _ _ (by omega) (by omega)).mono ?_; rintro e w' ⟨rfl, rfl⟩)
  rw [rounds_succ]
  go_wp2_with (go_at_call 26; refine (low_any _ _ _ (by omega) (by omega)).mono ?_; rintro e w' ⟨rfl, rfl⟩)
  rw [rounds_succ]
  go_wp2
  go_ret
  refine ⟨ret_int (lay_offer_eq n0 n1 n2), ?_⟩
  exact below_al (below_al (below_al (Below.refl _ _) _) _) _

theorem lay_pack_new (g : Nat) (n0 n1 n2 : Int) (W : World) (hg : W.heap.size = g) :
    Calls Try.prog 24 #[.slice (some ⟨g, 0, none⟩) 3 3] (W.alloc (.cells #[.int .i64 n0, .int .i64 16, .int .i64 n1, .int .i64 1, .int .i64 n2, .int .i64 28] 44)) fun e w' =>
      e = .returned (.int .i64 (n0 % 65536 + n1 % 2 * 65536 + n2 % 268435456 * 131072)) ∧ Below W.heap.size W w' := by
  subst hg
  refine (lay_pack W.heap.size n0 n1 n2 _ (by simp) (by simp) (by simp) (by simp) (by simp) (by simp) (by simp)).mono ?_
  rintro e w' ⟨rfl, hb⟩
  exact ⟨rfl, below_tr (below_al (Below.refl _ _) _) hb⟩

theorem lay_offer_new (g : Nat) (n0 n1 n2 : Int) (W : World) (hg : W.heap.size = g) :
    Calls Try.prog 24 #[.slice (some ⟨g, 0, none⟩) 3 3] (W.alloc (.cells #[.int .i64 n0, .int .i64 32, .int .i64 n1, .int .i64 2, .int .i64 n2, .int .i64 28] 44)) fun e w' =>
      e = .returned (.int .i64 (n0 % 4294967296 + n1 % 4 * 4294967296 + n2 % 268435456 * 17179869184)) ∧ Below W.heap.size W w' := by
  subst hg
  refine (lay_offer W.heap.size n0 n1 n2 _ (by simp) (by simp) (by simp) (by simp) (by simp) (by simp) (by simp)).mono ?_
  rintro e w' ⟨rfl, hb⟩
  exact ⟨rfl, below_tr (below_al (Below.refl _ _) _) hb⟩

/-- A pointer as a value. -/
abbrev refV (i : Int) (m : Bool) (c : Int) : Value := .agg #[.int .i64 i, .bool m, .int .i64 c]
def packI (i : Int) (m : Bool) (c : Int) : Int := i % 65536 + (if m then 1 else 0) % 2 * 65536 + c % 268435456 * 131072
def offerI (v k c : Int) : Int := v % 4294967296 + k % 4 * 4294967296 + c % 268435456 * 17179869184

set_option maxHeartbeats 1000000 in
theorem pack_any (i : Int) (m : Bool) (c : Int) (w : World) :
    Calls Try.prog 10 #[refV i m c] w fun e w' => e = .returned (.int .i64 (packI i m c)) ∧ Below w.heap.size w w' := by
  cases m
  all_goals
    go_enter Try.func10, Try.ntmps10
    go_wp2_with fail
    refine (lay_pack_new _ _ _ _ _ (by simp)).mono ?_
    rintro e w' ⟨rfl, hb⟩
    go_wp2
    go_ret
    exact ⟨ret_int (by simp [packI]), below_tr (below_al (Below.refl _ _) _) hb⟩

set_option maxHeartbeats 1000000 in
theorem offer_any (v k c : Int) (w : World) :
    Calls Try.prog 18 #[.int .i64 v, .int .i64 k, .int .i64 c] w fun e w' => e = .returned (.int .i64 (offerI v k c)) ∧ Below w.heap.size w w' := by
  go_enter Try.func18, Try.ntmps18
  go_wp2_with fail
  refine (lay_offer_new _ _ _ _ _ (by simp)).mono ?_
  rintro e w' ⟨rfl, hb⟩
  go_wp2
  go_ret
  exact ⟨ret_int rfl, hb⟩

set_option maxHeartbeats 1000000 in
theorem of_any (n : Int) (w : World) :
    Calls Try.prog 12 #[.int .i64 n] w fun e w' => e = .returned (refV (n % 65536) (n / 65536 % 2 == 1) (n / 131072 % 268435456)) ∧ Below w.heap.size w w' := by
  go_enter Try.func12, Try.ntmps12
  go_wp2_with (go_at_call 26; refine (low_any _ _ _ (by omega) (by omega)).mono ?_; rintro e w' ⟨rfl, rfl⟩)
  refine bodyPost_ret (v := refV (n % 65536) (n / 65536 % 2 == 1) (n / 131072 % 268435456)) (by simp [results, Try.results12, go_sem]) rfl ⟨rfl, ?_⟩
  exact below_al (Below.refl _ _) _

set_option maxHeartbeats 1000000 in
theorem offered_any (n : Int) (w : World) :
    Calls Try.prog 16 #[.int .i64 n] w fun e w' => e = .returned (.tuple #[.int .i64 (n % 4294967296), .int .i64 (n / 4294967296 % 4), .int .i64 (n / 17179869184 % 268435456)]) ∧ w = w' := by
  go_enter Try.func16, Try.ntmps16
  go_wp2_with (go_at_call 26; refine (low_any _ _ _ (by omega) (by omega)).mono ?_; rintro e w' ⟨rfl, rfl⟩)
  go_ret3
  exact ⟨rfl, rfl⟩
end Go.Proofs.Ytlakhaiphbmffaa
