/- Contracts of package word's functions whose statements leave an order open. -/
import Derived.Test.YtlakhaiphbmffaaW1
import Derived.Deep.RegionHeld3
import Derived.Deep.DrawnRows
import Derived.Deep.QuietTactic
import Derived.BigQuiet
namespace Go.Proofs.Ytlakhaiphbmffaa
open Go.RowKit
attribute [local go_sem ↓] Go.wp_at_zero Go.wp_at_succ

set_option maxHeartbeats 1000000 in
theorem turn_any (i : Int) (m : Bool) (c : Int) (idx : Int) (w : World) :
    Calls Try.prog 14 #[refV i m c, .int .i64 idx] w fun e w' => e = .returned (refV (idx % 65536) false ((c + 1) % 268435456)) ∧ Below w.heap.size w w' := by
  go_enter Try.func14, Try.ntmps14
  go_wp2_with fail
  go_region_held3 (fun w' => w'.cell? ⟨w.heap.size, 2, none⟩ = some (.int .i64 c)) (go_keep) (first | (go_at_call 26; refine (low_any _ _ _ (by omega) (by omega)).mono ?_; rintro e w' ⟨rfl, rfl⟩))
  all_goals go_wp2
  refine bodyPost_ret (v := refV (idx % 65536) false ((c + 1) % 268435456)) ?_ rfl ⟨rfl, ((below_al (below_al (Below.refl _ _) _) _).drew)⟩
  simp [results, Try.results14, go_sem]
  exact wrap_mod28 _

set_option maxHeartbeats 1000000 in
theorem rturn_any (i : Int) (m : Bool) (c : Int) (idx : Int) (w : World) :
    Calls Try.prog 15 #[refV i m c, .int .i64 idx] w fun e w' => e = .returned (refV (idx % 65536) false ((c + 1) % 268435456)) ∧ Below w.heap.size w w' := by
  go_enter Try.func15, Try.ntmps15
  go_wp2_with fail
  go_region_held3 (fun w' => w'.cell? ⟨w.heap.size, 2, none⟩ = some (.int .i64 c)) (go_keep) (first | (go_at_call 25; refine (mod_any _ _ _ (by omega) (by omega)).mono ?_; rintro e w' ⟨rfl, rfl⟩))
  all_goals go_wp2
  refine bodyPost_ret (v := refV (idx % 65536) false ((c + 1) % 268435456)) ?_ rfl ⟨rfl, ((below_al (below_al (Below.refl _ _) _) _).drew)⟩
  simp [results, Try.results15, go_sem]
  exact wrap_mod28' _

set_option maxHeartbeats 1000000 in
theorem rpack_any (i : Int) (m : Bool) (c : Int) (w : World) :
    Calls Try.prog 11 #[refV i m c] w fun e w' => e = .returned (.int .i64 (packI i m c)) ∧ Below w.heap.size w w' := by
  cases m
  all_goals
    go_enter Try.func11, Try.ntmps11
    go_wp2_with fail
    go_region_held3 (fun w' => w'.cell? ⟨w.heap.size, 0, none⟩ = some (.int .i64 i) ∧ w'.cell? ⟨w.heap.size, 2, none⟩ = some (.int .i64 c)) (go_keep) (first | (go_at_call 25; refine (mod_any _ _ _ (by omega) (by omega)).mono ?_; rintro e w' ⟨rfl, rfl⟩))
    all_goals go_wp2
    go_ret
    refine ⟨ret_int ?_, (below_al (Below.refl _ _) _).drew⟩
    simp [packI]
    try rw [IntKind.wrap_i64, IntKind.wrap_i64]
    omega

set_option maxHeartbeats 1000000 in
theorem rof_any (n : Int) (w : World) :
    Calls Try.prog 13 #[.int .i64 n] w fun e w' => e = .returned (refV (n % 65536) (n / 65536 % 2 == 1) (n / 131072 % 268435456)) ∧ Below w.heap.size w w' := by
  go_enter Try.func13, Try.ntmps13
  go_wp2_with (go_at_call 25; refine (mod_any _ _ _ (by omega) (by omega)).mono ?_; rintro e w' ⟨rfl, rfl⟩)
  refine bodyPost_ret (v := refV (n % 65536) (n / 65536 % 2 == 1) (n / 131072 % 268435456)) ?_ rfl ⟨rfl, (below_al (Below.refl _ _) _)⟩
  simp [results, Try.results13, go_sem]
  exact ⟨by rw [show n % 35184372088832 / 65536 % 2 = n / 65536 % 2 by omega], by omega⟩

set_option maxHeartbeats 1000000 in
theorem roffered_any (n : Int) (w : World) :
    Calls Try.prog 17 #[.int .i64 n] w fun e w' => e = .returned (.tuple #[.int .i64 (n % 4294967296), .int .i64 (n / 4294967296 % 4), .int .i64 (n / 17179869184 % 268435456)]) ∧ w = w' := by
  go_enter Try.func17, Try.ntmps17
  go_wp2_with (go_at_call 25; refine (mod_any _ _ _ (by omega) (by omega)).mono ?_; rintro e w' ⟨rfl, rfl⟩)
  go_ret3
  refine ⟨?_, rfl⟩
  simp
  omega

set_option maxHeartbeats 1000000 in
theorem roffer_any (v k c : Int) (w : World) :
    Calls Try.prog 19 #[.int .i64 v, .int .i64 k, .int .i64 c] w fun e w' => e = .returned (.int .i64 (offerI v k c)) ∧ w = w' := by
  go_enter Try.func19, Try.ntmps19
  go_wp2_with (go_at_call 25; refine (mod_any _ _ _ (by omega) (by omega)).mono ?_; rintro e w' ⟨rfl, rfl⟩)
  go_ret
  refine ⟨ret_int ?_, rfl⟩
  simp [offerI]
  omega

set_option maxHeartbeats 1000000 in
theorem rev_any (n : Int) (w : World) :
    Calls Try.prog 22 #[.int .i64 n] w fun e w' => e = .returned (.int .i64 (revI n)) ∧ w = w' := by
  go_enter Try.func22, Try.ntmps22
  go_wp2
  go_loop [3, 5] (fun t i => ∃ k : Nat, k ≤ 16 ∧ i = .int .i64 k ∧ t = .int .i64 (revTo n k)) (fun _ i => 16 - (intOf i).toNat)
  case atStart => exact ⟨0, by omega, rfl, rfl⟩
  case round =>
    obtain ⟨k, hk, rfl, rfl⟩ := hrel
    by_cases hlt : k < 16
    · go_wp2_with (go_at_call 26; refine (low_any _ _ _ (by omega) (by omega)).mono ?_; rintro e w' ⟨rfl, rfl⟩)
      go_round
      case rel => 
        exact ⟨k + 1, by omega, by go_num, congrArg (Value.int .i64) (revTo_step n k hlt)⟩
      case measure => simp [intOf]; omega
    · obtain rfl : k = 16 := by omega
      go_wp2
      go_ret
      exact ⟨ret_int (revTo_16 n), rfl⟩

theorem real_any (n : Int) (w : World) : Calls Try.prog 20 #[.int .i64 n] w fun e w' => e = .returned (.int .i64 (2 * revI n + 1)) ∧ w = w' := by
  have hb := revI_bd n
  go_enter Try.func20, Try.ntmps20
  go_wp2_with (go_at_call 22; refine (rev_any _ _).mono ?_; rintro e w' ⟨rfl, rfl⟩)
  go_ret
  exact ⟨rfl, rfl⟩

theorem dummy_any (n : Int) (w : World) : Calls Try.prog 21 #[.int .i64 n] w fun e w' => e = .returned (.int .i64 (2 * revI n)) ∧ w = w' := by
  have hb := revI_bd n
  go_enter Try.func21, Try.ntmps21
  go_wp2_with (go_at_call 22; refine (rev_any _ _).mono ?_; rintro e w' ⟨rfl, rfl⟩)
  go_ret
  exact ⟨rfl, rfl⟩

theorem key_any (n : Int) (w : World) : Calls Try.prog 23 #[.int .i64 n] w fun e w' => e = .returned (.int .i64 (revI (n % 131072 / 2))) ∧ w = w' := by
  go_enter Try.func23, Try.ntmps23
  go_wp2_with (first | (go_at_call 26; refine (low_any _ _ _ (by omega) (by omega)).mono ?_; rintro e w' ⟨rfl, rfl⟩) | (go_at_call 22; refine (rev_any _ _).mono ?_; rintro e w' ⟨rfl, rfl⟩))
  go_ret
  exact ⟨rfl, rfl⟩

theorem rv1 : revI 1 = 32768 := by decide +kernel
theorem rv3 : revI 3 = 49152 := by decide +kernel
theorem rv4 : revI 49152 = 3 := by decide +kernel

def BoolBelow (b : Bool) (w : World) (e : Ending) (w' : World) : Prop := e = .returned (.bool b) ∧ Below w.heap.size w w'
set_option maxHeartbeats 2000000 in
theorem awake_any (w : World) : Calls Try.prog 9 #[] w (BoolBelow true w) := by
  have r1 := rv1
  have r3 := rv3
  have r4 := rv4
  have p1 : packI 5 true 3 = 458757 := by decide +kernel
  have p2 : offerI 7 1 2 = 38654705671 := by decide +kernel
  go_enter Try.func9, Try.ntmps9
  go_wp2_with (first
    | (go_at_call 16; refine (offered_any _ _).mono ?_; rintro e w' ⟨rfl, rfl⟩) | (go_at_call 10; refine (pack_any _ _ _ _).mono ?_; rintro e w1 ⟨rfl, hb1⟩) | (go_at_call 12; refine (of_any _ _).mono ?_; rintro e w2 ⟨rfl, hb2⟩)
    | (go_at_call 22; refine (rev_any _ _).mono ?_; rintro e w' ⟨rfl, rfl⟩) | (go_at_call 20; refine (real_any _ _).mono ?_; rintro e w' ⟨rfl, rfl⟩) | (go_at_call 21; refine (dummy_any _ _).mono ?_; rintro e w' ⟨rfl, rfl⟩)
    | (go_at_call 23; refine (key_any _ _).mono ?_; rintro e w' ⟨rfl, rfl⟩) | (go_at_call 18; refine (offer_any _ _ _ _).mono ?_; rintro e w3 ⟨rfl, hb3⟩) | (go_at_call 14; refine (turn_any _ _ _ _ _).mono ?_; rintro e w4 ⟨rfl, hb4⟩))
  go_ret
  exact ⟨rfl, below_tr (below_tr (below_tr hb1 hb2) hb3) hb4⟩
end Go.Proofs.Ytlakhaiphbmffaa
