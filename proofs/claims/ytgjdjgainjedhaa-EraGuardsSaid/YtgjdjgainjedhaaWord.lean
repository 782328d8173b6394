/- Package word: a pointer as a number, a number as a pointer, what comes behind it. Out of law01's texts. -/
import Derived.Test.YtgjdjgainjedhaaRows
import Derived.Test.YtgjdjgainjedhaaLib
import Derived.WalkSpells
import Derived.WalkLawsBesides
import Derived.Deep.RegionHeld3
import Derived.Deep.DrawnRows
import Derived.Deep.QuietTactic
import Derived.BigQuiet
namespace Go.Proofs.Ytgjdjgainjedhaa
open Go.RowKit
attribute [local go_sem ↓] Go.wp_at_zero Go.wp_at_succ

/-- 'n & (2^b - 1)' on int is n modulo 2^b, for every n. -/
theorem and_mask (n : Int) (b : Nat) (hb : b ≤ 62) : bits .and .i64 n (2 ^ b - 1) = n % 2 ^ b := by
  have hp : (2 : Nat) ^ b ≤ 2 ^ 62 := Nat.pow_le_pow_right (by omega) hb
  have hp0 : 0 < (2 : Nat) ^ b := Nat.two_pow_pos b
  have e1 : ((2 : Int) ^ b - 1) = ((2 ^ b - 1 : Nat) : Int) := by
    rw [Int.ofNat_sub (by omega)]; simp
  have hd : (2 : Nat) ^ 64 = 2 ^ b * 2 ^ (64 - b) := by rw [← Nat.pow_add]; congr 1; omega
  show IntKind.i64.wrap ((BitVec.ofInt 64 n &&& BitVec.ofInt 64 (2 ^ b - 1)).toNat : Int) = _
  rw [e1, BitVec.ofInt_natCast, BitVec.toNat_and, BitVec.toNat_ofNat, Nat.mod_eq_of_lt (show 2 ^ b - 1 < 2 ^ 64 by omega), Nat.and_two_pow_sub_one_eq_mod, BitVec.toNat_ofInt]
  have e2 : (((n % ((2 ^ 64 : Nat) : Int)).toNat % 2 ^ b : Nat) : Int) = n % 2 ^ b := by
    rw [Int.natCast_emod, Int.toNat_of_nonneg (Int.emod_nonneg _ (by omega)), hd]
    push_cast
    exact Int.emod_emod_of_dvd n (Int.dvd_mul_right _ _)
  rw [e2, IntKind.wrap_i64]
  have h1 : 0 ≤ n % (2 : Int) ^ b := Int.emod_nonneg _ (Int.ne_of_gt (Int.pow_pos (by omega)))
  have h2 : n % (2 : Int) ^ b < 2 ^ b := Int.emod_lt_of_pos _ (Int.pow_pos (by omega))
  have h3 : (2 : Int) ^ b ≤ 2 ^ 62 := by exact_mod_cast hp
  omega

/-- '|' of a multiple of 2^i and a number below 2^i is their sum. -/
theorem or_join (x y : Int) (i : Nat) (hi : i ≤ 62) (hx : 0 ≤ x) (hx2 : x < 9223372036854775808) (hm : x % 2 ^ i = 0) (hy : 0 ≤ y) (hy2 : y < 2 ^ i) :
    bits .or .i64 x y = x + y := by
  obtain ⟨X, rfl⟩ := Int.eq_ofNat_of_zero_le hx
  obtain ⟨Y, rfl⟩ := Int.eq_ofNat_of_zero_le hy
  have hp : (2 : Nat) ^ i ≤ 2 ^ 62 := Nat.pow_le_pow_right (by omega) hi
  have hy' : Y < 2 ^ i := by exact_mod_cast hy2
  have hm' : X % 2 ^ i = 0 := by exact_mod_cast hm
  have hX : X < 2 ^ 63 := by omega
  have ho : X ||| Y < 2 ^ 63 := Nat.or_lt_two_pow hX (by omega)
  have hj := nat_join i X Y hm' hy'
  show IntKind.i64.wrap ((BitVec.ofInt 64 (X : Int) ||| BitVec.ofInt 64 (Y : Int)).toNat : Int) = _
  rw [BitVec.toNat_or, BitVec.ofInt_natCast, BitVec.toNat_ofNat, BitVec.ofInt_natCast, BitVec.toNat_ofNat, Nat.mod_eq_of_lt (by omega), Nat.mod_eq_of_lt (by omega), IntKind.wrap_i64, hj]
  rw [hj] at ho
  omega

theorem or_high (x y : Int) (i : Nat) (hi : i ≤ 62) (hx : 0 ≤ x) (hx2 : x < 2 ^ i) (hm : y % 2 ^ i = 0) (hy : 0 ≤ y) (hy2 : y < 9223372036854775808) :
    bits .or .i64 x y = x + y := by
  have h := or_join y x i hi hy hy2 hm hx hx2
  rw [Int.add_comm, ← h]
  show IntKind.i64.wrap ((BitVec.ofInt 64 x ||| BitVec.ofInt 64 y).toNat : Int) = IntKind.i64.wrap ((BitVec.ofInt 64 y ||| BitVec.ofInt 64 x).toNat : Int)
  rw [BitVec.or_comm]

theorem lay_pack_eq (n0 n1 n2 : Int) : bits .or .i64 (bits .or .i64 (bits .or .i64 0 (n0 % 65536)) (n1 % 2 * 65536)) (n2 % 268435456 * 131072) =
    n0 % 65536 + n1 % 2 * 65536 + n2 % 268435456 * 131072 := by
  rw [or_high 0 (n0 % 65536) 0 (by omega) (by omega) (by omega) (by omega) (by omega) (by omega)]
  rw [or_high _ (n1 % 2 * 65536) 16 (by omega) (by omega) (by omega) (by omega) (by omega) (by omega)]
  rw [or_high _ (n2 % 268435456 * 131072) 17 (by omega) (by omega) (by omega) (by omega) (by omega) (by omega)]
  omega

theorem low_eq (n : Int) (b : Nat) (hb : b ≤ 62) : bits .and .i64 n (wrap64 (wrap64 (2 ^ b) - 1)) = n % 2 ^ b := by
  have h1 : (0 : Int) < 2 ^ b := Int.pow_pos (by omega)
  have h2 : (2 : Int) ^ b ≤ 2 ^ 62 := by exact_mod_cast Nat.pow_le_pow_right (n := 2) (by omega) hb
  rw [IntWalk.wrap64_in (2 ^ b) ⟨by omega, by omega⟩, IntWalk.wrap64_in _ ⟨by omega, by omega⟩, and_mask n b hb]

theorem wrap_mod28 (n : Int) : IntKind.i64.wrap n % 268435456 = n % 268435456 := by rw [IntKind.wrap_i64]; omega

set_option maxHeartbeats 400000 in
theorem low_nat (n : Int) (b : Nat) (w : World) (hb : b ≤ 62) :
    Calls Try.prog 46 #[.int .i64 n, .int .i64 b] w fun e w' => e = .returned (.int .i64 (n % 2 ^ b)) ∧ w = w' := by
  go_enter Try.func46, Try.ntmps46
  go_wp2
  go_ret
  exact ⟨ret_int (low_eq n b hb), rfl⟩

theorem low_any (n b : Int) (w : World) (h0 : 0 ≤ b) (hb : b ≤ 62) :
    Calls Try.prog 46 #[.int .i64 n, .int .i64 b] w fun e w' => e = .returned (.int .i64 (n % 2 ^ b.toNat)) ∧ w = w' := by
  obtain ⟨B, rfl⟩ := Int.eq_ofNat_of_zero_le h0
  exact low_nat n B w (by omega)

set_option maxHeartbeats 1000000 in
theorem lay_pack (g : Nat) (n0 n1 n2 : Int) (w : World) (hg : g < w.heap.size) (c0 : w.cell? ⟨g, 0, none⟩ = some (.int .i64 n0)) (c1 : w.cell? ⟨g, 1, none⟩ = some (.int .i64 16))
    (c2 : w.cell? ⟨g, 2, none⟩ = some (.int .i64 n1)) (c3 : w.cell? ⟨g, 3, none⟩ = some (.int .i64 1)) (c4 : w.cell? ⟨g, 4, none⟩ = some (.int .i64 n2)) (c5 : w.cell? ⟨g, 5, none⟩ = some (.int .i64 28)) :
    Calls Try.prog 72 #[.slice (some ⟨g, 0, none⟩) 3 3] w fun e w' => e = .returned (.int .i64 (n0 % 65536 + n1 % 2 * 65536 + n2 % 268435456 * 131072)) ∧ Below w.heap.size w w' := by
  go_enter Try.func72, Try.ntmps72
  go_wp2
  refine wp_loop_rounds 4 ?_
  rw [rounds_succ]
  go_wp2_with (go_at_call 46; refine (low_any _ _ _ (by omega) (by omega)).mono ?_; rintro e w' ⟨rfl, rfl⟩)
  rw [rounds_succ]
  go_wp2_with (go_at_call 46; refine (low_any _ _ _ (by omega) (by omega)).mono ?_; rintro e w' ⟨rfl, rfl⟩)
  rw [rounds_succ]
  go_wp2_with (go_at_call 46; refine (low_any _ _ _ (by omega) (by omega)).mono ?_; rintro e w' ⟨rfl, rfl⟩)
  rw [rounds_succ]
  go_wp2
  go_ret
  refine ⟨ret_int (lay_pack_eq n0 n1 n2), ?_⟩
  exact below_al (below_al (below_al (Below.refl _ _) _) _) _

theorem lay_pack_new (g : Nat) (n0 n1 n2 : Int) (W : World) (hg : W.heap.size = g) :
    Calls Try.prog 72 #[.slice (some ⟨g, 0, none⟩) 3 3] (W.alloc (.cells #[.int .i64 n0, .int .i64 16, .int .i64 n1, .int .i64 1, .int .i64 n2, .int .i64 28] 138)) fun e w' =>
      e = .returned (.int .i64 (n0 % 65536 + n1 % 2 * 65536 + n2 % 268435456 * 131072)) ∧ Below W.heap.size W w' := by
  subst hg
  refine (lay_pack W.heap.size n0 n1 n2 _ (by simp) (by simp) (by simp) (by simp) (by simp) (by simp) (by simp)).mono ?_
  rintro e w' ⟨rfl, hb⟩
  exact ⟨rfl, below_tr (below_al (Below.refl _ _) _) hb⟩

/-- A pointer as a value. -/
abbrev refV (i : Int) (m : Bool) (c : Int) : Value := .agg #[.int .i64 i, .bool m, .int .i64 c]
def packI (i : Int) (m : Bool) (c : Int) : Int := i % 65536 + (if m then 1 else 0) % 2 * 65536 + c % 268435456 * 131072

set_option maxHeartbeats 1000000 in
theorem pack_any (i : Int) (m : Bool) (c : Int) (w : World) :
    Calls Try.prog 68 #[refV i m c] w fun e w' => e = .returned (.int .i64 (packI i m c)) ∧ Below w.heap.size w w' := by
  cases m
  all_goals
    go_enter Try.func68, Try.ntmps68
    go_wp2_with fail
    refine (lay_pack_new _ _ _ _ _ (by simp)).mono ?_
    rintro e w' ⟨rfl, hb⟩
    go_wp2
    go_ret
    exact ⟨ret_int (by simp [packI]), below_tr (below_al (Below.refl _ _) _) hb⟩

set_option maxHeartbeats 1000000 in
theorem of_any (n : Int) (w : World) :
    Calls Try.prog 24 #[.int .i64 n] w fun e w' => e = .returned (refV (n % 65536) (n / 65536 % 2 == 1) (n / 131072 % 268435456)) ∧ Below w.heap.size w w' := by
  go_enter Try.func24, Try.ntmps24
  go_wp2_with (go_at_call 46; refine (low_any _ _ _ (by omega) (by omega)).mono ?_; rintro e w' ⟨rfl, rfl⟩)
  refine bodyPost_ret (v := refV (n % 65536) (n / 65536 % 2 == 1) (n / 131072 % 268435456)) (by simp [results, Try.results24, go_sem]) rfl ⟨rfl, ?_⟩
  exact below_al (Below.refl _ _) _

set_option maxHeartbeats 1000000 in
theorem wturn_any (i : Int) (m : Bool) (c : Int) (idx : Int) (w : World) :
    Calls Try.prog 69 #[refV i m c, .int .i64 idx] w fun e w' => e = .returned (refV (idx % 65536) false ((c + 1) % 268435456)) ∧ Below w.heap.size w w' := by
  go_enter Try.func69, Try.ntmps69
  go_wp2_with fail
  go_region_held3 (fun w' => w'.cell? ⟨w.heap.size, 2, none⟩ = some (.int .i64 c)) (go_keep) (first | (go_at_call 46; refine (low_any _ _ _ (by omega) (by omega)).mono ?_; rintro e w' ⟨rfl, rfl⟩))
  all_goals go_wp2
  refine bodyPost_ret (v := refV (idx % 65536) false ((c + 1) % 268435456)) ?_ rfl ⟨rfl, ((below_al (below_al (Below.refl _ _) _) _).drew)⟩
  simp [results, Try.results69, go_sem]
  exact wrap_mod28 _

end Go.Proofs.Ytgjdjgainjedhaa
