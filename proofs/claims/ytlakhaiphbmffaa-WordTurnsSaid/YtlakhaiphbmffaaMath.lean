/- Plain arithmetic for the statements of layer 1: low bits, joined fields, bits turned round. No program in sight. -/
import Derived.WalkKit
namespace Go.Proofs.Ytlakhaiphbmffaa
open Go.RowKit

/-- 'n & (2^b - 1)' on int is n modulo 2^b, for every n. -/
theorem and_mask (n : Int) (b : Nat) (hb : b ≤ 62) : bits .and .i64 n (2 ^ b - 1) = n % 2 ^ b := by
  have hp : (2 : Nat) ^ b ≤ 2 ^ 62 := Nat.pow_le_pow_right (by omega) hb
  have hp0 : 0 < (2 : Nat) ^ b := Nat.two_pow_pos b
  have e1 : ((2 : Int) ^ b - 1) = ((2 ^ b - 1 : Nat) : Int) := by
    rw [Int.ofNat_sub (by omega)]; simp
  have hd : (2 : Nat) ^ 64 = 2 ^ b * 2 ^ (64 - b) := by rw [← Nat.pow_add]; congr 1; omega
  show IntKind.i64.wrap ((BitVec.ofInt 64 n &&& BitVec.ofInt 64 (2 ^ b - 1)).toNat : Int) = _
  rw [e1, BitVec.ofInt_natCast, BitVec.toNat_and, BitVec.toNat_ofNat, Nat.mod_eq_of_lt (show 2 ^ b - 1 < 2 ^ 64 by omega), Nat.and_two_pow_sub_one_eq_mod, BitVec.toNat_ofInt]
  have e2 : (((n % ((2 ^ 64 : Nat) : Int)).toNat % 2 ^ b : Nat) : Int) = n % 2 ^ b := by
    rw [Int.natCast_emod, Int.toNat_of_nonneg (Int.emod_nonneg _ (by omega)), hd]
    push_cast
    exact Int.emod_emod_of_dvd n (Int.dvd_mul_right _ _)
  rw [e2, IntKind.wrap_i64]
  have h1 : 0 ≤ n % (2 : Int) ^ b := Int.emod_nonneg _ (Int.ne_of_gt (Int.pow_pos (by omega)))
  have h2 : n % (2 : Int) ^ b < 2 ^ b := Int.emod_lt_of_pos _ (Int.pow_pos (by omega))
  have h3 : (2 : Int) ^ b ≤ 2 ^ 62 := by exact_mod_cast hp
  omega

/-- '|' of a multiple of 2^i and a number below 2^i is their sum. -/
theorem or_join (x y : Int) (i : Nat) (hi : i ≤ 62) (hx : 0 ≤ x) (hx2 : x < 9223372036854775808) (hm : x % 2 ^ i = 0) (hy : 0 ≤ y) (hy2 : y < 2 ^ i) :
    bits .or .i64 x y = x + y := by
  obtain ⟨X, rfl⟩ := Int.eq_ofNat_of_zero_le hx
  obtain ⟨Y, rfl⟩ := Int.eq_ofNat_of_zero_le hy
  have hp : (2 : Nat) ^ i ≤ 2 ^ 62 := Nat.pow_le_pow_right (by omega) hi
  have hy' : Y < 2 ^ i := by exact_mod_cast hy2
  have hm' : X % 2 ^ i = 0 := by exact_mod_cast hm
  have hX : X < 2 ^ 63 := by omega
  have ho : X ||| Y < 2 ^ 63 := Nat.or_lt_two_pow hX (by omega)
  have hj := nat_join i X Y hm' hy'
  show IntKind.i64.wrap ((BitVec.ofInt 64 (X : Int) ||| BitVec.ofInt 64 (Y : Int)).toNat : Int) = _
  rw [BitVec.toNat_or, BitVec.ofInt_natCast, BitVec.toNat_ofNat, BitVec.ofInt_natCast, BitVec.toNat_ofNat, Nat.mod_eq_of_lt (by omega), Nat.mod_eq_of_lt (by omega), IntKind.wrap_i64, hj]
  rw [hj] at ho
  omega

theorem or_high (x y : Int) (i : Nat) (hi : i ≤ 62) (hx : 0 ≤ x) (hx2 : x < 2 ^ i) (hm : y % 2 ^ i = 0) (hy : 0 ≤ y) (hy2 : y < 9223372036854775808) :
    bits .or .i64 x y = x + y := by
  have h := or_join y x i hi hy hy2 hm hx hx2
  rw [Int.add_comm, ← h]
  show IntKind.i64.wrap ((BitVec.ofInt 64 x ||| BitVec.ofInt 64 y).toNat : Int) = IntKind.i64.wrap ((BitVec.ofInt 64 y ||| BitVec.ofInt 64 x).toNat : Int)
  rw [BitVec.or_comm]

theorem lay_pack_eq (n0 n1 n2 : Int) : bits .or .i64 (bits .or .i64 (bits .or .i64 0 (n0 % 65536)) (n1 % 2 * 65536)) (n2 % 268435456 * 131072) =
    n0 % 65536 + n1 % 2 * 65536 + n2 % 268435456 * 131072 := by
  rw [or_high 0 (n0 % 65536) 0 (by omega) (by omega) (by omega) (by omega) (by omega) (by omega)]
  rw [or_high _ (n1 % 2 * 65536) 16 (by omega) (by omega) (by omega) (by omega) (by omega) (by omega)]
  rw [or_high _ (n2 % 268435456 * 131072) 17 (by omega) (by omega) (by omega) (by omega) (by omega) (by omega)]
  omega

theorem lay_offer_eq (n0 n1 n2 : Int) : bits .or .i64 (bits .or .i64 (bits .or .i64 0 (n0 % 4294967296)) (n1 % 4 * 4294967296)) (n2 % 268435456 * 17179869184) =
    n0 % 4294967296 + n1 % 4 * 4294967296 + n2 % 268435456 * 17179869184 := by
  rw [or_high 0 (n0 % 4294967296) 0 (by omega) (by omega) (by omega) (by omega) (by omega) (by omega)]
  rw [or_high _ (n1 % 4 * 4294967296) 32 (by omega) (by omega) (by omega) (by omega) (by omega) (by omega)]
  rw [or_high _ (n2 % 268435456 * 17179869184) 34 (by omega) (by omega) (by omega) (by omega) (by omega) (by omega)]
  omega

theorem low_eq (n : Int) (b : Nat) (hb : b ≤ 62) : bits .and .i64 n (wrap64 (wrap64 (2 ^ b) - 1)) = n % 2 ^ b := by
  have h1 : (0 : Int) < 2 ^ b := Int.pow_pos (by omega)
  have h2 : (2 : Int) ^ b ≤ 2 ^ 62 := by exact_mod_cast Nat.pow_le_pow_right (n := 2) (by omega) hb
  rw [IntWalk.wrap64_in (2 ^ b) ⟨by omega, by omega⟩, IntWalk.wrap64_in _ ⟨by omega, by omega⟩, and_mask n b hb]

theorem mod_neg (m n : Int) (hn : 0 < n) (h : m.tmod n < 0) : m.tmod n + n = m % n := by
  have e := Int.tmod_eq_emod (a := m) (b := n)
  have h1 := Int.emod_nonneg m (show n ≠ 0 by omega)
  have h2 := Int.emod_lt_of_pos m hn
  split at e <;> omega
theorem mod_pos (m n : Int) (hn : 0 < n) (h : 0 ≤ m.tmod n) : m.tmod n = m % n := by
  have e := Int.tmod_eq_emod (a := m) (b := n)
  have h1 := Int.emod_nonneg m (show n ≠ 0 by omega)
  have h2 := Int.emod_lt_of_pos m hn
  split at e <;> omega

theorem below_al {a w : World} (h : Below a.heap.size a w) (o : Obj) : Below a.heap.size a (w.alloc o) := h.alloc h.size o
theorem below_tr {a w w' : World} (h : Below a.heap.size a w) (h' : Below w.heap.size w w') : Below a.heap.size a w' := h.trans (h'.mono h.size)

theorem ret_int {k : IntKind} {a b : Int} (h : a = b) : Ending.returned (.int k a) = .returned (.int k b) := by rw [h]

/-- n bits of k turned round. -/
def rv : Nat → Nat → Nat
  | 0, _ => 0
  | n + 1, k => (k % 2) * 2 ^ n + rv n (k / 2)

theorem rv_lt (n : Nat) : ∀ k, rv n k < 2 ^ n := by
  induction n with
  | zero => intro k; simp [rv]
  | succ n ih =>
    intro k
    have h1 := ih (k / 2)
    have h2 : k % 2 < 2 := Nat.mod_lt _ (by omega)
    have h3 : k % 2 * 2 ^ n ≤ 1 * 2 ^ n := Nat.mul_le_mul_right _ (by omega)
    rw [rv, Nat.pow_succ]; omega

theorem rv_snoc (n : Nat) : ∀ k, rv (n + 1) k = 2 * rv n k + k / 2 ^ n % 2 := by
  induction n with
  | zero => intro k; simp [rv]
  | succ n ih =>
    intro k
    rw [rv, ih, rv, Nat.div_div_eq_div_mul, ← Nat.pow_succ', Nat.pow_succ 2 n]
    have : k % 2 * (2 ^ n * 2) = 2 * (k % 2 * 2 ^ n) := by rw [← Nat.mul_assoc, Nat.mul_comm]
    omega

theorem rv_rv (n : Nat) : ∀ k, rv n (rv n k) = k % 2 ^ n := by
  induction n with
  | zero => intro k; simp [rv, Nat.mod_one]
  | succ n ih =>
    intro k
    have e : rv (n + 1) k = 2 * rv n k + k / 2 ^ n % 2 := rv_snoc n k
    have hb : k / 2 ^ n % 2 < 2 := Nat.mod_lt _ (by omega)
    have e1 : (rv (n + 1) k) % 2 = k / 2 ^ n % 2 := by omega
    have e2 : (rv (n + 1) k) / 2 = rv n k := by omega
    rw [show rv (n + 1) (rv (n + 1) k) = (rv (n + 1) k % 2) * 2 ^ n + rv n (rv (n + 1) k / 2) from rfl, e1, e2, ih]
    rw [Nat.pow_succ, Nat.mod_mul, Nat.mul_comm, Nat.add_comm]

theorem rv_mod (i : Nat) : ∀ n k, i ≤ n → rv n (k % 2 ^ i) = 2 ^ (n - i) * (rv n k / 2 ^ (n - i)) := by
  induction i with
  | zero =>
    intro n k _
    have h := rv_lt n k
    have hz : ∀ n, rv n 0 = 0 := by
      intro n; induction n with
      | zero => rfl
      | succ n ih => simp [rv, ih]
    rw [Nat.pow_zero, Nat.mod_one, hz, Nat.sub_zero, Nat.div_eq_of_lt h, Nat.mul_zero]
  | succ i ih =>
    intro n k hn
    obtain ⟨n, rfl⟩ : ∃ m, n = m + 1 := ⟨n - 1, by omega⟩
    have hs : n + 1 - (i + 1) = n - i := by omega
    have h1 : k % 2 ^ (i + 1) % 2 = k % 2 := Nat.mod_mod_of_dvd _ ⟨2 ^ i, by rw [Nat.pow_succ, Nat.mul_comm]⟩
    have h2 : k % 2 ^ (i + 1) / 2 = k / 2 % 2 ^ i := by
      rw [Nat.pow_succ, Nat.mul_comm, Nat.mod_mul_right_div_self]
    rw [hs, rv, h1, h2, ih n (k / 2) (by omega), rv]
    have hq : 2 ^ n = 2 ^ (n - i) * 2 ^ i := by rw [← Nat.pow_add]; congr 1; omega
    have e : k % 2 * 2 ^ n + rv n (k / 2) = rv n (k / 2) + 2 ^ (n - i) * (k % 2 * 2 ^ i) := by
      rw [hq, Nat.mul_left_comm, Nat.add_comm, Nat.mul_left_comm]
    rw [e, Nat.add_mul_div_left _ _ (Nat.two_pow_pos _), Nat.mul_add, Nat.add_comm]
    congr 1
    rw [hq, Nat.mul_left_comm]

theorem wrap_mod28 (n : Int) : IntKind.i64.wrap n % 268435456 = n % 268435456 := by rw [IntKind.wrap_i64]; omega
theorem wrap_mod28' (c : Int) : IntKind.i64.wrap (c % 268435456 + 1) % 268435456 = (c + 1) % 268435456 := by rw [IntKind.wrap_i64]; omega

/-- What Rev's loop has after k rounds. -/
def revTo (n : Int) : Nat → Int
  | 0 => 0
  | k + 1 => bits .or .i64 (revTo n k) (n / 2 ^ k % 2 * 2 ^ (15 - k))

theorem bit_of (n : Int) (k : Nat) (hk : k < 16) : n / 2 ^ k % 2 = (((n % 65536).toNat / 2 ^ k % 2 : Nat) : Int) := by
  have e : ((n % 65536).toNat : Int) = n % 65536 := Int.toNat_of_nonneg (by omega)
  rw [Int.natCast_emod, Int.natCast_ediv, e]
  push_cast
  have h2 : (65536 : Int) = 2 ^ k * (2 * 2 ^ (15 - k)) := by
    rw [← Int.pow_succ', ← Int.pow_add, show k + (15 - k + 1) = 16 by omega]; rfl
  have h3 : n = n % 65536 + 2 ^ k * (2 * (2 ^ (15 - k) * (n / 65536))) := by
    have := Int.emod_add_mul_ediv n 65536
    rw [h2] at this ⊢
    rw [Int.mul_assoc, Int.mul_assoc] at this
    exact this.symm
  have hp : (2 : Int) ^ k ≠ 0 := Int.ne_of_gt (Int.pow_pos (by omega))
  rw [h3]
  generalize hX : n % 65536 = X
  have hm : (X + 2 ^ k * (2 * (2 ^ (15 - k) * (n / 65536)))) % 65536 = X := by
    rw [← hX, ← h3]
  rw [hm, Int.add_mul_ediv_left _ _ hp, Int.add_mul_emod_self_left]

theorem revTo_eq (n : Int) (k : Nat) (hk : k ≤ 16) : revTo n k = ((rv k (n % 65536).toNat * 2 ^ (16 - k) : Nat) : Int) := by
  induction k with
  | zero => simp [revTo, rv]
  | succ k ih =>
    have hl := rv_lt k (n % 65536).toNat
    have e16 : (2 : Nat) ^ (16 - k) = 2 * 2 ^ (15 - k) := by rw [show 16 - k = 15 - k + 1 by omega, Nat.pow_succ, Nat.mul_comm]
    have hprod : 2 ^ k * 2 ^ (16 - k) = 65536 := by rw [← Nat.pow_add, show k + (16 - k) = 16 by omega]
    have hbit : (n % 65536).toNat / 2 ^ k % 2 < 2 := Nat.mod_lt _ (by omega)
    have hlt : rv k (n % 65536).toNat * 2 ^ (16 - k) < 65536 := by
      rw [← hprod]; exact Nat.mul_lt_mul_of_pos_right hl (Nat.two_pow_pos _)
    rw [revTo, ih (by omega), bit_of n k (by omega)]
    have eb : (((n % 65536).toNat / 2 ^ k % 2 : Nat) : Int) * 2 ^ (15 - k) = (((n % 65536).toNat / 2 ^ k % 2 * 2 ^ (15 - k) : Nat) : Int) := by push_cast; rfl
    have hb2 : (n % 65536).toNat / 2 ^ k % 2 * 2 ^ (15 - k) < 2 ^ (16 - k) := by
      rw [e16]; exact Nat.mul_lt_mul_of_pos_right hbit (Nat.two_pow_pos _)
    have hcast : ((2 ^ (16 - k) : Nat) : Int) = 2 ^ (16 - k) := by push_cast; rfl
    have hm : (((rv k (n % 65536).toNat * 2 ^ (16 - k) : Nat) : Int)) % 2 ^ (16 - k) = 0 := by
      rw [← hcast, ← Int.natCast_emod, Nat.mul_mod_left]; rfl
    have hb3 : (((n % 65536).toNat / 2 ^ k % 2 * 2 ^ (15 - k) : Nat) : Int) < 2 ^ (16 - k) := by rw [← hcast]; exact Int.ofNat_lt.2 hb2
    rw [eb, or_join _ _ (16 - k) (by omega) (by omega) (by omega) hm (by omega) hb3, rv_snoc, show 16 - (k + 1) = 15 - k by omega, e16]
    push_cast
    rw [Int.add_mul, Int.mul_assoc, Int.mul_left_comm]

theorem revTo_step (n : Int) (k : Nat) (hk : k < 16) : bits .or .i64 (revTo n k) (wrap64 (n / 2 ^ k % 2 * 2 ^ (15 - k))) = revTo n (k + 1) := by
  have h2 : (2 : Int) ^ (15 - k) ≤ 2 ^ 15 := by exact_mod_cast Nat.pow_le_pow_right (n := 2) (i := 15 - k) (j := 15) (by omega) (by omega)
  have h0 : (0 : Int) < 2 ^ (15 - k) := Int.pow_pos (by omega)
  have hb : n / 2 ^ k % 2 = 0 ∨ n / 2 ^ k % 2 = 1 := by omega
  rw [IntWalk.wrap64_in]
  · rfl
  · rcases hb with h | h <;> rw [h] <;> omega

/-- What Rev tells. -/
def revI (n : Int) : Int := rv 16 (n % 65536).toNat
theorem revTo_16 (n : Int) : revTo n 16 = revI n := by rw [revTo_eq n 16 (by omega)]; simp [revI]
theorem revI_bd (n : Int) : 0 ≤ revI n ∧ revI n < 65536 := by
  have := rv_lt 16 (n % 65536).toNat
  unfold revI; omega

end Go.Proofs.Ytlakhaiphbmffaa
