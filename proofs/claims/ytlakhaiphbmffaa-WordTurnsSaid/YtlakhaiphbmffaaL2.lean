/- The walk of WordBack. -/
import Derived.Test.YtlakhaiphbmffaaL1
namespace Go.Proofs.Ytlakhaiphbmffaa
open Go.RowKit
attribute [local go_sem ↓] Go.wp_at_zero Go.wp_at_succ

theorem of_pack (i : Int) (m : Bool) (c : Int) (hi0 : 0 ≤ i) (hi : i < 65536) (hc0 : 0 ≤ c) (hc : c < 268435456) :
    packI i m c % 65536 = i ∧ (packI i m c / 65536 % 2 == 1) = m ∧ packI i m c / 131072 % 268435456 = c := by
  unfold packI
  cases m
  · refine ⟨by simp; omega, ?_, by simp; omega⟩
    simp; omega
  · refine ⟨by simp; omega, ?_, by simp; omega⟩
    simp; omega
theorem pack_of (x : Int) (h0 : 0 ≤ x) (h : x < 35184372088832) : packI (x % 65536) (x / 65536 % 2 == 1) (x / 131072 % 268435456) = x := by
  unfold packI
  by_cases hb : x / 65536 % 2 = 1
  · have : (x / 65536 % 2 == 1) = true := by simpa using hb
    simp [this]; omega
  · have : (x / 65536 % 2 == 1) = false := by simpa using hb
    simp [this]; omega

theorem keep6 {w W w1 : World} {B : Nat} {x y z x' y' z' : Value} (hb : Below W.heap.size W w1)
    (h : Below w.heap.size w W ∧ B + 1 < W.heap.size ∧ W.cell? ⟨B, 0, none⟩ = some x ∧ W.cell? ⟨B, 1, none⟩ = some y ∧ W.cell? ⟨B, 2, none⟩ = some z ∧ W.cell? ⟨B + 1, 0, none⟩ = some x' ∧ W.cell? ⟨B + 1, 1, none⟩ = some y' ∧ W.cell? ⟨B + 1, 2, none⟩ = some z') :
    Below w.heap.size w w1 ∧ B + 1 < w1.heap.size ∧ w1.cell? ⟨B, 0, none⟩ = some x ∧ w1.cell? ⟨B, 1, none⟩ = some y ∧ w1.cell? ⟨B, 2, none⟩ = some z ∧ w1.cell? ⟨B + 1, 0, none⟩ = some x' ∧ w1.cell? ⟨B + 1, 1, none⟩ = some y' ∧ w1.cell? ⟨B + 1, 2, none⟩ = some z' := by
  obtain ⟨hw, h0, h⟩ := h
  refine ⟨below_tr hw hb, Nat.lt_of_lt_of_le h0 hb.size, ?_⟩
  simp only [bcellA hb h0, bcellA hb (show B < W.heap.size by omega)]; exact h

theorem keep6d {w W : World} {B : Nat} {x y z x' y' z' : Value}
    (h : Below w.heap.size w W ∧ B + 1 < W.heap.size ∧ W.cell? ⟨B, 0, none⟩ = some x ∧ W.cell? ⟨B, 1, none⟩ = some y ∧ W.cell? ⟨B, 2, none⟩ = some z ∧ W.cell? ⟨B + 1, 0, none⟩ = some x' ∧ W.cell? ⟨B + 1, 1, none⟩ = some y' ∧ W.cell? ⟨B + 1, 2, none⟩ = some z') :
    Below w.heap.size w W.drew ∧ B + 1 < W.drew.heap.size ∧ W.drew.cell? ⟨B, 0, none⟩ = some x ∧ W.drew.cell? ⟨B, 1, none⟩ = some y ∧ W.drew.cell? ⟨B, 2, none⟩ = some z ∧ W.drew.cell? ⟨B + 1, 0, none⟩ = some x' ∧ W.drew.cell? ⟨B + 1, 1, none⟩ = some y' ∧ W.drew.cell? ⟨B + 1, 2, none⟩ = some z' := ⟨h.1.drew, h.2⟩

theorem ret_bool {a b : Bool} (h : a = b) : Ending.returned (.bool a) = .returned (.bool b) := by rw [h]
theorem pack_same (i : Int) (m : Bool) (c k : Int) (o : Bool) (d : Int) (hi0 : 0 ≤ i) (hi : i < 65536) (hc0 : 0 ≤ c) (hc : c < 268435456) (hk0 : 0 ≤ k) (hk : k < 65536) (hd0 : 0 ≤ d) (hd : d < 268435456) :
    ((packI i m c == packI k o d) == (i == k && (m == o && c == d))) = true := by
  obtain ⟨a1, a2, a3⟩ := of_pack i m c hi0 hi hc0 hc
  obtain ⟨b1, b2, b3⟩ := of_pack k o d hk0 hk hd0 hd
  by_cases h : packI i m c = packI k o d
  · rw [h] at a1 a2 a3
    have h1 : i = k := by rw [← a1, b1]
    have h2 : m = o := by rw [← a2, b2]
    have h3 : c = d := by rw [← a3, b3]
    simp [h1, h2, h3]
  · have : ¬ (i = k ∧ m = o ∧ c = d) := fun ⟨h1, h2, h3⟩ => h (by rw [h1, h2, h3])
    have hf : (packI i m c == packI k o d) = false := by simpa using h
    rw [hf]
    simp
    by_cases h1 : i = k
    · by_cases h2 : m = o
      · exact .inr (.inr fun h3 => this ⟨h1, h2, h3⟩)
      · exact .inr (.inl h2)
    · exact .inl h1

/-- '==' of two pointers. -/
theorem ref_eql (i : Int) (m : Bool) (c k : Int) (o : Bool) (d : Int) (w : World) :
    (binOp .eql 23 (refV i m c) (refV k o d)).run Try.prog w = .ok (.bool (i == k && (m == o && c == d))) w := by
  by_cases h1 : i = k
  · by_cases h2 : m = o
    · by_cases h3 : c = d
      · subst h1 h2 h3; simp [go_sem]
      · subst h1 h2; simp [go_sem, h3]
    · subst h1; simp [go_sem, h2]
  · simp [go_sem, h1]

set_option maxHeartbeats 4000000 in
theorem back_any (i : Int) (m : Bool) (c : Int) (k : Int) (o : Bool) (d : Int) (n : Int) (w : World) (hi0 : 0 ≤ i) (hi : i < 65536) (hc0 : 0 ≤ c) (hc : c < 4294967296)
     (hk0 : 0 ≤ k) (hk : k < 65536) (hd0 : 0 ≤ d) (hd : d < 4294967296) (hn0 : 0 ≤ n) (hn : n < 18446744073709551616) :
    Calls Try.prog 5 #[.int .u16 i, .bool m, .int .u32 c, .int .u16 k, .bool o, .int .u32 d, .int .u64 n] w (BoolBelow true w) := by
  have ha := Below.refl w.heap.size w
  go_enter Try.func5, Try.ntmps5
  go_wp2_with (go_at_call 9; refine (awake_any _).mono ?_; rintro e w1 ⟨rfl, hb⟩; replace ha := below_tr ha hb; clear hb)
  obtain ⟨e1, e2, e3⟩ := of_pack i m (c % 268435456) hi0 hi (by omega) (by omega)
  have hx0 : 0 ≤ n % 35184372088832 := by omega
  have hx1 : n % 35184372088832 < 35184372088832 := by omega
  generalize n % 35184372088832 = x at *
  have e4 := pack_of x hx0 hx1
  have e5 := ref_eql i m (c % 268435456) k o (d % 268435456)
  have hS : Below w.heap.size w ((w1.alloc (Obj.cells #[Value.int IntKind.i64 i, Value.bool m, Value.int IntKind.i64 (c % 268435456)] 23)).alloc (Obj.cells #[Value.int IntKind.i64 k, Value.bool o, Value.int IntKind.i64 (d % 268435456)] 23)) := below_al (below_al ha _) _
  go_region_held3 (fun w' => Below w.heap.size w w' ∧ w1.heap.size + 1 < w'.heap.size ∧ w'.cell? ⟨w1.heap.size, 0, none⟩ = some (.int .i64 i) ∧ w'.cell? ⟨w1.heap.size, 1, none⟩ = some (.bool m) ∧ w'.cell? ⟨w1.heap.size, 2, none⟩ = some (.int .i64 (c % 268435456))
      ∧ w'.cell? ⟨w1.heap.size + 1, 0, none⟩ = some (.int .i64 k) ∧ w'.cell? ⟨w1.heap.size + 1, 1, none⟩ = some (.bool o) ∧ w'.cell? ⟨w1.heap.size + 1, 2, none⟩ = some (.int .i64 (d % 268435456)))
    (first | exact keep6 (by assumption) (by assumption) | exact keep6d (by assumption) | exact ⟨hS.drew, by simp⟩ | go_keep)
    (first
      | (go_at_call 10; refine (pack_any _ _ _ _).mono ?_; rintro e w2 ⟨rfl, hb⟩)
      | (go_at_call 12; refine (of_any _ _).mono ?_; rintro e w2 ⟨rfl, hb⟩))
  go_wp2
  go_ret
  refine ⟨?_, ?_⟩
  · exact ret_bool (pack_same i m _ k o _ hi0 hi (by omega) (by omega) hk0 hk (by omega) (by omega))
  · rename_i hh
    exact hh.1
end Go.Proofs.Ytlakhaiphbmffaa
