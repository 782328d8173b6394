/- The places of a layout are a partition of its cells: each cell is hit just once. -/
import Derived.Test.YthaieabhlodajaaApartP
namespace Go.Proofs.Ythaieabhlodajaa
open Go.RowKit

theorem within_ge {f m e r i : Int} (h : 0 ≤ withinN f m e r i) : (0 ≤ r ∧ r < m ∧ 0 ≤ i ∧ i < e) ∧ withinN f m e r i = f + r * e + i := by
  unfold withinN at h ⊢
  split at h
  · rename_i hc
    rw [if_pos hc]
    exact ⟨hc, rfl⟩
  · omega
theorem within_eq {f m e r i : Int} (hc : 0 ≤ r ∧ r < m ∧ 0 ≤ i ∧ i < e) : withinN f m e r i = f + r * e + i := by
  unfold withinN
  rw [if_pos hc]
set_option maxHeartbeats 1000000 in
theorem ek_in {l : Ly} {a b k x : Nat} (hk : k < 14) (hx : x ∈ ekN l a b k) : ∃ c a' j, InC l c a' j x ∧ Dec k a b c a' j := by
  obtain ⟨hs, i, hi, he⟩ := ek_mem.1 hx
  have hp : 0 ≤ plN l a b k := by unfold skipN at hs; omega
  have hone : oneB k = true → b = 0 := fun h => by
    unfold skipN at hs
    apply Classical.byContradiction
    intro hb
    exact hs (.inr ⟨h, hb⟩)
  have hkc : k = 0 ∨ k = 1 ∨ k = 2 ∨ k = 3 ∨ k = 4 ∨ k = 5 ∨ k = 6 ∨ k = 7 ∨ k = 8 ∨ k = 9 ∨ k = 10 ∨ k = 11 ∨ k = 12 ∨ k = 13 := by omega
  clear hs hx
  rcases hkc with rfl | rfl | rfl | rfl | rfl | rfl | rfl | rfl | rfl | rfl | rfl | rfl | rfl | rfl
  · have e : plN l a b 0 = withinN l.alive l.c.seats 1 a 0 := rfl
    rw [e] at hp he
    obtain ⟨h1, h2⟩ := within_ge hp
    have hi1 : i < 1 := hi
    have hb := hone rfl
    exact ⟨0, a, 0, ⟨by show (x : Int) = l.alive + a * 1 + 0; omega, h1.1, h1.2.1, by omega, by show (0 : Int) < 1; omega, by omega⟩, .inl ⟨rfl, rfl, rfl, rfl, hb⟩⟩
  · have e : plN l a b 1 = withinN l.owner l.c.seats 1 a 0 := rfl
    rw [e] at hp he
    obtain ⟨h1, h2⟩ := within_ge hp
    have hi1 : i < 1 := hi
    have hb := hone rfl
    exact ⟨1, a, 0, ⟨by show (x : Int) = l.owner + a * 1 + 0; omega, h1.1, h1.2.1, by omega, by show (0 : Int) < 1; omega, by omega⟩, .inr (.inl ⟨rfl, rfl, rfl, rfl, hb⟩)⟩
  · have e : plN l a b 2 = withinN l.resv l.c.seats 3 a b := rfl
    rw [e] at hp he
    obtain ⟨h1, h2⟩ := within_ge hp
    have hi1 : i < 1 := hi
    exact ⟨2, a, b, ⟨by show (x : Int) = l.resv + a * 3 + b; omega, h1.1, h1.2.1, h1.2.2.1, h1.2.2.2, by omega⟩, .inr (.inr (.inl ⟨rfl, rfl, rfl, rfl⟩))⟩
  · have e : plN l a b 3 = withinN l.deque l.c.seats 3 a b := rfl
    rw [e] at hp he
    obtain ⟨h1, h2⟩ := within_ge hp
    have hi1 : i < 1 := hi
    exact ⟨3, a, b, ⟨by show (x : Int) = l.deque + a * 3 + b; omega, h1.1, h1.2.1, h1.2.2.1, h1.2.2.2, by omega⟩, .inr (.inr (.inr (.inl ⟨rfl, rfl, rfl, rfl⟩)))⟩
  · have e : plN l a b 4 = ringAt l a b := rfl
    rw [e] at hp he
    have ho := ringAt_of l a b (by omega)
    rw [ringAt_eq l a b ho] at he
    have hr := ringsN_in l.c.tasks
    have hi1 : i < 4 * 2 ^ b := hi
    have hst := ahead_step b (by omega)
    have hin := aheadN_in (b : Int)
    have hle : aheadN ((b : Int) + 1) ≤ aheadN (ringsN l.c.tasks) := by
      by_cases hq : (b : Int) + 1 = ringsN l.c.tasks
      · rw [hq]; exact Int.le_refl _
      · exact Int.le_of_lt (aheadN_lt _ _ (by omega) (by omega) (by omega))
    refine ⟨4, a, aheadN b + i, ⟨by show (x : Int) = l.ring + a * aheadN (ringsN l.c.tasks) + (aheadN b + i); omega, ho.2.2.1, ho.2.2.2, by omega, by show aheadN b + i < aheadN (ringsN l.c.tasks); omega, by omega⟩, ?_⟩
    exact .inr (.inr (.inr (.inr (.inl ⟨rfl, rfl, rfl, by omega, by omega, by omega⟩))))
  · have e : plN l a b 5 = if (a : Int) < 1 then -1 else withinN l.task l.c.tasks 4 (a - 1) b := rfl
    rw [e] at hp he
    split at hp
    · omega
    · rename_i ha
      rw [if_neg ha] at he
      obtain ⟨h1, h2⟩ := within_ge hp
      have hi1 : i < 1 := hi
      exact ⟨5, (a : Int) - 1, b, ⟨by show (x : Int) = l.task + ((a : Int) - 1) * 4 + b; omega, h1.1, h1.2.1, h1.2.2.1, h1.2.2.2, by omega⟩, .inr (.inr (.inr (.inr (.inr (.inl ⟨rfl, rfl, rfl, by omega, rfl⟩)))))⟩
  · have e : plN l a b 6 = withinN l.cell l.c.cells 1 a 0 := rfl
    rw [e] at hp he
    obtain ⟨h1, h2⟩ := within_ge hp
    have hi1 : i < 1 := hi
    have hb := hone rfl
    exact ⟨6, a, 0, ⟨by show (x : Int) = l.cell + a * 1 + 0; omega, h1.1, h1.2.1, by omega, by show (0 : Int) < 1; omega, by omega⟩, .inr (.inr (.inr (.inr (.inr (.inr (.inl ⟨rfl, rfl, rfl, rfl, hb⟩))))))⟩
  · have e : plN l a b 7 = if (1 : Int) < b then -1 else withinN l.map l.c.maps (2 + l.c.buckets) a b := rfl
    rw [e] at hp he
    split at hp
    · omega
    · rename_i ha
      rw [if_neg ha] at he
      obtain ⟨h1, h2⟩ := within_ge hp
      have hi1 : i < 1 := hi
      exact ⟨7, a, b, ⟨by show (x : Int) = l.map + a * (2 + l.c.buckets) + b; omega, h1.1, h1.2.1, h1.2.2.1, h1.2.2.2, by omega⟩, .inr (.inr (.inr (.inr (.inr (.inr (.inr (.inl ⟨rfl, rfl, rfl, rfl, by omega⟩)))))))⟩
  · have e : plN l a b 8 = if (b : Int) < 0 ∨ l.c.buckets ≤ b then -1 else withinN l.map l.c.maps (2 + l.c.buckets) a (2 + b) := rfl
    rw [e] at hp he
    split at hp
    · omega
    · rename_i ha
      rw [if_neg ha] at he
      obtain ⟨h1, h2⟩ := within_ge hp
      have hi1 : i < 1 := hi
      exact ⟨7, a, 2 + b, ⟨by show (x : Int) = l.map + a * (2 + l.c.buckets) + (2 + b); omega, h1.1, h1.2.1, h1.2.2.1, h1.2.2.2, by omega⟩, .inr (.inr (.inr (.inr (.inr (.inr (.inr (.inr (.inl ⟨rfl, rfl, rfl, rfl⟩))))))))⟩
  · have e : plN l a b 9 = withinN l.stack l.c.stacks (1 + l.c.slots) a 0 := rfl
    rw [e] at hp he
    obtain ⟨h1, h2⟩ := within_ge hp
    have hi1 : i < 1 := hi
    have hb := hone rfl
    exact ⟨8, a, 0, ⟨by show (x : Int) = l.stack + a * (1 + l.c.slots) + 0; omega, h1.1, h1.2.1, h1.2.2.1, h1.2.2.2, by omega⟩, .inr (.inr (.inr (.inr (.inr (.inr (.inr (.inr (.inr (.inl ⟨rfl, rfl, rfl, rfl, hb⟩)))))))))⟩
  · have e : plN l a b 10 = if (b : Int) < 0 ∨ l.c.slots ≤ b then -1 else withinN l.stack l.c.stacks (1 + l.c.slots) a (1 + b) := rfl
    rw [e] at hp he
    split at hp
    · omega
    · rename_i ha
      rw [if_neg ha] at he
      obtain ⟨h1, h2⟩ := within_ge hp
      have hi1 : i < 1 := hi
      exact ⟨8, a, 1 + b, ⟨by show (x : Int) = l.stack + a * (1 + l.c.slots) + (1 + b); omega, h1.1, h1.2.1, h1.2.2.1, h1.2.2.2, by omega⟩, .inr (.inr (.inr (.inr (.inr (.inr (.inr (.inr (.inr (.inr (.inl ⟨rfl, rfl, rfl, rfl⟩))))))))))⟩
  · have e : plN l a b 11 = withinN l.chan l.c.chans 2 a 0 := rfl
    rw [e] at hp he
    obtain ⟨h1, h2⟩ := within_ge hp
    have hi1 : i < 1 := hi
    have hb := hone rfl
    exact ⟨9, a, 0, ⟨by show (x : Int) = l.chan + a * 2 + 0; omega, h1.1, h1.2.1, h1.2.2.1, h1.2.2.2, by omega⟩, .inr (.inr (.inr (.inr (.inr (.inr (.inr (.inr (.inr (.inr (.inr (.inl ⟨rfl, rfl, rfl, rfl, hb⟩)))))))))))⟩
  · have e : plN l a b 12 = withinN l.chan l.c.chans 2 a 1 := rfl
    rw [e] at hp he
    obtain ⟨h1, h2⟩ := within_ge hp
    have hi1 : i < 1 := hi
    have hb := hone rfl
    exact ⟨9, a, 1, ⟨by show (x : Int) = l.chan + a * 2 + 1; omega, h1.1, h1.2.1, h1.2.2.1, h1.2.2.2, by omega⟩, .inr (.inr (.inr (.inr (.inr (.inr (.inr (.inr (.inr (.inr (.inr (.inr (.inl ⟨rfl, rfl, rfl, rfl, hb⟩))))))))))))⟩
  · have e : plN l a b 13 = if (a : Int) < 1 then -1 else withinN l.node l.c.nodes 8 (a - 1) b := rfl
    rw [e] at hp he
    split at hp
    · omega
    · rename_i ha
      rw [if_neg ha] at he
      obtain ⟨h1, h2⟩ := within_ge hp
      have hi1 : i < 1 := hi
      exact ⟨10, (a : Int) - 1, b, ⟨by show (x : Int) = l.node + ((a : Int) - 1) * 8 + b; omega, h1.1, h1.2.1, h1.2.2.1, h1.2.2.2, by omega⟩, .inr (.inr (.inr (.inr (.inr (.inr (.inr (.inr (.inr (.inr (.inr (.inr (.inr (⟨rfl, rfl, rfl, by omega, rfl⟩)))))))))))))⟩
theorem ek_uniq {l : Ly} (h : Chain l) {a b k a1 b1 k1 x : Nat} (hk : k < 14) (hk1 : k1 < 14) (hx : x ∈ ekN l a b k) (hx1 : x ∈ ekN l a1 b1 k1) : a = a1 ∧ b = b1 ∧ k = k1 := by
  obtain ⟨c, a', j, i, d⟩ := ek_in hk hx
  obtain ⟨c1, a1', j1, i1, d1⟩ := ek_in hk1 hx1
  obtain ⟨rfl, rfl, rfl⟩ := i.uniq h i1
  exact d.uniq d1
theorem ek_one {l : Ly} {a b k x : Nat} (hm : k ≠ 4) (hone : oneB k = true → b = 0) (he : plN l a b k = x) : x ∈ ekN l a b k := by
  refine ek_mem.2 ⟨?_, 0, ?_, by omega⟩
  · unfold skipN
    rintro (h | ⟨h1, h2⟩)
    · omega
    · exact h2 (hone h1)
  · unfold manyN
    rw [if_neg hm]
    omega
/-- The small confs. -/
structure Small (l : Ly) : Prop where
  s1 : l.c.seats ≤ 2
  t1 : l.c.tasks ≤ 9
  b0 : 1 ≤ l.c.buckets
  b1 : l.c.buckets ≤ 8
  n1 : l.c.nodes ≤ 20
  ce : l.c.cells ≤ 16
  m1 : l.c.maps ≤ 8
  k1 : l.c.stacks ≤ 8
  sl0 : 1 ≤ l.c.slots
  sl : l.c.slots ≤ 8
  ch : l.c.chans ≤ 8
theorem ek_all {l : Ly} (h : Chain l) (s : Small l) {x : Nat} (h0 : 4 ≤ x) (h1 : (x : Int) < fN l 11) : ∃ a b k, a < 64 ∧ b < 16 ∧ k < 14 ∧ x ∈ ekN l a b k := by
  obtain ⟨c, hc, hl, hr⟩ := part_of h h0 h1
  obtain ⟨he, a0, a1, j0, j1, _⟩ := InC.make h hc hl hr
  obtain ⟨s1, t1, b0, b1, n1, ce, m1, k1, sl0, sl, ch⟩ := s
  generalize ((x : Int) - fN l c) / eN l c = q at *
  generalize ((x : Int) - fN l c) % eN l c = j at *
  obtain ⟨A, rfl⟩ : ∃ A : Nat, q = A := ⟨q.toNat, by omega⟩
  obtain ⟨J, rfl⟩ : ∃ J : Nat, j = J := ⟨j.toNat, by omega⟩
  have hcc : c = 0 ∨ c = 1 ∨ c = 2 ∨ c = 3 ∨ c = 4 ∨ c = 5 ∨ c = 6 ∨ c = 7 ∨ c = 8 ∨ c = 9 ∨ c = 10 := by omega
  clear hl hr h0 h1
  rcases hcc with rfl | rfl | rfl | rfl | rfl | rfl | rfl | rfl | rfl | rfl | rfl
  · have e1 : (x : Int) = l.alive + A * 1 + J := he
    have e2 : (J : Int) < 1 := j1
    have e3 : (A : Int) < l.c.seats := a1
    refine ⟨A, 0, 0, by omega, by omega, by omega, ek_one (by omega) (fun _ => rfl) ?_⟩
    show withinN l.alive l.c.seats 1 A 0 = x
    rw [within_eq ⟨by omega, by omega, by omega, by omega⟩]; omega
  · have e1 : (x : Int) = l.owner + A * 1 + J := he
    have e2 : (J : Int) < 1 := j1
    have e3 : (A : Int) < l.c.seats := a1
    refine ⟨A, 0, 1, by omega, by omega, by omega, ek_one (by omega) (fun _ => rfl) ?_⟩
    show withinN l.owner l.c.seats 1 A 0 = x
    rw [within_eq ⟨by omega, by omega, by omega, by omega⟩]; omega
  · have e1 : (x : Int) = l.resv + A * 3 + J := he
    have e2 : (J : Int) < 3 := j1
    have e3 : (A : Int) < l.c.seats := a1
    refine ⟨A, J, 2, by omega, by omega, by omega, ek_one (by omega) (fun h => by cases h) ?_⟩
    show withinN l.resv l.c.seats 3 A J = x
    rw [within_eq ⟨by omega, by omega, by omega, by omega⟩]; omega
  · have e1 : (x : Int) = l.deque + A * 3 + J := he
    have e2 : (J : Int) < 3 := j1
    have e3 : (A : Int) < l.c.seats := a1
    refine ⟨A, J, 3, by omega, by omega, by omega, ek_one (by omega) (fun h => by cases h) ?_⟩
    show withinN l.deque l.c.seats 3 A J = x
    rw [within_eq ⟨by omega, by omega, by omega, by omega⟩]; omega
  · have e1 : (x : Int) = l.ring + A * aheadN (ringsN l.c.tasks) + J := he
    have e2 : (J : Int) < aheadN (ringsN l.c.tasks) := j1
    have e3 : (A : Int) < l.c.seats := a1
    have hrn := ringsN_in l.c.tasks
    have hb : ∃ b : Nat, (b : Int) < ringsN l.c.tasks ∧ aheadN b ≤ J ∧ (J : Int) < aheadN b + ((4 * 2 ^ b : Nat) : Int) := by
      have v0 : aheadN ((0 : Nat) : Int) = 0 := by decide
      have v1 : aheadN ((1 : Nat) : Int) = 4 := by decide
      have v2 : aheadN ((2 : Nat) : Int) = 12 := by decide
      have v3 : aheadN ((3 : Nat) : Int) = 28 := by decide
      have v4 : aheadN ((4 : Nat) : Int) = 60 := by decide
      have w1 : aheadN 1 = 4 := by decide
      have w2 : aheadN 2 = 12 := by decide
      have w3 : aheadN 3 = 28 := by decide
      have w4 : aheadN 4 = 60 := by decide
      have w5 : aheadN 5 = 124 := by decide
      have hr : ringsN l.c.tasks = 1 ∨ ringsN l.c.tasks = 2 ∨ ringsN l.c.tasks = 3 ∨ ringsN l.c.tasks = 4 ∨ ringsN l.c.tasks = 5 := by omega
      by_cases g0 : J < 4
      · exact ⟨0, by omega, by rw [v0]; omega, by rw [v0]; omega⟩
      · by_cases g1 : J < 12
        · refine ⟨1, ?_, by rw [v1]; omega, by rw [v1]; omega⟩
          rcases hr with hr | hr | hr | hr | hr <;> rw [hr] at e2 ⊢ <;> omega
        · by_cases g2 : J < 28
          · refine ⟨2, ?_, by rw [v2]; omega, by rw [v2]; omega⟩
            rcases hr with hr | hr | hr | hr | hr <;> rw [hr] at e2 ⊢ <;> omega
          · by_cases g3 : J < 60
            · refine ⟨3, ?_, by rw [v3]; omega, by rw [v3]; omega⟩
              rcases hr with hr | hr | hr | hr | hr <;> rw [hr] at e2 ⊢ <;> omega
            · refine ⟨4, ?_, by rw [v4]; omega, ?_⟩
              · rcases hr with hr | hr | hr | hr | hr <;> rw [hr] at e2 ⊢ <;> omega
              · rw [v4]
                rcases hr with hr | hr | hr | hr | hr <;> rw [hr] at e2 <;> omega
    obtain ⟨b, hb1, hb2, hb3⟩ := hb
    have hring : plN l A b 4 = l.ring + A * aheadN (ringsN l.c.tasks) + aheadN b := ringAt_eq l A b ⟨by omega, hb1, by omega, e3⟩
    refine ⟨A, b, 4, by omega, by omega, by omega, ek_mem.2 ⟨?_, ((J : Int) - aheadN b).toNat, ?_, ?_⟩⟩
    · unfold skipN
      rw [hring]
      have hin := aheadN_in (b : Int)
      have hin2 := aheadN_in (ringsN l.c.tasks)
      have hmul := Int.mul_nonneg (show (0 : Int) ≤ A by omega) hin2.1
      have hring0 : 4 ≤ l.ring := by
        have := h.mono 0 4 (by omega)
        rw [h.zero] at this
        exact this
      rintro (h | ⟨h1, _⟩)
      · omega
      · cases h1
    · show _ < manyN 4 b
      unfold manyN
      rw [if_pos rfl]
      omega
    · rw [hring]
      omega
  · have e1 : (x : Int) = l.task + A * 4 + J := he
    have e2 : (J : Int) < 4 := j1
    have e3 : (A : Int) < l.c.tasks := a1
    refine ⟨A + 1, J, 5, by omega, by omega, by omega, ek_one (by omega) (fun h => by cases h) ?_⟩
    show (if ((A + 1 : Nat) : Int) < 1 then -1 else withinN l.task l.c.tasks 4 (((A + 1 : Nat) : Int) - 1) J) = x
    rw [if_neg (by omega), within_eq ⟨by omega, by omega, by omega, by omega⟩]; omega
  · have e1 : (x : Int) = l.cell + A * 1 + J := he
    have e2 : (J : Int) < 1 := j1
    have e3 : (A : Int) < l.c.cells := a1
    refine ⟨A, 0, 6, by omega, by omega, by omega, ek_one (by omega) (fun _ => rfl) ?_⟩
    show withinN l.cell l.c.cells 1 A 0 = x
    rw [within_eq ⟨by omega, by omega, by omega, by omega⟩]; omega
  · have e1 : (x : Int) = l.map + A * (2 + l.c.buckets) + J := he
    have e2 : (J : Int) < 2 + l.c.buckets := j1
    have e3 : (A : Int) < l.c.maps := a1
    by_cases hj : J < 2
    · refine ⟨A, J, 7, by omega, by omega, by omega, ek_one (by omega) (fun h => by cases h) ?_⟩
      show (if (1 : Int) < J then -1 else withinN l.map l.c.maps (2 + l.c.buckets) A J) = x
      rw [if_neg (by omega), within_eq ⟨by omega, by omega, by omega, by omega⟩]; omega
    · refine ⟨A, J - 2, 8, by omega, by omega, by omega, ek_one (by omega) (fun h => by cases h) ?_⟩
      show (if ((J - 2 : Nat) : Int) < 0 ∨ l.c.buckets ≤ ((J - 2 : Nat) : Int) then -1 else withinN l.map l.c.maps (2 + l.c.buckets) A (2 + ((J - 2 : Nat) : Int))) = x
      rw [if_neg (by omega), within_eq ⟨by omega, by omega, by omega, by omega⟩]; omega
  · have e1 : (x : Int) = l.stack + A * (1 + l.c.slots) + J := he
    have e2 : (J : Int) < 1 + l.c.slots := j1
    have e3 : (A : Int) < l.c.stacks := a1
    by_cases hj : J < 1
    · refine ⟨A, 0, 9, by omega, by omega, by omega, ek_one (by omega) (fun _ => rfl) ?_⟩
      show withinN l.stack l.c.stacks (1 + l.c.slots) A 0 = x
      rw [within_eq ⟨by omega, by omega, by omega, by omega⟩]; omega
    · refine ⟨A, J - 1, 10, by omega, by omega, by omega, ek_one (by omega) (fun h => by cases h) ?_⟩
      show (if ((J - 1 : Nat) : Int) < 0 ∨ l.c.slots ≤ ((J - 1 : Nat) : Int) then -1 else withinN l.stack l.c.stacks (1 + l.c.slots) A (1 + ((J - 1 : Nat) : Int))) = x
      rw [if_neg (by omega), within_eq ⟨by omega, by omega, by omega, by omega⟩]; omega
  · have e1 : (x : Int) = l.chan + A * 2 + J := he
    have e2 : (J : Int) < 2 := j1
    have e3 : (A : Int) < l.c.chans := a1
    by_cases hj : J < 1
    · refine ⟨A, 0, 11, by omega, by omega, by omega, ek_one (by omega) (fun _ => rfl) ?_⟩
      show withinN l.chan l.c.chans 2 A 0 = x
      rw [within_eq ⟨by omega, by omega, by omega, by omega⟩]; omega
    · refine ⟨A, 0, 12, by omega, by omega, by omega, ek_one (by omega) (fun _ => rfl) ?_⟩
      show withinN l.chan l.c.chans 2 A 1 = x
      rw [within_eq ⟨by omega, by omega, by omega, by omega⟩]; omega
  · have e1 : (x : Int) = l.node + A * 8 + J := he
    have e2 : (J : Int) < 8 := j1
    have e3 : (A : Int) < l.c.nodes := a1
    refine ⟨A + 1, J, 13, by omega, by omega, by omega, ek_one (by omega) (fun h => by cases h) ?_⟩
    show (if ((A + 1 : Nat) : Int) < 1 then -1 else withinN l.node l.c.nodes 8 (((A + 1 : Nat) : Int) - 1) J) = x
    rw [if_neg (by omega), within_eq ⟨by omega, by omega, by omega, by omega⟩]; omega

/-- The cells that are hit, in order. -/
def hitK (l : Ly) (a b n : Nat) : List Nat := (List.range n).flatMap (ekN l a b)
def hitB (l : Ly) (a n : Nat) : List Nat := (List.range n).flatMap fun b => hitK l a b 14
def hitA (l : Ly) (n : Nat) : List Nat := (List.range n).flatMap fun a => hitB l a 16
theorem mem_hitK {l : Ly} {a b n x : Nat} : x ∈ hitK l a b n ↔ ∃ k, k < n ∧ x ∈ ekN l a b k := by simp [hitK]
theorem mem_hitB {l : Ly} {a n x : Nat} : x ∈ hitB l a n ↔ ∃ b, b < n ∧ ∃ k, k < 14 ∧ x ∈ ekN l a b k := by simp [hitB, mem_hitK]
theorem mem_hitA {l : Ly} {n x : Nat} : x ∈ hitA l n ↔ ∃ a, a < n ∧ ∃ b, b < 16 ∧ ∃ k, k < 14 ∧ x ∈ ekN l a b k := by simp [hitA, mem_hitB]
theorem ek_nodup (l : Ly) (a b k : Nat) : (ekN l a b k).Nodup := by
  unfold ekN
  split
  · exact List.nodup_nil
  · rw [List.nodup_iff_pairwise_ne, List.pairwise_map]
    exact List.Pairwise.imp (fun h e => h (by omega)) (List.nodup_iff_pairwise_ne.1 List.nodup_range)
theorem hit_nodup {l : Ly} (h : Chain l) : (hitA l 64).Nodup := by
  unfold hitA
  rw [List.nodup_iff_pairwise_ne, List.pairwise_flatMap]
  refine ⟨fun a _ => ?_, ?_⟩
  · unfold hitB
    rw [List.pairwise_flatMap]
    refine ⟨fun b _ => ?_, ?_⟩
    · unfold hitK
      rw [List.pairwise_flatMap]
      refine ⟨fun k _ => List.nodup_iff_pairwise_ne.1 (ek_nodup l a b k), ?_⟩
      refine List.Pairwise.imp_of_mem (fun {k k1} hk hk1 hne x hx y hy e => ?_) (List.nodup_iff_pairwise_ne.1 List.nodup_range)
      subst e
      exact hne (ek_uniq h (List.mem_range.1 hk) (List.mem_range.1 hk1) hx hy).2.2
    · refine List.Pairwise.imp_of_mem (fun {b b1} _ _ hne x hx y hy e => ?_) (List.nodup_iff_pairwise_ne.1 List.nodup_range)
      subst e
      obtain ⟨k, hk, hx⟩ := mem_hitK.1 hx
      obtain ⟨k1, hk1, hy⟩ := mem_hitK.1 hy
      exact hne (ek_uniq h hk hk1 hx hy).2.1
  · refine List.Pairwise.imp_of_mem (fun {a a1} _ _ hne x hx y hy e => ?_) (List.nodup_iff_pairwise_ne.1 List.nodup_range)
    subst e
    obtain ⟨b, _, k, hk, hx⟩ := mem_hitB.1 hx
    obtain ⟨b1, _, k1, hk1, hy⟩ := mem_hitB.1 hy
    exact hne (ek_uniq h hk hk1 hx hy).1
def hits (l : Ly) (a : Nat) : List Nat := [0, 1, 2, 3] ++ hitA l a
theorem hit_one {l : Ly} (h : Chain l) (s : Small l) {x : Nat} (hx : (x : Int) < l.size) : (hits l 64).count x = 1 := by
  have hlow : ∀ y, y ∈ hitA l 64 → 4 ≤ y := fun y hy => by
    obtain ⟨a, _, b, _, k, hk, hy⟩ := mem_hitA.1 hy
    obtain ⟨c, a', j, i, _⟩ := ek_in hk hy
    have b1 := (i.bounds h).1
    have b2 := h.mono 0 c (by have := i.lt; omega)
    rw [h.zero, Nat.zero_add] at b2
    omega
  unfold hits
  rw [List.count_append]
  by_cases h4 : x < 4
  · have h0 : (hitA l 64).count x = 0 := List.count_eq_zero.2 (fun hm => by have := hlow x hm; omega)
    rw [h0]
    have hc : x = 0 ∨ x = 1 ∨ x = 2 ∨ x = 3 := by omega
    rcases hc with rfl | rfl | rfl | rfl <;> decide
  · have h0 : [0, 1, 2, 3].count x = 0 := List.count_eq_zero.2 (fun hm => by simp at hm; omega)
    rw [h0, Nat.zero_add]
    obtain ⟨a, b, k, ha, hb, hk, hm⟩ := ek_all h s (by omega : 4 ≤ x) hx
    exact List.Nodup.count (hit_nodup h) |>.trans (by rw [if_pos (mem_hitA.2 ⟨a, ha, b, hb, k, hk, hm⟩)])
end Go.Proofs.Ythaieabhlodajaa
