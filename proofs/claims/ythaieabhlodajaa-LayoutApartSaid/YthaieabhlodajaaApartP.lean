/- The places of a layout are a partition of its cells: plain. -/
import Derived.Test.YthaieabhlodajaaRow14
import Derived.Test.YthaieabhlodajaaLaw14B
namespace Go.Proofs.Ythaieabhlodajaa
open Go.RowKit

def fN (l : Ly) (c : Nat) : Int := if c = 0 then l.alive else if c = 1 then l.owner else if c = 2 then l.resv else if c = 3 then l.deque else if c = 4 then l.ring else if c = 5 then l.task else if c = 6 then l.cell else if c = 7 then l.map else if c = 8 then l.stack else if c = 9 then l.chan else if c = 10 then l.node else l.size
def eN (l : Ly) (c : Nat) : Int := if c = 0 then 1 else if c = 1 then 1 else if c = 2 then 3 else if c = 3 then 3 else if c = 4 then aheadN (ringsN l.c.tasks) else if c = 5 then 4 else if c = 6 then 1 else if c = 7 then 2 + l.c.buckets else if c = 8 then 1 + l.c.slots else if c = 9 then 2 else 8
def mN (l : Ly) (c : Nat) : Int := if c ≤ 4 then l.c.seats else if c = 5 then l.c.tasks else if c = 6 then l.c.cells else if c = 7 then l.c.maps else if c = 8 then l.c.stacks else if c = 9 then l.c.chans else l.c.nodes
/-- The parts lie on end. -/
structure Chain (l : Ly) : Prop where
  next : ∀ c, c < 11 → fN l (c + 1) = fN l c + mN l c * eN l c
  epos : ∀ c, c < 11 → 1 ≤ eN l c
  mpos : ∀ c, c < 11 → 0 ≤ mN l c
  zero : fN l 0 = 4
theorem chain_of (c : Cf) (h : c.can) : Chain (lyOf c) := by
  have k := lyOk_of c h
  have r0 : 1 ≤ c.seats ∧ c.seats ≤ 8 := h.1.1 0 (by omega)
  have r1 : 1 ≤ c.buckets ∧ c.buckets ≤ 64 := h.1.1 1 (by omega)
  have r2 : 1 ≤ c.slots ∧ c.slots ≤ 8 := h.1.1 2 (by omega)
  have r3 : 1 ≤ c.tasks ∧ c.tasks ≤ 64 := h.1.1 3 (by omega)
  have r4 : 0 ≤ c.cells ∧ c.cells ≤ 16 := h.1.1 4 (by omega)
  have r5 : 0 ≤ c.maps ∧ c.maps ≤ 8 := h.1.1 5 (by omega)
  have r6 : 0 ≤ c.stacks ∧ c.stacks ≤ 8 := h.1.1 6 (by omega)
  have r7 : 0 ≤ c.chans ∧ c.chans ≤ 8 := h.1.1 7 (by omega)
  have n1 := h.2
  have hr := ringsN_in c.tasks
  have ha : 1 ≤ aheadN (ringsN c.tasks) := by
    have := aheadN_lt 0 (ringsN c.tasks) (by omega) (by omega) (by omega)
    have h0 : aheadN 0 = 0 := by decide
    omega
  have ec : (lyOf c).c = c := rfl
  have ea : (lyOf c).alive = 4 := rfl
  refine ⟨fun i hi => ?_, fun i hi => ?_, fun i hi => ?_, rfl⟩
  · have hc : i = 0 ∨ i = 1 ∨ i = 2 ∨ i = 3 ∨ i = 4 ∨ i = 5 ∨ i = 6 ∨ i = 7 ∨ i = 8 ∨ i = 9 ∨ i = 10 := by omega
    rcases hc with rfl | rfl | rfl | rfl | rfl | rfl | rfl | rfl | rfl | rfl | rfl
    · exact k.owner.symm
    · exact k.resv.symm
    · exact k.deque.symm
    · exact k.ring.symm
    · exact k.task.symm
    · exact k.cell.symm
    · exact k.map.symm
    · exact k.stack.symm
    · exact k.chan.symm
    · exact k.node.symm
    · exact k.size.symm
  · have hc : i = 0 ∨ i = 1 ∨ i = 2 ∨ i = 3 ∨ i = 4 ∨ i = 5 ∨ i = 6 ∨ i = 7 ∨ i = 8 ∨ i = 9 ∨ i = 10 := by omega
    rcases hc with rfl | rfl | rfl | rfl | rfl | rfl | rfl | rfl | rfl | rfl | rfl <;> simp [eN, ec] <;> omega
  · have hc : i = 0 ∨ i = 1 ∨ i = 2 ∨ i = 3 ∨ i = 4 ∨ i = 5 ∨ i = 6 ∨ i = 7 ∨ i = 8 ∨ i = 9 ∨ i = 10 := by omega
    rcases hc with rfl | rfl | rfl | rfl | rfl | rfl | rfl | rfl | rfl | rfl | rfl <;> simp [mN, ec] <;> omega
theorem Chain.mono {l : Ly} (h : Chain l) (c : Nat) : ∀ d, c + d ≤ 11 → fN l c ≤ fN l (c + d) := by
  intro d
  induction d with
  | zero => intro _; exact Int.le_refl _
  | succ d ih =>
    intro hd
    have h1 := ih (by omega)
    have h2 := h.next (c + d) (by omega)
    have h3 := Int.mul_nonneg (h.mpos (c + d) (by omega)) (Int.le_trans (by omega) (h.epos (c + d) (by omega)))
    rw [show c + (d + 1) = c + d + 1 by omega, h2]
    omega
theorem mul_stepA (x y A : Int) (hA : 0 ≤ A) (h : x + 1 ≤ y) : x * A + A ≤ y * A := by
  have := Int.mul_le_mul_of_nonneg_right h hA
  rw [Int.add_mul, Int.one_mul] at this
  exact this
/-- Cell x is number j of thing a of part c. -/
structure InC (l : Ly) (c : Nat) (a j : Int) (x : Nat) : Prop where
  eq : (x : Int) = fN l c + a * eN l c + j
  a0 : 0 ≤ a
  a1 : a < mN l c
  j0 : 0 ≤ j
  j1 : j < eN l c
  lt : c < 11
theorem InC.bounds {l : Ly} (h : Chain l) {c : Nat} {a j : Int} {x : Nat} (i : InC l c a j x) : fN l c ≤ x ∧ (x : Int) < fN l (c + 1) := by
  have e := h.epos c i.lt
  have s := mul_stepA a (mN l c) (eN l c) (by omega) (by have := i.a1; omega)
  have n := Int.mul_nonneg i.a0 (show 0 ≤ eN l c by omega)
  rw [h.next c i.lt]
  have := i.eq
  have := i.j0
  have := i.j1
  omega
theorem InC.uniq {l : Ly} (h : Chain l) {c c' : Nat} {a a' j j' : Int} {x : Nat} (i : InC l c a j x) (i' : InC l c' a' j' x) : c = c' ∧ a = a' ∧ j = j' := by
  have b := i.bounds h
  have b' := i'.bounds h
  have hc : c = c' := by
    rcases Nat.lt_trichotomy c c' with hlt | he | hlt
    · have := h.mono (c + 1) (c' - (c + 1)) (by have := i'.lt; omega)
      rw [show c + 1 + (c' - (c + 1)) = c' by omega] at this
      omega
    · exact he
    · have := h.mono (c' + 1) (c - (c' + 1)) (by have := i.lt; omega)
      rw [show c' + 1 + (c - (c' + 1)) = c by omega] at this
      omega
  subst hc
  have e := h.epos c i.lt
  have q := i.eq
  have q' := i'.eq
  have j0 := i.j0
  have j1 := i.j1
  have k0 := i'.j0
  have k1 := i'.j1
  have ha : a = a' := by
    rcases Int.lt_trichotomy a a' with hlt | he | hlt
    · have := mul_stepA a a' (eN l c) (by omega) (by omega)
      omega
    · exact he
    · have := mul_stepA a' a (eN l c) (by omega) (by omega)
      omega
  subst ha
  exact ⟨rfl, rfl, by omega⟩
theorem InC.make {l : Ly} (h : Chain l) {c : Nat} (hc : c < 11) {x : Nat} (h0 : fN l c ≤ x) (h1 : (x : Int) < fN l (c + 1)) : InC l c (((x : Int) - fN l c) / eN l c) (((x : Int) - fN l c) % eN l c) x := by
  have e := h.epos c hc
  have hm := Int.emod_nonneg ((x : Int) - fN l c) (show eN l c ≠ 0 by omega)
  have hl := Int.emod_lt_of_pos ((x : Int) - fN l c) (show 0 < eN l c by omega)
  have hd : 0 ≤ ((x : Int) - fN l c) / eN l c := Int.ediv_nonneg (by omega) (by omega)
  have hq := Int.ediv_mul_add_emod ((x : Int) - fN l c) (eN l c)
  refine ⟨by omega, hd, ?_, hm, hl, hc⟩
  rw [h.next c hc] at h1
  apply Int.lt_of_not_ge
  intro hge
  have := Int.mul_le_mul_of_nonneg_right hge (show 0 ≤ eN l c by omega)
  omega
theorem part_of {l : Ly} (h : Chain l) {x : Nat} (h0 : 4 ≤ x) (h1 : (x : Int) < fN l 11) : ∃ c, c < 11 ∧ fN l c ≤ x ∧ (x : Int) < fN l (c + 1) := by
  have key : ∀ n, n ≤ 11 → (x : Int) < fN l n → ∃ c, c < n ∧ fN l c ≤ x ∧ (x : Int) < fN l (c + 1) := by
    intro n
    induction n with
    | zero =>
      intro _ hx
      rw [h.zero] at hx
      omega
    | succ n ih =>
      intro hn hx
      by_cases hxn : (x : Int) < fN l n
      · obtain ⟨c, hc, h2, h3⟩ := ih (by omega) hxn
        exact ⟨c, by omega, h2, h3⟩
      · exact ⟨n, by omega, by omega, hx⟩
  exact key 11 (by omega) h1

def plN (l : Ly) (a b k : Nat) : Int := ((rowAt l a b)[k]?).getD (-1)
def oneB (k : Nat) : Bool := k == 0 || k == 1 || k == 6 || k == 9 || k == 11 || k == 12
def manyN (k b : Nat) : Nat := if k = 4 then 4 * 2 ^ b else 1
def skipN (l : Ly) (a b k : Nat) : Prop := plN l a b k < 0 ∨ (oneB k = true ∧ b ≠ 0)
instance (l : Ly) (a b k : Nat) : Decidable (skipN l a b k) := by unfold skipN; infer_instance
def ekN (l : Ly) (a b k : Nat) : List Nat := if skipN l a b k then [] else (List.range (manyN k b)).map fun i => (plN l a b k).toNat + i
theorem ek_mem {l : Ly} {a b k x : Nat} : x ∈ ekN l a b k ↔ ¬ skipN l a b k ∧ ∃ i, i < manyN k b ∧ (x : Int) = plN l a b k + i := by
  unfold ekN
  split
  · rename_i h
    simp [h]
  · rename_i h
    have hp : 0 ≤ plN l a b k := by
      unfold skipN at h
      omega
    simp only [List.mem_map, List.mem_range, h, not_false_eq_true, true_and]
    constructor
    · rintro ⟨i, hi, rfl⟩
      exact ⟨i, hi, by omega⟩
    · rintro ⟨i, hi, he⟩
      exact ⟨i, hi, by omega⟩
/-- Which thing, and which number of it, place (a, b) of kind k is. -/
def Dec (k a b : Nat) (c : Nat) (a' j : Int) : Prop :=
  (k = 0 ∧ c = 0 ∧ a' = a ∧ j = 0 ∧ b = 0) ∨ (k = 1 ∧ c = 1 ∧ a' = a ∧ j = 0 ∧ b = 0) ∨ (k = 2 ∧ c = 2 ∧ a' = a ∧ j = b) ∨ (k = 3 ∧ c = 3 ∧ a' = a ∧ j = b) ∨
  (k = 4 ∧ c = 4 ∧ a' = a ∧ aheadN b ≤ j ∧ j < aheadN (b + 1) ∧ b < 5) ∨ (k = 5 ∧ c = 5 ∧ a' = a - 1 ∧ 1 ≤ a ∧ j = b) ∨ (k = 6 ∧ c = 6 ∧ a' = a ∧ j = 0 ∧ b = 0) ∨
  (k = 7 ∧ c = 7 ∧ a' = a ∧ j = b ∧ b < 2) ∨ (k = 8 ∧ c = 7 ∧ a' = a ∧ j = 2 + b) ∨ (k = 9 ∧ c = 8 ∧ a' = a ∧ j = 0 ∧ b = 0) ∨ (k = 10 ∧ c = 8 ∧ a' = a ∧ j = 1 + b) ∨
  (k = 11 ∧ c = 9 ∧ a' = a ∧ j = 0 ∧ b = 0) ∨ (k = 12 ∧ c = 9 ∧ a' = a ∧ j = 1 ∧ b = 0) ∨ (k = 13 ∧ c = 10 ∧ a' = a - 1 ∧ 1 ≤ a ∧ j = b)
theorem ahead_step (b : Nat) (h : b < 5) : aheadN ((b : Int) + 1) = aheadN b + ((4 * 2 ^ b : Nat) : Int) := by
  have hb : b = 0 ∨ b = 1 ∨ b = 2 ∨ b = 3 ∨ b = 4 := by omega
  rcases hb with rfl | rfl | rfl | rfl | rfl <;> decide
theorem ahead_le (b b' : Nat) (h : b < b') (h' : b' < 5) : aheadN ((b : Int) + 1) ≤ aheadN b' := by
  have hb : b = 0 ∨ b = 1 ∨ b = 2 ∨ b = 3 := by omega
  have hb' : b' = 1 ∨ b' = 2 ∨ b' = 3 ∨ b' = 4 := by omega
  rcases hb with rfl | rfl | rfl | rfl <;> rcases hb' with rfl | rfl | rfl | rfl <;> first | omega | decide
theorem Dec.uniq {k a b k' a1 b1 c : Nat} {a' j : Int} (h : Dec k a b c a' j) (h' : Dec k' a1 b1 c a' j) : a = a1 ∧ b = b1 ∧ k = k' := by
  by_cases h4 : k = 4 ∧ k' = 4
  · obtain ⟨rfl, rfl⟩ := h4
    have e : a' = a ∧ aheadN b ≤ j ∧ j < aheadN (b + 1) ∧ b < 5 := by
      rcases h with h | h | h | h | h | h | h | h | h | h | h | h | h | h <;> first | exact h.2.2 | (exfalso; omega)
    have e' : a' = a1 ∧ aheadN b1 ≤ j ∧ j < aheadN (b1 + 1) ∧ b1 < 5 := by
      rcases h' with h | h | h | h | h | h | h | h | h | h | h | h | h | h <;> first | exact h.2.2 | (exfalso; omega)
    refine ⟨by omega, ?_, rfl⟩
    rcases Nat.lt_trichotomy b b1 with hlt | he | hlt
    · have := ahead_le b b1 hlt e'.2.2.2
      omega
    · exact he
    · have := ahead_le b1 b hlt e.2.2.2
      omega
  · rcases h with h | h | h | h | h | h | h | h | h | h | h | h | h | h <;> rcases h' with h' | h' | h' | h' | h' | h' | h' | h' | h' | h' | h' | h' | h' | h' <;> omega
end Go.Proofs.Ythaieabhlodajaa
