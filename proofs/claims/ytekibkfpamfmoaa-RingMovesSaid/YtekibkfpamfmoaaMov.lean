/- What a memory holds while a ring's tasks are moved: plain. And make of a row of numbers. -/
import Derived.Test.YtekibkfpamfmoaaRingE
import Derived.Test.YtekibkfpamfmoaaLaw17B
import Derived.Laws.MakeOwn
namespace Go.Proofs.Ytekibkfpamfmoaa
open Go.RowKit

theorem made_ints (N : Nat) : madeCells #[Value.int .i64 0] N = memC (List.replicate N 0) := by
  apply Array.ext
  · simp [madeCells]
  · intro i h1 h2
    simp [madeCells, Nat.mod_one]
theorem run_make_ints (w : World) (N : Nat) (h : N ≤ 1000000) :
    (Instr.makeSlice 41 (.int .i64 N) (.int .i64 N)).run Try.prog w = .ok (.slice (some ⟨w.heap.size, 0, none⟩) N N) (w.alloc (.cells (memC (List.replicate N 0)) 3)) := by
  obtain ⟨i0, hi0, hz0, hz1, hz2⟩ := info_parts int_info
  have hr := run_make (P := Try.prog) w 41 3 i0 _ Try.underlying41 hi0 hz0 .i64 .i64 N N (by omega) (by omega) (by rw [hz2]; omega) (by omega)
  rw [hz1, Nat.mul_one, Int.toNat_natCast] at hr
  rw [hr]
  show Result.ok _ (w.alloc (.cells (madeCells #[Value.int .i64 0] N) 3)) = _
  rw [made_ints]
theorem wpList_make_ints {ops : Array Oper} {rest : List Oper} {o : Oper} {a : Act} {w : World} {Q : Exit → Act → World → Prop} (hg : o.guard = none) (x y : Operand) (ho : o.op = .makeSlice 41 x y) (N : Nat) (hx : a.eval x = .int .i64 N) (hy : a.eval y = .int .i64 N) (h1 : N ≤ 1000000)
    (h : wpList Try.prog ops Q rest (a.put o.dst (.slice (some ⟨w.heap.size, 0, none⟩) N N)) (w.alloc (.cells (memC (List.replicate N 0)) 3))) : wpList Try.prog ops Q (o :: rest) a w :=
  wpList_plain hg fun _ hK => by
    unfold Oper.wp execOp
    simp only [ho, hx, hy, Sem.run_bind, run_make_ints w N h1, Result.andThen_ok]
    exact hK _ _ h

/-- A deque's three cells in a memory of N cells. -/
structure MemIs (mem : List Int) (N d : Nat) (t b k : Int) : Prop where
  len : mem.length = N
  c0 : mem[d]? = some t
  c1 : mem[d + 1]? = some b
  c2 : mem[d + 2]? = some k
theorem MemIs.set {mem : List Int} {N d : Nat} {t b k : Int} (h : MemIs mem N d t b k) {p : Nat} (hp : d + 2 < p) (x : Int) : MemIs (mem.set p x) N d t b k :=
  ⟨by simp [h.len], by rw [List.getElem?_set_ne (by omega)]; exact h.c0, by rw [List.getElem?_set_ne (by omega)]; exact h.c1, by rw [List.getElem?_set_ne (by omega)]; exact h.c2⟩
theorem MemIs.made (N d : Nat) (t b k : Int) (hd : d + 2 < N) : MemIs ((((List.replicate N 0).set d t).set (d + 1) b).set (d + 2) k) N d t b k := by
  refine ⟨by simp, ?_, ?_, ?_⟩
  · rw [List.getElem?_set_ne (by omega), List.getElem?_set_ne (by omega), List.getElem?_set_self (by simp; omega)]
  · rw [List.getElem?_set_ne (by omega), List.getElem?_set_self (by simp; omega)]
  · rw [List.getElem?_set_self (by simp; omega)]
theorem MemIs.next {mem : List Int} {N d : Nat} {t b k : Int} (h : MemIs mem N d t b k) (hd : d + 2 < N) (x : Int) : MemIs (mem.set (d + 2) x) N d t b x :=
  ⟨by simp [h.len], by rw [List.getElem?_set_ne (by omega)]; exact h.c0, by rw [List.getElem?_set_ne (by omega)]; exact h.c1, by rw [List.getElem?_set_self (by rw [h.len]; exact hd)]⟩
/-- The first i of a row lie at their places. -/
def Laid (mem row : List Int) (P : Nat → Nat) (i : Nat) : Prop := ∀ j, j < i → mem[P j]? = row[j]?
theorem Laid.none (mem row : List Int) (P : Nat → Nat) : Laid mem row P 0 := fun j h => absurd h (by omega)
theorem Laid.snoc {mem row : List Int} {P : Nat → Nat} {i n : Nat} {x : Int} (h : Laid mem row P i) (hi : i < n) (hx : row[i]? = some x) (hp : P i < mem.length) (hinj : ∀ a b, a < n → b < n → P a = P b → a = b) : Laid (mem.set (P i) x) row P (i + 1) := by
  intro j hj
  by_cases e : j = i
  · subst e
    rw [List.getElem?_set_self hp, hx]
  · rw [List.getElem?_set_ne (fun h' => e (hinj j i (by omega) (by omega) h'.symm))]
    exact h j (by omega)
theorem Laid.other {mem row : List Int} {P : Nat → Nat} {i q : Nat} {x : Int} (h : Laid mem row P i) (hq : ∀ j, P j ≠ q) : Laid (mem.set q x) row P i := by
  intro j hj
  rw [List.getElem?_set_ne (fun e => hq j e.symm)]
  exact h j hj

theorem ring_fn (a b s r t : Int) (h0 : 1 ≤ a) (h1 : a ≤ 8) (h2 : 1 ≤ b) (h3 : b ≤ 64) (r0 : 0 ≤ r) (r1 : r < ringsN b) (t0 : 0 ≤ t) (s0 : 0 ≤ s) (s1 : s < a) :
    ringAt (whereL a b) s r ≠ -1 ∧ ∃ P : Nat → Nat, (∀ j : Nat, placeAt (whereL a b) s r (t + j) = P j ∧ ringAt (whereL a b) s r + (t + j) % sizeN r = P j ∧ (whereL a b).ring ≤ P j ∧ (P j : Int) < (whereL a b).task) ∧
      ∀ i j : Nat, (i : Int) < sizeN r → (j : Int) < sizeN r → P i = P j → i = j := by
  have f := whereL_fit a b h0 h1 h2 h3
  have hrn := ringsN_in b
  have hne : ringAt (whereL a b) s r ≠ -1 := by
    rw [ringAt_eq _ _ _ ⟨r0, r1, s0, s1⟩]
    have q1 := aheadN_in (ringsN (whereL a b).c.tasks)
    have q2 := aheadN_in r
    have q3 := mul_in s _ s0 (by omega) q1.1 q1.2
    have := f.r1
    omega
  have hs4 := sizeN_pos r r0 (by omega)
  have hrg := ringAt_in _ s r f
  have hps : ∀ j : Nat, placeAt (whereL a b) s r (t + j) = ringAt (whereL a b) s r + (t + j) % sizeN r := fun j => place_some _ _ _ _ hne (by omega)
  have hge : ∀ j : Nat, 0 ≤ placeAt (whereL a b) s r (t + j) := fun j => by
    rw [hps j]
    have : 0 ≤ (t + (j : Int)) % sizeN r := Int.emod_nonneg _ (by omega)
    omega
  refine ⟨hne, fun j => (placeAt (whereL a b) s r (t + j)).toNat, ?_, ?_⟩
  · intro j
    have hi := inside_law a b s r (t + j) h0 h1 h2 h3 (hge j)
    have := hge j
    have := hps j
    dsimp only
    refine ⟨by omega, by omega, by omega, by omega⟩
  · have key : ∀ i j : Nat, i ≤ j → (j : Int) < sizeN r → (t + (i : Int)) % sizeN r = (t + (j : Int)) % sizeN r → i = j := by
      intro i j hij hj he
      have hl := (round_law (t + i) (j - i) (sizeN r) hs4).1 (by rw [show t + (i : Int) + (j - i) = t + j by omega]; exact he)
      rw [Int.emod_eq_of_lt (by omega) (by omega)] at hl
      omega
    intro i j hi hj he
    have e1 := hge i
    have e2 := hge j
    have e3 := hps i
    have e4 := hps j
    have he' : (t + (i : Int)) % sizeN r = (t + (j : Int)) % sizeN r := by
      have : placeAt (whereL a b) s r (t + i) = placeAt (whereL a b) s r (t + j) := by
        have : (placeAt (whereL a b) s r (t + i)).toNat = (placeAt (whereL a b) s r (t + j)).toNat := he
        omega
      omega
    rcases Nat.le_total i j with h | h
    · exact key i j h hj he'
    · exact (key j i h hi he'.symm).symm
theorem ring_two (a b s r t : Int) (h0 : 1 ≤ a) (h1 : a ≤ 8) (h2 : 1 ≤ b) (h3 : b ≤ 64) (P Q : Nat → Nat) (hP : ∀ j : Nat, placeAt (whereL a b) s r (t + j) = P j) (hQ : ∀ j : Nat, placeAt (whereL a b) s (r + 1) (t + j) = Q j) (i j : Nat) : P i ≠ Q j := by
  intro e
  have f := whereL_fit a b h0 h1 h2 h3
  have h := apart_law (whereL a b) s r (t + i) s (r + 1) (t + j) f (by rw [hP i]; omega) (by rw [hP i, hQ j, e])
  omega
end Go.Proofs.Ytekibkfpamfmoaa
