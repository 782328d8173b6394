/- The arena's plain law: the beginning of a play, and the whole play. -/
import Derived.Test.YtbcgjolcfagboaaArT
import Derived.Test.YtbcgjolcfagboaaBeg
import Derived.Test.YtbcgjolcfagboaaWhere
namespace Go.Proofs.Ytbcgjolcfagboaa
open Go.RowKit
set_option linter.unusedVariables false

def startA (l : Ly) (n : Nat) : TabA × List StepA := (⟨beginM l, List.replicate n seat0⟩, [])
def gh0 : GhA := ⟨fun _ => false, 0, fun _ => 0⟩
def upTo (k : Nat) : List Int := (List.range k).map fun (j : Nat) => (j : Int) + 1
theorem count_upTo (v : Int) : ∀ k : Nat, (upTo k).count v = if 1 ≤ v ∧ v ≤ k then 1 else 0 := by
  intro k
  induction k with
  | zero =>
    rw [if_neg (by omega)]
    rfl
  | succ k ih =>
    have e : upTo (k + 1) = upTo k ++ [(k : Int) + 1] := by simp [upTo, List.range_succ]
    rw [e, List.count_append, ih]
    simp only [List.count_cons, List.count_nil, beq_iff_eq]
    by_cases h1 : (k : Int) + 1 = v
    · rw [if_neg (by omega), if_pos h1, if_pos (by omega)]
    · rw [if_neg h1]
      by_cases h2 : 1 ≤ v ∧ v ≤ (k : Int)
      · rw [if_pos h2, if_pos (by omega)]
      · rw [if_neg h2, if_neg (by omega)]
theorem sumc_start (f : SeatA → List Int) (hf : f seat0 = []) (v : Int) : ∀ n, sumc f v (List.replicate n seat0) = 0
  | 0 => rfl
  | n + 1 => by simp [List.replicate_succ, sumc, hf, sumc_start f hf v n]
def chainB (k : Int → Int) : List Int → Bool
  | [] => true
  | a :: r => k a == r.headD 0 && chainB k r
theorem chainB_spec {k : Int → Int} : ∀ {L}, chainB k L = true → Chain k L
  | [], _ => trivial
  | a :: r, h => by
    simp only [chainB, Bool.and_eq_true, beq_iff_eq] at h
    exact ⟨h.1, chainB_spec h.2⟩
/-- All that is asked of a layout and its beginning, by counting. -/
def layB (l : Ly) : Bool :=
  decide (1 ≤ l.c.nodes ∧ l.c.nodes ≤ 6) && decide (0 ≤ l.free ∧ l.free < l.node) && decide (0 ≤ l.era ∧ l.era < l.node ∧ l.era ≠ l.free) && decide (l.node + l.c.nodes * 8 ≤ (beginM l).length ∧ (beginM l).length ≤ 1000) &&
  decide (freeOf l (beginM l) = packI ((upTo l.c.nodes.toNat).headD 0) false 0) && chainB (linkOf l (beginM l)) (upTo l.c.nodes.toNat) && ((upTo l.c.nodes.toNat).all fun a => decide (0 ≤ linkOf l (beginM l) a ∧ linkOf l (beginM l) a ≤ l.c.nodes)) &&
  decide (4 ≤ l.size ∧ l.size ≤ 1000) && decide (allErr (List.replicate l.size.toNat 0) (initA l) = 0)
theorem layB_play (n : Nat) (t : Int) (h1 : 1 ≤ n) (h2 : n ≤ 3) : layB (playL n t) = true := by
  have m0 : 0 ≤ t % 6 := Int.emod_nonneg _ (by omega)
  have m1 : t % 6 < 6 := Int.emod_lt_of_pos _ (by omega)
  have hn : n = 1 ∨ n = 2 ∨ n = 3 := by omega
  unfold playL playCf
  generalize t % 6 = r at *
  have hr : r = 0 ∨ r = 1 ∨ r = 2 ∨ r = 3 ∨ r = 4 ∨ r = 5 := by omega
  rcases hn with rfl | rfl | rfl <;> rcases hr with rfl | rfl | rfl | rfl | rfl | rfl <;> decide +kernel
theorem mem_upTo {a : Int} {k : Nat} : a ∈ upTo k ↔ 1 ≤ a ∧ a ≤ k := by
  simp only [upTo, List.mem_map, List.mem_range]
  constructor
  · rintro ⟨j, hj, rfl⟩; omega
  · intro h; exact ⟨(a - 1).toNat, by omega, by omega⟩
structure LayOk (l : Ly) : Prop where
  lay : ALay l (beginM l).length
  ai : ∀ n, AI l (beginM l).length (startA l n).1 (upTo l.c.nodes.toNat) 0
  sz : 4 ≤ l.size ∧ l.size ≤ 1000
  err : allErr (List.replicate l.size.toNat 0) (initA l) = 0
theorem layOk_of {l : Ly} (h : layB l = true) : LayOk l := by
  simp only [layB, Bool.and_eq_true, decide_eq_true_eq, List.all_eq_true] at h
  obtain ⟨⟨⟨⟨⟨⟨⟨⟨a1, a2⟩, a3⟩, a4⟩, a5⟩, a6⟩, a7⟩, a8⟩, a9⟩ := h
  have hN : ((l.c.nodes.toNat : Nat) : Int) = l.c.nodes := by omega
  refine ⟨⟨a1, a2, a3, by omega⟩, fun n => ⟨rfl, a5, chainB_spec a6, fun v => ?_, fun a ha => a7 a (mem_upTo.2 (by omega)), fun s hs => ?_⟩, a8, a9⟩
  · rw [count_upTo, hN, show (startA l n).1.seats = List.replicate n seat0 from rfl, sumc_start _ rfl, Nat.add_zero]
  · have := (List.mem_replicate.1 hs).2
    subst this
    exact ⟨.inl rfl, trivial, by decide⟩
theorem start_run {l : Ly} (h : LayOk l) (n : Nat) : RunOk l (beginM l).length n gh0 0 (startA l n) := by
  refine ⟨⟨_, h.ai n⟩, ⟨fun v => ?_, fun k s x hs hx => ?_⟩, by simp [startA], ⟨fun s hs => ?_⟩, fun j st hj => by simp [startA] at hj, Nat.le_refl _, Nat.le_refl _⟩
  · rw [show (startA l n).1.seats = List.replicate n seat0 from rfl, sumc_start _ rfl]
    simp [gRun, gh0, startA]
  · have := (List.mem_replicate.1 (List.mem_of_getElem? hs)).2
    subst this
    cases hx
  · have := (List.mem_replicate.1 hs).2
    subst this
    decide
theorem run_ok {l : Ly} (h : LayOk l) (n : Nat) (want : List (List Nat)) (ws : List Nat) (hw : ∀ w ∈ ws, w < n) (hl : ws.length ≤ 1000) : RunOk l (beginM l).length n gh0 ws.length (runA l want (startA l n) ws) := by
  have := (start_run h n).run h.lay want ws hw (by omega)
  rwa [Nat.zero_add] at this
theorem whosA_lt {n : Nat} (hn : 1 ≤ n) (turns : List Nat) : ∀ w ∈ whosA n turns, w < n := by
  intro w hw
  simp only [whosA, List.mem_append, List.mem_map, List.mem_flatMap, List.mem_range, List.mem_replicate] at hw
  rcases hw with ⟨x, _, rfl⟩ | ⟨k, hk, _, rfl⟩
  · exact Nat.mod_lt _ hn
  · exact hk
theorem sixty_length (n : Nat) : ((List.range n).flatMap fun k => List.replicate 60 k).length = n * 60 := by
  induction n with
  | zero => rfl
  | succ n ih => rw [List.range_succ, List.flatMap_append, List.length_append, ih]; simp; omega
theorem whosA_length (n : Nat) (turns : List Nat) : (whosA n turns).length = turns.length + n * 60 := by
  unfold whosA
  rw [List.length_append, List.length_map, sixty_length]
def endA (l : Ly) (n : Nat) (want : List (List Nat)) (turns : List Nat) : TabA × List StepA := runA l want (startA l n) (whosA n turns)
/-- The end of a play: all is as it should be, and each seat has ended. -/
theorem end_ok {l : Ly} (h : LayOk l) (n : Nat) (want : List (List Nat)) (turns : List Nat) (hn : 1 ≤ n) (h3 : n ≤ 3) (hm : turns.length ≤ 200) (hw : ∀ xs ∈ want, xs.length ≤ 6) :
    RunOk l (beginM l).length n gh0 (turns.length + n * 60) (endA l n want turns) ∧ ∀ j, j < n → ∃ s, (endA l n want turns).1.seats[j]? = some s ∧ Fin (want.getD j []) s := by
  have h1 := run_ok h n want (turns.map (· % n)) (fun w hw => by simp at hw; obtain ⟨x, _, rfl⟩ := hw; exact Nat.mod_lt _ hn) (by simp; omega)
  rw [List.length_map] at h1
  have hwl : ∀ k, (want.getD k []).length ≤ 6 := by
    intro k
    rw [List.getD_eq_getElem?_getD]
    cases e : want[k]? with
    | none => simp
    | some xs => exact hw xs (List.mem_of_getElem? e)
  have h2 := all_turns h.lay want hwl n h1 (by omega) (Nat.le_refl _)
  rw [← runA_append] at h2
  exact h2
end Go.Proofs.Ytbcgjolcfagboaa
