/- TaskClaims: the memory in the beginning; what is wanted. -/
import Derived.Test.YtcjaomiihajjbaaClaimR
import Derived.Test.YtcjaomiihajjbaaNums
namespace Go.Proofs.Ytcjaomiihajjbaa
open Go.RowKit
set_option linter.unusedVariables false

/-- The tasks from 2 to n + 1 are ready. -/
def readyM (l : Ly) : Nat → List Int
  | 0 => beginM l
  | n + 1 => (⟨2, taskAt l (2 + n) 0, 0, 1⟩ : Acc).make (readyM l n)
theorem readyM_length (l : Ly) (n : Nat) : (readyM l n).length = (beginM l).length := by
  induction n with
  | zero => rfl
  | succ n ih => rw [readyM, Acc.make_length, ih]
theorem readyM_get {l : Ly} (h : TkOk l) (n : Nat) (hn : 1 + (n : Int) ≤ l.c.tasks) : ∀ t : Int, 1 ≤ t → t ≤ l.c.tasks → (readyM l n).getD (taskAt l t 0).toNat 0 = if 2 ≤ t ∧ t < 2 + (n : Int) then 1 else if t = 1 then 2 else 0 := by
  obtain ⟨_, _, e3, e4, e5⟩ := begin_get h
  induction n with
  | zero =>
    intro t t1 t2
    rw [if_neg (by omega)]
    by_cases ht : t = 1
    · rw [if_pos ht, ht]
      exact e5
    · rw [if_neg ht]
      exact e4 t (by omega) t2
  | succ n ih =>
    intro t t1 t2
    rw [readyM, make_store]
    have hl : (((readyM l n).length : Nat) : Int) = l.size := by rw [readyM_length]; exact e3
    have q := task_lt h hl (2 + n) 0 (by omega) (by omega) (by omega) (by omega)
    by_cases ht : t = 2 + n
    · subst ht
      rw [getD_set_self (by omega), if_pos (by omega)]
    · rw [getD_set_ne (fun e => ht (by
        have := (cells_apart h (2 + n) 0 t 0 (by omega) (by omega) t1 t2 (by omega) (by omega) (by omega) (by omega)).1 e
        omega)), ih (by omega) t t1 t2]
      by_cases h2 : 2 ≤ t ∧ t < 2 + (n : Int)
      · have h3 : 2 ≤ t ∧ t < 2 + ((n + 1 : Nat) : Int) := by omega
        rw [if_pos h2, if_pos h3]
      · have h3 : ¬ (2 ≤ t ∧ t < 2 + ((n + 1 : Nat) : Int)) := by omega
        rw [if_neg h2, if_neg h3]
theorem readyM_inR {l : Ly} (n : Nat) : ∀ z ∈ readyM l n, inR z := by
  induction n with
  | zero => exact (start_inv l 3).mr
  | succ n ih =>
    intro z hz
    rw [readyM] at hz
    rcases Acc.make_mem hz with hz | rfl
    · exact ih z hz
    · simp only [Acc.next]
      exact ⟨by simp, by simp⟩
def claim0 (l : Ly) (n : Nat) : PSt := ⟨readyM l n, List.replicate 3 (0, []), []⟩
theorem claim0_inv {l : Ly} (n : Nat) : PInv 3 (claim0 l n).m.length 0 (claim0 l n) := by
  refine ⟨by simp [claim0], rfl, readyM_inR n, fun x hx r hr => ?_, fun x hx => ?_, fun x hx => ?_, by simp [claim0]⟩
  · simp only [claim0, List.mem_replicate] at hx; rw [hx.2] at hr; simp at hr
  · simp only [claim0, List.mem_replicate] at hx; rw [hx.2]; simp
  · simp only [claim0, List.mem_replicate] at hx; rw [hx.2]; simp
theorem claim0_cinv {l : Ly} (h : TkOk l) (n : Nat) (hn : 1 + (n : Int) ≤ l.c.tasks) (want : List (List Opr)) : CInv l n want (claim0 l n) := by
  obtain ⟨_, _, e3, _⟩ := begin_get h
  refine ⟨by simp only [claim0]; rw [readyM_length]; exact e3, fun t t1 t2 t3 => .inl ⟨rfl, ?_, rfl⟩, fun t t1 t2 t3 => ⟨?_, rfl⟩, fun k x hk => ?_, fun st hst => by simp [claim0] at hst⟩
  · simp only [claim0]
    rw [readyM_get h n hn t (by omega) t3, if_pos ⟨t1, t2⟩]
  · simp only [claim0]
    rw [readyM_get h n hn t t1 t2, if_neg t3]
    split <;> omega
  · simp only [claim0, List.getElem?_replicate] at hk
    split at hk
    · injection hk with hk
      subst hk
      refine ⟨by simp, fun t => ⟨?_, ?_⟩⟩
      · have : pA want k (0, []) t = 0 := by unfold pA; split <;> simp
        rw [this]
        rfl
      · have : pW want k (0, []) t = 0 := by unfold pW; split <;> simp
        rw [this]
        rfl
    · cases hk
/-- What a seat wants: claims of the tasks that its bytes name. -/
def cls (l : List Nat) : List Opr := l.map fun x => clOp (1 + ((x % 8 : Nat) : Int))
theorem cls_snoc (l : List Nat) (x : Nat) : cls (l ++ [x]) = cls l ++ [clOp (1 + ((x % 8 : Nat) : Int))] := by simp [cls]
theorem cls_ok (l : List Nat) : ∀ op ∈ cls l, ∃ a : Int, op = clOp a ∧ 1 ≤ a ∧ a ≤ 8 := by
  intro op h
  obtain ⟨x, _, rfl⟩ := List.mem_map.1 h
  exact ⟨_, rfl, by omega, by omega⟩
end Go.Proofs.Ytcjaomiihajjbaa
