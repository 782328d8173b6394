/- The chapter's example, on the model. -/
import Derived.Test.YtcjaomiihajjbaaWords
namespace Go.Proofs.Ytcjaomiihajjbaa
open Go.RowKit

def toldM (l : List StepM) : List Int := (l.filter (·.done)).map fun s => 10 * s.val + if s.is then 1 else 0
theorem toldM_snoc (l : List StepM) (s : StepM) : toldM (l ++ [s]) = toldM l ++ if s.done then [10 * s.val + if s.is then 1 else 0] else [] := by
  unfold toldM
  rw [List.filter_append, List.map_append]
  by_cases h : s.done <;> simp [h]
theorem toldM_length (l : List StepM) : (toldM l).length ≤ l.length := by
  unfold toldM
  rw [List.length_map]
  exact List.length_filter_le _ _
def awakeW : List (List Opr) := [[⟨11, 0, 1, 0⟩, ⟨12, 0, 2, 0⟩, ⟨12, 0, 2, 0⟩, ⟨13, 0, 1, 0⟩, ⟨14, 0, 2, 7⟩, ⟨15, 0, 2, 0⟩, ⟨11, 0, 1, 0⟩]]
def awakeS : PSt := (runP (playL 1 0) awakeW (startP (playL 1 0) 1 (beginM (playL 1 0))) (whosP 1 [])).1
theorem awake_told : toldM awakeS.out = [21, 1, 0, 0, 10, 71, 0] := by decide +kernel
theorem awake_words : wordsM (playL 1 0) awakeS.m 2 = [2, 3] := by decide +kernel
theorem awake_joins : cellN awakeS.m (taskAt (playL 1 0) 1 1) = 1 := by decide +kernel
theorem awake_done : cellN awakeS.m (playL 1 0).done = 0 := by decide +kernel
theorem awake_len : (awakeS.m.length : Int) = (playL 1 0).size := by decide +kernel
theorem awake_out : awakeS.out.length ≤ 100 := by decide +kernel
theorem awake_vals0 : (awakeS.out.all fun s => decide (-1000 ≤ s.val) && decide (s.val ≤ 1000)) = true := by decide +kernel
theorem awake_vals : ∀ s ∈ awakeS.out, -1000 ≤ s.val ∧ s.val ≤ 1000 := by
  intro s hs
  have h := List.all_eq_true.1 awake_vals0 s hs
  simpa using h
theorem awake_tasks : (playL 1 0).c.tasks = 2 := by decide +kernel
theorem awakeW_ok : WantOk awakeW := by
  intro ops ho op h
  simp [awakeW] at ho
  subst ho
  simp at h
  rcases h with rfl | rfl | rfl | rfl | rfl | rfl <;> exact ⟨⟨by decide, by decide⟩, ⟨by decide, by decide⟩⟩
theorem slInt_own {w : World} {base n cap : Nat} {G : Option Addr} {zs : List Int} (h : OwnInts w base (.slice G n cap) zs) : SlInt w w.heap.size G zs := by
  intro hl
  obtain ⟨g, cap', he, _, hg⟩ := World.ownsRow.form h hl
  injection he with he hn _
  subst he hn
  refine ⟨g, 0, rfl, hg, fun k x hk => ?_⟩
  have hkl := (List.getElem?_eq_some_iff.1 hk).1
  rw [Nat.zero_add, World.ownsRow.cellAt h k (by omega)]
  simp [ints, hk]
end Go.Proofs.Ytcjaomiihajjbaa
