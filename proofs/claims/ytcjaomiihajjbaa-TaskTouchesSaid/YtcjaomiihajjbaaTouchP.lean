/- What a step of a play touches, on the model. -/
import Derived.Test.YtcjaomiihajjbaaFew
namespace Go.Proofs.Ytcjaomiihajjbaa
open Go.RowKit

def ShapeT (op : Opr) (a : Acc) (t i : Int) : Prop :=
  (i = 1 ∧ a.kind = 4) ∨ (i = 1 ∧ a.kind = 2 ∧ a.new = 1) ∨ (op.kind = 11 ∧ i = 3) ∨ (op.kind = 11 ∧ a.kind = 2 ∧ a.new = 1 ∧ i = 0) ∨ (op.kind = 12 ∧ a.kind = 3 ∧ a.old = 1 ∧ a.new = 2 ∧ i = 0 ∧ t = op.a) ∨ (i = 2 ∧ t = op.a) ∨ (op.kind = 14 ∧ a.kind = 2 ∧ a.new = 3 ∧ i = 0 ∧ t = op.a) ∨ (i = 3 ∧ t = op.a)
/-- What an access of an operation is: of Count, of Done, or of a cell of a task. -/
def Shape (l : Ly) (op : Opr) (a : Acc) : Prop :=
  (a.cell = l.count ∧ a.kind = 4) ∨ (a.cell = l.done ∧ op.kind = 14) ∨ ∃ t i : Int, 1 ≤ t ∧ t ≤ l.c.tasks ∧ a.cell = l.task + (t - 1) * 4 + i ∧ ShapeT op a t i
theorem askM_all {log : List (Int × Bool)} {i : Nat} {k c o v k' c' o' v' : Int} {f : Int × Bool → Ans} {P : Int → Int → Int → Int → Prop} (h : askM log i k c o v f = .ask k' c' o' v') (h0 : P k c o v) (hf : ∀ x, log[i]? = some x → f x = .ask k' c' o' v' → P k' c' o' v') : P k' c' o' v' := by
  unfold askM at h
  cases hx : log[i]? with
  | none =>
    rw [hx] at h
    injection h with h1 h2 h3 h4
    subst h1 h2 h3 h4
    exact h0
  | some x =>
    rw [hx] at h
    exact hf x hx h
theorem taskAt_pos {l : Ly} {t i : Int} (h : 0 ≤ taskAt l t i) : 1 ≤ t ∧ t ≤ l.c.tasks ∧ taskAt l t i = l.task + (t - 1) * 4 + i := by
  unfold taskAt at h ⊢
  split at h
  · rename_i hc
    rw [if_pos hc]
    exact ⟨hc.1, hc.2.1, rfl⟩
  · omega
theorem shape_task {l : Ly} {op : Opr} {k o v t i : Int} (hs : ShapeT op ⟨k, taskAt l t i, o, v⟩ t i) : 0 ≤ taskAt l t i → Shape l op ⟨k, taskAt l t i, o, v⟩ := fun h => by
  obtain ⟨h1, h2, h3⟩ := taskAt_pos h
  exact .inr (.inr ⟨t, i, h1, h2, h3, hs⟩)
theorem next_shape {l : Ly} {op : Opr} {log : List (Int × Bool)} {k c o v : Int} (h : nextA l op log = .ask k c o v) : 0 ≤ c → Shape l op ⟨k, c, o, v⟩ := by
  unfold nextA nextM at h
  by_cases hz : taskAt l op.a 0 < 0
  · rw [if_pos hz] at h; cases h
  rw [if_neg hz] at h
  by_cases k1 : op.kind = 11
  · rw [if_pos k1] at h
    refine askM_all (P := fun k c o v => 0 ≤ c → Shape l op ⟨k, c, o, v⟩) h (fun _ => .inl ⟨rfl, rfl⟩) fun x _ h => ?_
    (try dsimp only at h)
    split at h
    · cases h
    refine askM_all (P := fun k c o v => 0 ≤ c → Shape l op ⟨k, c, o, v⟩) h (shape_task (.inr (.inr (.inl ⟨k1, rfl⟩)))) fun _ _ h => ?_
    refine askM_all (P := fun k c o v => 0 ≤ c → Shape l op ⟨k, c, o, v⟩) h (shape_task (.inr (.inl ⟨rfl, rfl, rfl⟩))) fun _ _ h => ?_
    refine askM_all (P := fun k c o v => 0 ≤ c → Shape l op ⟨k, c, o, v⟩) h (shape_task (.inl ⟨rfl, rfl⟩)) fun _ _ h => ?_
    refine askM_all (P := fun k c o v => 0 ≤ c → Shape l op ⟨k, c, o, v⟩) h (shape_task (.inr (.inr (.inr (.inl ⟨k1, rfl, rfl, rfl⟩))))) fun _ _ h => ?_
    cases h
  rw [if_neg k1] at h
  by_cases k2 : op.kind = 12
  · rw [if_pos k2] at h
    refine askM_all (P := fun k c o v => 0 ≤ c → Shape l op ⟨k, c, o, v⟩) h (shape_task (.inr (.inr (.inr (.inr (.inl ⟨k2, rfl, rfl, rfl, rfl, rfl⟩)))))) fun _ _ h => ?_
    cases h
  rw [if_neg k2] at h
  by_cases k3 : op.kind = 13
  · rw [if_pos k3] at h
    refine askM_all (P := fun k c o v => 0 ≤ c → Shape l op ⟨k, c, o, v⟩) h (shape_task (.inl ⟨rfl, rfl⟩)) fun x _ h => ?_
    (try dsimp only at h)
    split at h
    · refine askM_all (P := fun k c o v => 0 ≤ c → Shape l op ⟨k, c, o, v⟩) h (shape_task (.inr (.inl ⟨rfl, rfl, rfl⟩))) fun _ _ h => ?_
      cases h
    · cases h
  rw [if_neg k3] at h
  by_cases k4 : op.kind = 14
  · rw [if_pos k4] at h
    refine askM_all (P := fun k c o v => 0 ≤ c → Shape l op ⟨k, c, o, v⟩) h (shape_task (.inr (.inr (.inr (.inr (.inr (.inl ⟨rfl, rfl⟩))))))) fun _ _ h => ?_
    refine askM_all (P := fun k c o v => 0 ≤ c → Shape l op ⟨k, c, o, v⟩) h (shape_task (.inr (.inr (.inr (.inr (.inr (.inr (.inl ⟨k4, rfl, rfl, rfl, rfl⟩)))))))) fun _ _ h => ?_
    refine askM_all (P := fun k c o v => 0 ≤ c → Shape l op ⟨k, c, o, v⟩) h (shape_task (.inr (.inr (.inr (.inr (.inr (.inr (.inr ⟨rfl, rfl⟩)))))))) fun x _ h => ?_
    (try dsimp only at h)
    split at h
    · refine askM_all (P := fun k c o v => 0 ≤ c → Shape l op ⟨k, c, o, v⟩) h (fun _ => .inr (.inl ⟨rfl, k4⟩)) fun _ _ h => ?_
      cases h
    · refine askM_all (P := fun k c o v => 0 ≤ c → Shape l op ⟨k, c, o, v⟩) h (shape_task (.inl ⟨rfl, rfl⟩)) fun x _ h => ?_
      dsimp only at h
      split at h
      · refine askM_all (P := fun k c o v => 0 ≤ c → Shape l op ⟨k, c, o, v⟩) h (shape_task (.inr (.inl ⟨rfl, rfl, rfl⟩))) fun _ _ h => ?_
        cases h
      · cases h
  rw [if_neg k4] at h
  by_cases k5 : op.kind = 15
  · rw [if_pos k5] at h
    refine askM_all (P := fun k c o v => 0 ≤ c → Shape l op ⟨k, c, o, v⟩) h (shape_task (.inr (.inr (.inr (.inr (.inr (.inl ⟨rfl, rfl⟩))))))) fun _ _ h => ?_
    cases h
  rw [if_neg k5] at h
  cases h
def StepOk (l : Ly) (st : StepM) : Prop := st.done = true ∨ (st.done = false ∧ Shape l st.op st.acc)
theorem turn_steps {l : Ly} {want : List (List Opr)} {who : Nat} {s s' : PSt} (h : turnP l want who s = some s') (hs : ∀ st ∈ s.out, StepOk l st) : ∀ st ∈ s'.out, StepOk l st := by
  unfold turnP at h
  cases hx : s.seats[who]? with
  | none => rw [hx] at h; injection h with h; subst h; exact hs
  | some x =>
    rw [hx] at h
    (try dsimp only at h)
    cases ho : (want.getD who [])[x.1]? with
    | none => rw [ho] at h; injection h with h; subst h; exact hs
    | some op =>
      rw [ho] at h
      dsimp only at h
      cases hn : nextA l op x.2 with
      | out val is err point =>
        rw [hn] at h
        injection h with h
        subst h
        intro st hst
        rcases List.mem_append.1 hst with hst | hst
        · exact hs st hst
        · simp at hst
          subst hst
          exact .inl rfl
      | ask k c o v =>
        rw [hn] at h
        dsimp only at h
        split at h
        · rename_i he
          injection h with h
          subst h
          intro st hst
          rcases List.mem_append.1 hst with hst | hst
          · exact hs st hst
          · simp at hst
            subst hst
            exact .inr ⟨rfl, next_shape hn (Acc.err_ok he).2.1⟩
        · cases h
theorem run_steps {l : Ly} {want : List (List Opr)} (ws : List Nat) : ∀ {s : PSt}, (∀ st ∈ s.out, StepOk l st) → ∀ st ∈ (runP l want s ws).1.out, StepOk l st := by
  induction ws with
  | nil => intro s h; exact h
  | cons w ws ih =>
    intro s h
    simp only [runP]
    rcases hh : turnP l want w s with _ | s2
    · exact h
    · exact ih (turn_steps hh h)
end Go.Proofs.Ytcjaomiihajjbaa
