/- An order of a play's operations. No program in sight. -/
import Derived.Test.YtdjglkpcdhkodaaDqEnd
namespace Go.Proofs.Ytdjglkpcdhkodaa
open Go.RowKit
set_option linter.unusedVariables false

/-- Is no other over before this one begins? -/
def firstOk (l : List DoneD) (d : DoneD) : Bool := l.all fun x => decide (d.first ≤ x.last)
/-- Is there an order by which a row answers each? -/
def orderM : Nat → List DoneD → List Int → Bool
  | 0, l, _ => l.isEmpty
  | k + 1, l, row => l.isEmpty || (List.range l.length).any fun i => match l[i]? with
    | some d => firstOk l d && (fitsM row d).2 && orderM k (l.eraseIdx i) (fitsM row d).1
    | none => false
theorem perm_erase : ∀ (l : List DoneD) {i : Nat} (h : i < l.length), l.Perm (l[i] :: l.eraseIdx i) := by
  intro l
  induction l with
  | nil => intro i h; exact absurd h (by simp)
  | cons x l ih =>
    intro i h
    cases i with
    | zero => exact List.Perm.refl _
    | succ i =>
      have hi : i < l.length := by simpa using h
      simp only [List.getElem_cons_succ, List.eraseIdx_cons_succ]
      exact (List.Perm.cons x (ih hi)).trans (List.Perm.swap _ _ _)
theorem order_true : ∀ (es : List Ent) (k : Nat) (l : List DoneD) (row r : List Int), rep row es = some r → (es.map (·.1)).Perm l → es.Pairwise (fun e e' => e.2 ≤ e'.2) → (∀ e ∈ es, e.1.first ≤ e.2 ∧ e.2 ≤ e.1.last) → l.length ≤ k → orderM k l row = true := by
  intro es
  induction es with
  | nil =>
    intro k l row r _ hp _ _ _
    have : l = [] := by simpa using hp
    subst this
    cases k <;> rfl
  | cons e es ih =>
    intro k l row r hr hp hs hi hk
    have hmem : e.1 ∈ l := hp.subset (by simp)
    obtain ⟨i, hil, hie⟩ := List.getElem_of_mem hmem
    cases k with
    | zero => exact absurd hil (by omega)
    | succ k =>
      simp only [rep] at hr
      split at hr
      · rename_i hf
        rw [List.pairwise_cons] at hs
        have hgi : l[i]? = some e.1 := by rw [List.getElem?_eq_getElem hil, hie]
        have hfirst : firstOk l e.1 = true := by
          unfold firstOk
          rw [List.all_eq_true]
          intro x hx
          have hx2 : x ∈ (e :: es).map (·.1) := hp.symm.subset hx
          rw [List.mem_map] at hx2
          obtain ⟨f, hfm, rfl⟩ := hx2
          have h1 := (hi e (by simp)).1
          have h2 := (hi f hfm).2
          have h3 : e.2 ≤ f.2 := by
            rcases List.mem_cons.1 hfm with rfl | hfm
            · exact Nat.le_refl _
            · exact hs.1 f hfm
          simp only [decide_eq_true_eq]
          omega
        have hper : (es.map (·.1)).Perm (l.eraseIdx i) := by
          have h1 : l.Perm (l[i] :: l.eraseIdx i) := perm_erase l hil
          rw [hie] at h1
          have h2 := hp.trans h1
          rw [List.map_cons] at h2
          exact List.Perm.cons_inv h2
        have hrest := ih k (l.eraseIdx i) _ r hr hper hs.2 (fun f hf => hi f (by simp [hf])) (by rw [List.length_eraseIdx_of_lt hil]; omega)
        simp only [orderM, Bool.or_eq_true]
        right
        rw [List.any_eq_true]
        refine ⟨i, List.mem_range.2 hil, ?_⟩
        rw [hgi]
        simp only [hfirst, hf, hrest, Bool.and_self]
      · cases hr
/-- The play's own list of what is not refused. -/
theorem lin_ok {l : Ly} {sz : Nat} {t : TabD} (h : EndOk l sz [] t) {k : Nat} (hk : (t.done.filter fun d => decide (d.err ≠ 9)).length ≤ k) : orderM k (t.done.filter fun d => decide (d.err ≠ 9)) [] = true := by
  obtain ⟨es, e1, e2, e3, e4⟩ := h.li
  exact order_true es k _ [] _ e1 e2 e3 e4 hk
theorem fits_row {row : List Int} {d : DoneD} : (fitsM row d).1.length ≤ row.length + 1 := by
  unfold fitsM
  repeat' split
  all_goals simp
  all_goals omega
end Go.Proofs.Ytdjglkpcdhkodaa
