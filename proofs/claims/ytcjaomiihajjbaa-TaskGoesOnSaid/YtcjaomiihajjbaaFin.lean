/- Each seat's operations end within sixty turns, on the model. -/
import Derived.Test.YtcjaomiihajjbaaPlayM
namespace Go.Proofs.Ytcjaomiihajjbaa
open Go.RowKit
set_option linter.unusedVariables false

theorem askM_len {log : List (Int × Bool)} {i : Nat} {k c o v k' c' o' v' : Int} {f : Int × Bool → Ans} (h : askM log i k c o v f = .ask k' c' o' v') (hi : i ≤ 4) (hf : ∀ x, f x = .ask k' c' o' v' → log.length ≤ 4) : log.length ≤ 4 := by
  unfold askM at h
  cases hx : log[i]? with
  | none => have := List.getElem?_eq_none_iff.1 hx; omega
  | some x => rw [hx] at h; exact hf x h
theorem nextA_len {l : Ly} {op : Opr} {log : List (Int × Bool)} {k c o v : Int} (h : nextA l op log = .ask k c o v) : log.length ≤ 4 := by
  unfold nextA nextM at h
  repeat' split at h
  · cases h
  · refine askM_len h (by omega) fun x h => ?_
    split at h
    · cases h
    refine askM_len h (by omega) fun x h => ?_
    refine askM_len h (by omega) fun x h => ?_
    refine askM_len h (by omega) fun x h => ?_
    refine askM_len h (by omega) fun x h => ?_
    cases h
  · refine askM_len h (by omega) fun x h => ?_
    cases h
  · refine askM_len h (by omega) fun x h => ?_
    split at h
    · refine askM_len h (by omega) fun x h => ?_
      cases h
    · cases h
  · refine askM_len h (by omega) fun x h => ?_
    refine askM_len h (by omega) fun x h => ?_
    refine askM_len h (by omega) fun x h => ?_
    split at h
    · refine askM_len h (by omega) fun x h => ?_
      cases h
    · refine askM_len h (by omega) fun x h => ?_
      split at h
      · refine askM_len h (by omega) fun x h => ?_
        cases h
      · cases h
  · refine askM_len h (by omega) fun x h => ?_
    cases h
  · cases h
/-- Where a seat may be: no log behind its last operation. -/
def SInv (want : List (List Opr)) (seats : List (Nat × List (Int × Bool))) : Prop := ∀ k x, seats[k]? = some x → x.2.length ≤ 5 ∧ x.1 ≤ (want.getD k []).length ∧ (x.1 = (want.getD k []).length → x.2 = [])
def remS (want : List (List Opr)) (k : Nat) (x : Nat × List (Int × Bool)) : Nat := 6 * ((want.getD k []).length - x.1) - x.2.length
theorem turn_rem {l : Ly} {want : List (List Opr)} {who : Nat} {s s' : PSt} (h : turnP l want who s = some s') (hi : SInv want s.seats) :
    SInv want s'.seats ∧ s'.seats.length = s.seats.length ∧ ∀ k x', s'.seats[k]? = some x' → ∃ x, s.seats[k]? = some x ∧ (k ≠ who → x' = x) ∧ (k = who → remS want k x' ≤ remS want k x - 1) := by
  unfold turnP at h
  cases hx : s.seats[who]? with
  | none =>
    rw [hx] at h
    injection h with h
    subst h
    exact ⟨hi, rfl, fun k x' hk => ⟨x', hk, fun _ => rfl, fun e => by subst e; rw [hx] at hk; cases hk⟩⟩
  | some x =>
    obtain ⟨g1, g2, g3⟩ := hi who x hx
    have hlt : who < s.seats.length := (List.getElem?_eq_some_iff.1 hx).1
    rw [hx] at h
    dsimp only at h
    cases ho : (want.getD who [])[x.1]? with
    | none =>
      rw [ho] at h
      injection h with h
      subst h
      have hge := List.getElem?_eq_none_iff.1 ho
      refine ⟨hi, rfl, fun k x' hk => ⟨x', hk, fun _ => rfl, fun e => ?_⟩⟩
      subst e
      rw [hx] at hk
      injection hk with hk
      subst hk
      unfold remS
      omega
    | some op =>
      have hlen : x.1 < (want.getD who []).length := (List.getElem?_eq_some_iff.1 ho).1
      rw [ho] at h
      dsimp only at h
      have key : ∀ y : Nat × List (Int × Bool), (y.2.length ≤ 5 ∧ y.1 ≤ (want.getD who []).length ∧ (y.1 = (want.getD who []).length → y.2 = [])) → remS want who y ≤ remS want who x - 1 → SInv want (s.seats.set who y) ∧ (s.seats.set who y).length = s.seats.length ∧ ∀ k x', (s.seats.set who y)[k]? = some x' → ∃ x, s.seats[k]? = some x ∧ (k ≠ who → x' = x) ∧ (k = who → remS want k x' ≤ remS want k x - 1) := by
        intro y hy hr
        refine ⟨fun k x' hk => ?_, by simp, fun k x' hk => ?_⟩
        · by_cases e : k = who
          · subst e
            rw [List.getElem?_set_self hlt] at hk
            injection hk with hk
            subst hk
            exact hy
          · rw [List.getElem?_set_ne (fun e' => e e'.symm)] at hk
            exact hi k x' hk
        · by_cases e : k = who
          · subst e
            rw [List.getElem?_set_self hlt] at hk
            injection hk with hk
            subst hk
            exact ⟨x, hx, fun h => absurd rfl h, fun _ => hr⟩
          · rw [List.getElem?_set_ne (fun e' => e e'.symm)] at hk
            exact ⟨x', hk, fun _ => rfl, fun h => absurd h e⟩
      cases hn : nextA l op x.2 with
      | out val is err point =>
        rw [hn] at h
        injection h with h
        subst h
        refine key (x.1 + 1, []) ⟨by simp, by dsimp only; omega, fun _ => rfl⟩ ?_
        unfold remS
        simp only [List.length_nil]
        omega
      | ask kk c o v =>
        have h4 := nextA_len hn
        rw [hn] at h
        dsimp only at h
        split at h
        · injection h with h
          subst h
          refine key (x.1, x.2 ++ [_]) ⟨by simp; omega, g2, fun e => by dsimp only at e; omega⟩ ?_
          unfold remS
          simp only [List.length_append, List.length_singleton]
          omega
        · cases h
theorem run_rem {l : Ly} {want : List (List Opr)} {who : Nat} (n : Nat) : ∀ {s s' : PSt}, SInv want s.seats → runP l want s (List.replicate n who) = (s', false) →
    SInv want s'.seats ∧ s'.seats.length = s.seats.length ∧ ∀ k x', s'.seats[k]? = some x' → ∃ x, s.seats[k]? = some x ∧ (k ≠ who → x' = x) ∧ (k = who → remS want k x' ≤ remS want k x - n) := by
  induction n with
  | zero =>
    intro s s' hi h
    simp only [List.replicate_zero, runP, Prod.mk.injEq, and_true] at h
    subst h
    exact ⟨hi, rfl, fun k x' hk => ⟨x', hk, fun _ => rfl, fun _ => by omega⟩⟩
  | succ n ih =>
    intro s s' hi h
    simp only [List.replicate_succ, runP] at h
    rcases hh : turnP l want who s with _ | s2
    · rw [hh] at h; cases h
    · rw [hh] at h
      obtain ⟨a1, a2, a3⟩ := turn_rem hh hi
      obtain ⟨b1, b2, b3⟩ := ih a1 h
      refine ⟨b1, b2.trans a2, fun k x' hk => ?_⟩
      obtain ⟨y, hy, c1, c2⟩ := b3 k x' hk
      obtain ⟨x, hx, d1, d2⟩ := a3 k y hy
      exact ⟨x, hx, fun e => (c1 e).trans (d1 e), fun e => by have := c2 e; have := d2 e; omega⟩
theorem run_inv {l : Ly} {want : List (List Opr)} (ws : List Nat) : ∀ {s s' : PSt} {b : Bool}, SInv want s.seats → runP l want s ws = (s', b) → SInv want s'.seats ∧ s'.seats.length = s.seats.length := by
  induction ws with
  | nil =>
    intro s s' b hi h
    simp only [runP, Prod.mk.injEq] at h
    rw [← h.1]
    exact ⟨hi, rfl⟩
  | cons w ws ih =>
    intro s s' b hi h
    simp only [runP] at h
    rcases hh : turnP l want w s with _ | s2
    · rw [hh] at h
      simp only [Prod.mk.injEq] at h
      rw [← h.1]
      exact ⟨hi, rfl⟩
    · rw [hh] at h
      obtain ⟨a1, a2, _⟩ := turn_rem hh hi
      obtain ⟨b1, b2⟩ := ih a1 h
      exact ⟨b1, b2.trans a2⟩
theorem whosP_3 (turns : List Nat) : whosP 3 turns = turns.map (· % 3) ++ (List.replicate 60 0 ++ (List.replicate 60 1 ++ List.replicate 60 2)) := by
  unfold whosP
  congr 1
/-- Behind a play of three seats each has ended. -/
theorem all_ended {l : Ly} {want : List (List Opr)} {turns : List Nat} {s s' : PSt} (hi : SInv want s.seats) (h3 : s.seats.length = 3) (hw : ∀ k, (want.getD k []).length ≤ 7) (h : runP l want s (whosP 3 turns) = (s', false)) :
    s'.seats.length = 3 ∧ ∀ k x, s'.seats[k]? = some x → x.1 = (want.getD k []).length ∧ x.2 = [] := by
  rw [whosP_3] at h
  have hp : ∀ ws ws' : List Nat, ∀ s s' : PSt, runP l want s (ws ++ ws') = (s', false) → ∃ s2, runP l want s ws = (s2, false) ∧ runP l want s2 ws' = (s', false) := by
    intro ws ws'
    induction ws with
    | nil => intro s s' h; exact ⟨s, rfl, h⟩
    | cons w ws ih =>
      intro s s' h
      simp only [List.cons_append, runP] at h ⊢
      rcases hh : turnP l want w s with _ | s2
      · rw [hh] at h; cases h
      · rw [hh] at h
        exact ih s2 s' h
  obtain ⟨s1, r1, h⟩ := hp _ _ _ _ h
  obtain ⟨s2, r2, h⟩ := hp _ _ _ _ h
  obtain ⟨s3, r3, r4⟩ := hp _ _ _ _ h
  obtain ⟨i1, n1⟩ := run_inv _ hi r1
  obtain ⟨i2, n2, e2⟩ := run_rem 60 i1 r2
  obtain ⟨i3, n3, e3⟩ := run_rem 60 i2 r3
  obtain ⟨i4, n4, e4⟩ := run_rem 60 i3 r4
  refine ⟨by omega, fun k x hk => ?_⟩
  obtain ⟨g1, g2, g3⟩ := i4 k x hk
  have hlt : k < 3 := by have := (List.getElem?_eq_some_iff.1 hk).1; omega
  obtain ⟨x3, hx3, a4, b4⟩ := e4 k x hk
  obtain ⟨x2, hx2, a3, b3⟩ := e3 k x3 hx3
  obtain ⟨x1, hx1, a2, b2⟩ := e2 k x2 hx2
  have hrem : ∀ y, remS want k y ≤ 42 := fun y => by
    unfold remS
    have := hw k
    omega
  have h0 : remS want k x = 0 := by
    have r1 := hrem x1
    have r2 := hrem x2
    have r3 := hrem x3
    have hk3 : k = 0 ∨ k = 1 ∨ k = 2 := by omega
    rcases hk3 with rfl | rfl | rfl
    · rw [a4 (by omega), a3 (by omega)]
      have := b2 rfl
      omega
    · rw [a4 (by omega)]
      have := b3 rfl
      omega
    · have := b4 rfl
      omega
  have : x.1 = (want.getD k []).length := by
    unfold remS at h0
    omega
  exact ⟨this, g3 this⟩
theorem start_sinv (l : Ly) (n : Nat) (m : List Int) (want : List (List Opr)) : SInv want (startP l n m).seats := by
  intro k x hk
  simp only [startP, List.getElem?_replicate] at hk
  split at hk
  · injection hk with hk
    subst hk
    exact ⟨by simp, Nat.zero_le _, fun _ => rfl⟩
  · cases hk
end Go.Proofs.Ytcjaomiihajjbaa
