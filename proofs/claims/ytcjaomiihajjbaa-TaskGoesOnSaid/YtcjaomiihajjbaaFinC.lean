/- As Fin, for operations of at most C turns each. -/
import Derived.Test.YtcjaomiihajjbaaPlayM
namespace Go.Proofs.Ytcjaomiihajjbaa
open Go.RowKit
set_option linter.unusedVariables false

/-- No operation that is wanted asks at the end of its log's room. -/
def AskFew (C : Nat) (l : Ly) (want : List (List Opr)) : Prop := ∀ (who a : Nat) (op : Opr) (log : List (Int × Bool)) {k c o v : Int}, (want.getD who [])[a]? = some op → nextA l op log = .ask k c o v → log.length + 2 ≤ C
/-- Where a seat may be: no log behind its last operation. -/
def SInvC (C : Nat) (want : List (List Opr)) (seats : List (Nat × List (Int × Bool))) : Prop := ∀ k x, seats[k]? = some x → x.2.length + 1 ≤ C ∧ x.1 ≤ (want.getD k []).length ∧ (x.1 = (want.getD k []).length → x.2 = [])
def remC (C : Nat) (want : List (List Opr)) (k : Nat) (x : Nat × List (Int × Bool)) : Nat := C * ((want.getD k []).length - x.1) - x.2.length
theorem turn_remC {C : Nat} {l : Ly} {want : List (List Opr)} {who : Nat} {s s' : PSt} (hq : AskFew C l want) (h : turnP l want who s = some s') (hi : SInvC C want s.seats) :
    SInvC C want s'.seats ∧ s'.seats.length = s.seats.length ∧ ∀ k x', s'.seats[k]? = some x' → ∃ x, s.seats[k]? = some x ∧ (k ≠ who → x' = x) ∧ (k = who → remC C want k x' ≤ remC C want k x - 1) := by
  unfold turnP at h
  cases hx : s.seats[who]? with
  | none =>
    rw [hx] at h
    injection h with h
    subst h
    exact ⟨hi, rfl, fun k x' hk => ⟨x', hk, fun _ => rfl, fun e => by subst e; rw [hx] at hk; cases hk⟩⟩
  | some x =>
    obtain ⟨g1, g2, g3⟩ := hi who x hx
    have hlt : who < s.seats.length := (List.getElem?_eq_some_iff.1 hx).1
    rw [hx] at h
    dsimp only at h
    cases ho : (want.getD who [])[x.1]? with
    | none =>
      rw [ho] at h
      injection h with h
      subst h
      have hge := List.getElem?_eq_none_iff.1 ho
      refine ⟨hi, rfl, fun k x' hk => ⟨x', hk, fun _ => rfl, fun e => ?_⟩⟩
      subst e
      rw [hx] at hk
      injection hk with hk
      subst hk
      unfold remC
      have h0 : (want.getD k []).length - x.1 = 0 := by omega
      rw [h0]
      omega
    | some op =>
      have hlen : x.1 < (want.getD who []).length := (List.getElem?_eq_some_iff.1 ho).1
      rw [ho] at h
      dsimp only at h
      have key : ∀ y : Nat × List (Int × Bool), (y.2.length + 1 ≤ C ∧ y.1 ≤ (want.getD who []).length ∧ (y.1 = (want.getD who []).length → y.2 = [])) → remC C want who y ≤ remC C want who x - 1 → SInvC C want (s.seats.set who y) ∧ (s.seats.set who y).length = s.seats.length ∧ ∀ k x', (s.seats.set who y)[k]? = some x' → ∃ x, s.seats[k]? = some x ∧ (k ≠ who → x' = x) ∧ (k = who → remC C want k x' ≤ remC C want k x - 1) := by
        intro y hy hr
        refine ⟨fun k x' hk => ?_, by simp, fun k x' hk => ?_⟩
        · by_cases e : k = who
          · subst e
            rw [List.getElem?_set_self hlt] at hk
            injection hk with hk
            subst hk
            exact hy
          · rw [List.getElem?_set_ne (fun e' => e e'.symm)] at hk
            exact hi k x' hk
        · by_cases e : k = who
          · subst e
            rw [List.getElem?_set_self hlt] at hk
            injection hk with hk
            subst hk
            exact ⟨x, hx, fun h => absurd rfl h, fun _ => hr⟩
          · rw [List.getElem?_set_ne (fun e' => e e'.symm)] at hk
            exact ⟨x', hk, fun _ => rfl, fun h => absurd h e⟩
      cases hn : nextA l op x.2 with
      | out val is err point =>
        rw [hn] at h
        injection h with h
        subst h
        refine key (x.1 + 1, []) ⟨by simp only [List.length_nil]; omega, by dsimp only; omega, fun _ => rfl⟩ ?_
        unfold remC
        simp only [List.length_nil]
        have hm : C * ((want.getD who []).length - x.1) = C * ((want.getD who []).length - (x.1 + 1)) + C := by rw [← Nat.mul_succ]; congr 1; omega
        omega
      | ask kk c o v =>
        have h4 := hq who x.1 op x.2 ho hn
        rw [hn] at h
        dsimp only at h
        split at h
        · injection h with h
          subst h
          refine key (x.1, x.2 ++ [_]) ⟨by simp; omega, g2, fun e => by dsimp only at e; omega⟩ ?_
          unfold remC
          simp only [List.length_append, List.length_singleton]
          omega
        · cases h
theorem run_remC {C : Nat} {l : Ly} {want : List (List Opr)} {who : Nat} (hq : AskFew C l want) (n : Nat) : ∀ {s s' : PSt}, SInvC C want s.seats → runP l want s (List.replicate n who) = (s', false) →
    SInvC C want s'.seats ∧ s'.seats.length = s.seats.length ∧ ∀ k x', s'.seats[k]? = some x' → ∃ x, s.seats[k]? = some x ∧ (k ≠ who → x' = x) ∧ (k = who → remC C want k x' ≤ remC C want k x - n) := by
  induction n with
  | zero =>
    intro s s' hi h
    simp only [List.replicate_zero, runP, Prod.mk.injEq, and_true] at h
    subst h
    exact ⟨hi, rfl, fun k x' hk => ⟨x', hk, fun _ => rfl, fun _ => by omega⟩⟩
  | succ n ih =>
    intro s s' hi h
    simp only [List.replicate_succ, runP] at h
    rcases hh : turnP l want who s with _ | s2
    · rw [hh] at h; cases h
    · rw [hh] at h
      obtain ⟨a1, a2, a3⟩ := turn_remC hq hh hi
      obtain ⟨b1, b2, b3⟩ := ih a1 h
      refine ⟨b1, b2.trans a2, fun k x' hk => ?_⟩
      obtain ⟨y, hy, c1, c2⟩ := b3 k x' hk
      obtain ⟨x, hx, d1, d2⟩ := a3 k y hy
      exact ⟨x, hx, fun e => (c1 e).trans (d1 e), fun e => by have := c2 e; have := d2 e; omega⟩
theorem run_invC {C : Nat} {l : Ly} {want : List (List Opr)} (hq : AskFew C l want) (ws : List Nat) : ∀ {s s' : PSt} {b : Bool}, SInvC C want s.seats → runP l want s ws = (s', b) → SInvC C want s'.seats ∧ s'.seats.length = s.seats.length := by
  induction ws with
  | nil =>
    intro s s' b hi h
    simp only [runP, Prod.mk.injEq] at h
    rw [← h.1]
    exact ⟨hi, rfl⟩
  | cons w ws ih =>
    intro s s' b hi h
    simp only [runP] at h
    rcases hh : turnP l want w s with _ | s2
    · rw [hh] at h
      simp only [Prod.mk.injEq] at h
      rw [← h.1]
      exact ⟨hi, rfl⟩
    · rw [hh] at h
      obtain ⟨a1, a2, _⟩ := turn_remC hq hh hi
      obtain ⟨b1, b2⟩ := ih a1 h
      exact ⟨b1, b2.trans a2⟩
/-- Behind turns that end in P turns of each of three seats each has ended. -/
theorem all_endedC {C P : Nat} {l : Ly} {want : List (List Opr)} {ws : List Nat} {s s' : PSt} (hq : AskFew C l want) (hC : 1 ≤ C) (hi : SInvC C want s.seats) (h3 : s.seats.length = 3) (hw : ∀ k, C * (want.getD k []).length ≤ P) (h : runP l want s (ws ++ (List.replicate P 0 ++ (List.replicate P 1 ++ List.replicate P 2))) = (s', false)) :
    s'.seats.length = 3 ∧ ∀ k x, s'.seats[k]? = some x → x.1 = (want.getD k []).length ∧ x.2 = [] := by
  have hp : ∀ ws ws' : List Nat, ∀ s s' : PSt, runP l want s (ws ++ ws') = (s', false) → ∃ s2, runP l want s ws = (s2, false) ∧ runP l want s2 ws' = (s', false) := by
    intro ws ws'
    induction ws with
    | nil => intro s s' h; exact ⟨s, rfl, h⟩
    | cons w ws ih =>
      intro s s' h
      simp only [List.cons_append, runP] at h ⊢
      rcases hh : turnP l want w s with _ | s2
      · rw [hh] at h; cases h
      · rw [hh] at h
        exact ih s2 s' h
  obtain ⟨s1, r1, h⟩ := hp _ _ _ _ h
  obtain ⟨s2, r2, h⟩ := hp _ _ _ _ h
  obtain ⟨s3, r3, r4⟩ := hp _ _ _ _ h
  obtain ⟨i1, n1⟩ := run_invC hq _ hi r1
  obtain ⟨i2, n2, e2⟩ := run_remC hq P i1 r2
  obtain ⟨i3, n3, e3⟩ := run_remC hq P i2 r3
  obtain ⟨i4, n4, e4⟩ := run_remC hq P i3 r4
  refine ⟨by omega, fun k x hk => ?_⟩
  obtain ⟨g1, g2, g3⟩ := i4 k x hk
  have hlt : k < 3 := by have := (List.getElem?_eq_some_iff.1 hk).1; omega
  obtain ⟨x3, hx3, a4, b4⟩ := e4 k x hk
  obtain ⟨x2, hx2, a3, b3⟩ := e3 k x3 hx3
  obtain ⟨x1, hx1, a2, b2⟩ := e2 k x2 hx2
  have hrem : ∀ y, remC C want k y ≤ P := fun y => by
    unfold remC
    have h1 := hw k
    have h2 : C * ((want.getD k []).length - y.1) ≤ C * (want.getD k []).length := Nat.mul_le_mul (Nat.le_refl _) (Nat.sub_le _ _)
    omega
  have h0 : remC C want k x = 0 := by
    have r1 := hrem x1
    have r2 := hrem x2
    have r3 := hrem x3
    have hk3 : k = 0 ∨ k = 1 ∨ k = 2 := by omega
    rcases hk3 with rfl | rfl | rfl
    · rw [a4 (by omega), a3 (by omega)]
      have := b2 rfl
      omega
    · rw [a4 (by omega)]
      have := b3 rfl
      omega
    · have := b4 rfl
      omega
  have : x.1 = (want.getD k []).length := by
    rcases Nat.lt_or_ge x.1 (want.getD k []).length with hl | hl
    · exfalso
      unfold remC at h0
      have h5 : C * 1 ≤ C * ((want.getD k []).length - x.1) := Nat.mul_le_mul (Nat.le_refl _) (by omega)
      omega
    · omega
  exact ⟨this, g3 this⟩
end Go.Proofs.Ytcjaomiihajjbaa
