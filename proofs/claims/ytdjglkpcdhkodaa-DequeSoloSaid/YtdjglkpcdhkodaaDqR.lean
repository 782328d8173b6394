/- The deque's plain law: what holds behind every turn of a play. No program in sight. -/
import Derived.Test.YtdjglkpcdhkodaaDqQ
namespace Go.Proofs.Ytdjglkpcdhkodaa
open Go.RowKit
set_option linter.unusedVariables false

/-- The record of an operation that is over, but for its last turn. -/
def pend (l : Ly) (who : Nat) (s : SeatD) : List DoneD :=
  if s.op.kind = 0 then [] else match nextD l s.op s.log with
    | .out val is err pt => [⟨who, s.op, s.first, s.last, val, is, err, pt⟩]
    | .ask _ _ _ _ => []
def pends (l : Ly) (seat : Nat → SeatD) : List DoneD := pend l 0 (seat 0) ++ (pend l 1 (seat 1) ++ pend l 2 (seat 2))
def recsOf (l : Ly) (t : TabD) : List DoneD := t.done ++ pends l t.seat
/-- How many accesses may be left. -/
def rk : Ph → Nat
  | .u0 => 40 | .u1 _ => 39 | .u2 _ _ => 38 | .mv _ _ _ ms => 2 * ms.length + 3 | .mx _ _ _ _ ms _ => 2 * ms.length + 4 | .pt _ _ _ => 2 | .bt _ _ => 1
  | .o0 => 7 | .o1 _ => 6 | .o2 _ => 5 | .oe _ => 1 | .o3 _ _ => 4 | .o4 _ _ _ => 3 | .o5 _ _ => 2 | .o6 _ _ _ => 1
  | .s0 => 5 | .s1 _ => 4 | .s2 _ => 3 | .s3 _ _ => 2 | .s4 _ _ => 1
  | _ => 0
/-- How many wishes a seat has. -/
def lim (p : PlayD) (who : Nat) : Nat := if who = 0 then p.own.length else (if who = 1 then p.s1 else p.s2) % 7
theorem wish_lt {p : PlayD} {who n : Nat} (h : (wishD p who n).kind ≠ 0) : n < lim p who := by
  unfold wishD at h
  unfold lim
  by_cases hw : 0 < who
  · rw [if_pos hw] at h
    rw [if_neg (by omega)]
    generalize (if who = 1 then p.s1 else p.s2) % 7 = L at *
    by_cases hn : n < L
    · exact hn
    · rw [if_neg hn] at h; exact absurd rfl h
  · rw [if_neg hw] at h
    rw [if_pos (by omega)]
    cases hx : p.own[n]? with
    | none => rw [hx] at h; exact absurd rfl h
    | some x => exact (List.getElem?_eq_some_iff.1 hx).1
theorem wish_ge {p : PlayD} {who n : Nat} (h : (wishD p who n).kind = 0) : lim p who ≤ n := by
  unfold wishD at h
  unfold lim
  by_cases hw : 0 < who
  · rw [if_pos hw] at h
    rw [if_neg (by omega)]
    generalize (if who = 1 then p.s1 else p.s2) % 7 = L at *
    by_cases hn : n < L
    · rw [if_pos hn] at h; simp at h
    · omega
  · rw [if_neg hw] at h
    rw [if_pos (by omega)]
    cases hx : p.own[n]? with
    | none => exact List.getElem?_eq_none_iff.1 hx
    | some x =>
      rw [hx] at h
      dsimp only at h
      split at h <;> simp at h
theorem wish_ob (p : PlayD) (who n : Nat) : (wishD p who n).obj = 0 := by
  unfold wishD
  repeat' split
  all_goals rfl
theorem wish_own {p : PlayD} {n : Nat} (h : (wishD p 0 n).kind ≠ 0) : (wishD p 0 n).kind = 8 ∧ (wishD p 0 n).a = n + 1 ∨ (wishD p 0 n).kind = 9 := by
  unfold wishD at h ⊢
  rw [if_neg (by omega)] at h ⊢
  split at h
  · exact absurd rfl h
  · rename_i x hx
    split at h
    · rename_i h3; rw [if_pos h3]; exact .inr rfl
    · rename_i h3; rw [if_neg h3]; exact .inl ⟨rfl, rfl⟩
theorem wish_th {p : PlayD} {who n : Nat} (hw : 0 < who) (h : (wishD p who n).kind ≠ 0) : (wishD p who n).kind = 10 := by
  unfold wishD at h ⊢
  rw [if_pos hw] at h ⊢
  generalize (if who = 1 then p.s1 else p.s2) % 7 = L at *
  by_cases hn : n < L
  · rw [if_pos hn]
  · rw [if_neg hn] at h; exact absurd rfl h
structure SeatOk (l : Ly) (p : PlayD) (step who : Nat) (s : SeatD) : Prop where
  kd : s.op.kind = 0 ∨ (who = 0 ∧ (s.op.kind = 8 ∨ s.op.kind = 9)) ∨ (0 < who ∧ s.op.kind = 10)
  ob : s.op.kind ≠ 0 → s.op.obj = 0
  fs : s.first ≤ step
  lg : ∀ x ∈ s.log, -1000 ≤ x.1 ∧ x.1 ≤ 1000
  ln : s.op.kind ≠ 0 → s.log.length + rk (s.ph l) ≤ 40
  ll : s.log.length ≤ 40
  nx : s.next ≤ lim p who
  a1 : s.op.kind = 8 → 1 ≤ s.op.a ∧ s.op.a ≤ 1000
structure DI (l : Ly) (sz : Nat) (pl : PlayD) (row0 : List Int) (n : Nat) (t : TabD) : Prop where
  ex : ∃ p q pre post, CI l sz t.m (t.seat 0).op.a (fun k => (t.seat k).ph l) (fun k => (t.seat k).first) p q ∧ LI row0 t.m ((t.seat 0).ph l) p q t.step pre post ∧ ((pre ++ post).map (·.1)).Perm ((recsOf l t).filter fun d => decide (d.err ≠ 9)) ∧ (((t.seat 0).ph l).fl = true → (t.seat 0).first ≤ p)
  si : SI t.m ((t.seat 0).ph l) (t.seat 0).op.a (t.seat 0).next (recsOf l t) t.step
  sk : ∀ k, k < 3 → SeatOk l pl t.step k (t.seat k)
  mb : ∀ c : Int, -1000 ≤ cel t.m c ∧ cel t.m c ≤ 1000
  st : t.step ≤ n
  dn : t.done.length ≤ n
  bd : t.bad = false
/-- An access in words: what Next tells where there is more. -/
theorem ph_ask {l : Ly} {s : SeatD} (h : s.op.kind = 8 ∨ s.op.kind = 9 ∨ s.op.kind = 10) {k c o v : Int} (hn : nextD l s.op s.log = .ask k c o v) : ∃ pt, (s.ph l).ans l s.op.a pt = .ask k c o v := by
  obtain ⟨pt, e⟩ := nextD_ans l s.op s.log h
  unfold SeatD.ph
  rw [if_neg (by omega)]
  exact ⟨pt, by rw [← e, hn]⟩
theorem fin_of {l : Ly} {a pt val err pt' : Int} {is : Bool} {x : Ph} (hx : x ≠ .id) (h : x.ans l a pt = .out val is err pt') : x.fin = some (val, is, err) := by
  cases x with
  | id => exact absurd rfl hx
  | un => injection h with h1 h2 h3 h4; rw [← h1, ← h2, ← h3]; rfl
  | fu => injection h with h1 h2 h3 h4; rw [← h1, ← h2, ← h3]; rfl
  | on v i p => injection h with h1 h2 h3 h4; rw [← h1, ← h2, ← h3]; rfl
  | sn v i e p => injection h with h1 h2 h3 h4; rw [← h1, ← h2, ← h3]; rfl
  | mv b r t ms => cases ms <;> cases h
  | _ => cases h
theorem fin_none {l : Ly} {a pt k c o v : Int} {x : Ph} (h : x.ans l a pt = .ask k c o v) : x.fin = none := by
  cases x with
  | id => cases h
  | un => cases h
  | fu => cases h
  | on v i p => cases h
  | sn v i e p => cases h
  | _ => rfl
theorem fin_ph {x : Ph} {v e : Int} {is : Bool} (h : x.fin = some (v, is, e)) : x.fl = false ∧ pnd x = 0 ∧ (∀ (l : Ly) m a q, (x.kindOf = 8 ∨ x.kindOf = 9) → OwnOk l m a q x) ∧ (∀ (l : Ly) m be f p, x.kindOf = 10 → ThOk l m be f p x) := by
  cases x with
  | un => exact ⟨rfl, rfl, (fun _ _ _ _ _ => trivial), (fun _ _ _ _ _ h => by cases h)⟩
  | fu => exact ⟨rfl, rfl, (fun _ _ _ _ _ => trivial), (fun _ _ _ _ _ h => by cases h)⟩
  | on v i p => exact ⟨rfl, rfl, (fun _ _ _ _ _ => trivial), (fun _ _ _ _ _ h => by cases h)⟩
  | sn v i e p => exact ⟨rfl, rfl, (fun _ _ _ _ h => by rcases h with h | h <;> cases h), fun _ _ _ _ _ _ => trivial⟩
  | _ => cases h
theorem ph_ne {l : Ly} {s : SeatD} (h : s.op.kind = 8 ∨ s.op.kind = 9 ∨ s.op.kind = 10) : (s.ph l).kindOf = s.op.kind ∧ s.ph l ≠ .id := by
  unfold SeatD.ph
  rw [if_neg (by omega)]
  have := phOf_kind l s.op.kind h s.log
  refine ⟨this, fun e => ?_⟩
  rw [e] at this
  simp [Ph.kindOf] at this
  omega
/-- The place behind an access. -/
theorem ph_add {l : Ly} {s : SeatD} (h : s.op.kind ≠ 0) (r : Int × Bool) (st : Nat) : SeatD.ph l { s with log := s.log ++ [r], last := st } = (s.ph l).add l r := by
  unfold SeatD.ph
  dsimp only
  rw [if_neg h, if_neg h, phOf_add]
theorem rk_add {l : Ly} {r : Int × Bool} {x : Ph} {a pt k c o v : Int} (h : x.ans l a pt = .ask k c o v) (hm : ∀ b t, x = .u2 b t → (movesOf l 0 r.1 t b).length ≤ 16) : rk (x.add l r) + 1 ≤ rk x := by
  cases x with
  | u2 b t =>
    have := hm b t rfl
    simp only [Ph.add]
    repeat' split
    all_goals (simp only [rk]; omega)
  | mv b r' t ms => cases ms <;> simp only [Ph.add, rk, List.length_cons] <;> omega
  | mx b r' t m ms y => simp only [Ph.add, rk]; omega
  | o2 b => simp only [Ph.add]; split <;> simp only [rk] <;> omega
  | o4 b t r' => simp only [Ph.add]; split <;> simp only [rk] <;> omega
  | s1 t => simp only [Ph.add]; split <;> simp only [rk] <;> omega
  | id => cases h
  | un => cases h
  | fu => cases h
  | on _ _ _ => cases h
  | sn _ _ _ _ => cases h
  | _ => simp only [Ph.add, rk]; omega
theorem cel_mem {m : List Int} (h : ∀ v ∈ m, -1000 ≤ v ∧ v ≤ 1000) (c : Int) : -1000 ≤ cel m c ∧ cel m c ≤ 1000 := by
  unfold cel
  rw [List.getD_eq_getElem?_getD]
  cases e : m[c.toNat]? with
  | none => simp
  | some v => exact h v (List.mem_of_getElem? e)
theorem cel_set_in {m : List Int} (h : ∀ c : Int, -1000 ≤ cel m c ∧ cel m c ≤ 1000) {k : Nat} {v : Int} (hv : -1000 ≤ v ∧ v ≤ 1000) (c : Int) : -1000 ≤ cel (m.set k v) c ∧ cel (m.set k v) c ≤ 1000 := by
  have := h c
  unfold cel at this ⊢
  rw [List.getD_eq_getElem?_getD] at this ⊢
  by_cases e : k = c.toNat
  · subst e
    by_cases hl : c.toNat < m.length
    · rw [List.getElem?_set_self hl]; exact hv
    · rw [List.getElem?_eq_none (by simp; omega)]; simp
  · rw [List.getElem?_set_ne e]; exact this
end Go.Proofs.Ytdjglkpcdhkodaa
