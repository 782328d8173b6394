/- A play, in plain words: what each turn makes of the memory, the seats and the steps. No program in sight but task.Next's own model. -/
import Derived.Test.YtcjaomiihajjbaaTaskI
import Derived.Test.YtcjaomiihajjbaaMemA
namespace Go.Proofs.Ytcjaomiihajjbaa
open Go.RowKit
set_option linter.unusedVariables false

/-- What task.Next tells: an access, or an end; who may not be is refused. -/
def nextA (l : Ly) (op : Opr) (log : List (Int × Bool)) : Ans := (nextM l op log).getD (.out 0 false 1 (-1))
def AnsPost (r : Ans) (w : World) (e : Ending) (w' : World) : Prop :=
  match r with
  | .ask k c o v => e = .returned (.tuple #[.agg (accC k c o v), .agg outZ, .bool false]) ∧ Below w.heap.size w w'
  | .out val is err point => e = .returned (.tuple #[.agg accZ, .agg (outC val is err point), .bool true]) ∧ Below w.heap.size w w'
theorem ansPost_of {l : Ly} {op : Opr} {log : List (Int × Bool)} {w : World} {e : Ending} {w' : World} (h : NextPost (nextM l op log) w e w') : AnsPost (nextA l op log) w e w' := by
  unfold nextA
  cases hn : nextM l op log with
  | none => rw [hn] at h; exact h
  | some r => rw [hn] at h; cases r <;> exact h

structure StepM where
  who : Nat
  at_ : Nat
  op : Opr
  acc : Acc
  res : Int × Bool
  done : Bool
  val : Int
  is : Bool
  err : Int
  point : Int
abbrev stepC (s : StepM) : Array Value := #[.int .i64 s.who, .int .i64 s.at_, .int .i64 s.op.kind, .int .i64 s.op.obj, .int .i64 s.op.a, .int .i64 s.op.b, .int .i64 s.acc.kind, .int .i64 s.acc.cell, .int .i64 s.acc.old, .int .i64 s.acc.new, .int .i64 s.res.1, .bool s.res.2, .bool s.done, .int .i64 s.val, .bool s.is, .int .i64 s.err, .int .i64 s.point, .slice none 0 0]
def stepCells (l : List StepM) : List Value := l.flatMap fun s => (stepC s).toList
theorem stepCells_length (l : List StepM) : (stepCells l).length = l.length * 18 := by
  induction l with
  | nil => rfl
  | cons a l ih =>
    have : stepCells (a :: l) = (stepC a).toList ++ stepCells l := rfl
    rw [this, List.length_append, ih]
    simp
    omega
theorem stepCells_snoc (l : List StepM) (s : StepM) : stepCells (l ++ [s]) = stepCells l ++ (stepC s).toList := by simp [stepCells]
theorem stepCells_get (l : List StepM) : ∀ (k : Nat) (s : StepM), l[k]? = some s → ∀ i, i < 18 → (stepCells l)[k * 18 + i]? = (stepC s)[i]? := by
  induction l with
  | nil => intro k s h; simp at h
  | cons a l ih =>
    intro k s h i hi
    have e : stepCells (a :: l) = (stepC a).toList ++ stepCells l := rfl
    rw [e]
    cases k with
    | zero =>
      simp only [List.getElem?_cons_zero, Option.some.injEq] at h
      subst h
      rw [List.getElem?_append_left (by simp; omega)]
      simp
    | succ k =>
      simp only [List.getElem?_cons_succ] at h
      rw [List.getElem?_append_right (by simp; omega)]
      have := ih k s h i hi
      rw [← this]
      congr 1
      simp
      omega

structure PSt where
  m : List Int
  seats : List (Nat × List (Int × Bool))
  out : List StepM

def doneStep (who at_ : Nat) (op : Opr) (val : Int) (is : Bool) (err point : Int) : StepM := ⟨who, at_, op, ⟨0, 0, 0, 0⟩, (0, false), true, val, is, err, point⟩
def askStep (who at_ : Nat) (op : Opr) (a : Acc) (r : Int × Bool) : StepM := ⟨who, at_, op, a, r, false, 0, false, 0, 0⟩
/-- A seat's turn; none: the play stops, for an access can't be done. -/
def turnP (l : Ly) (want : List (List Opr)) (who : Nat) (s : PSt) : Option PSt :=
  match s.seats[who]? with
  | none => some s
  | some x =>
    match (want.getD who [])[x.1]? with
    | none => some s
    | some op =>
      match nextA l op x.2 with
      | .out val is err point => some ⟨s.m, s.seats.set who (x.1 + 1, []), s.out ++ [doneStep who x.1 op val is err point]⟩
      | .ask k c o v =>
        if (⟨k, c, o, v⟩ : Acc).err s.m.length = 0 then
          some ⟨(⟨k, c, o, v⟩ : Acc).make s.m, s.seats.set who (x.1, x.2 ++ [((⟨k, c, o, v⟩ : Acc).had s.m, (⟨k, c, o, v⟩ : Acc).ok ((⟨k, c, o, v⟩ : Acc).had s.m))]), s.out ++ [askStep who x.1 op ⟨k, c, o, v⟩ ((⟨k, c, o, v⟩ : Acc).had s.m, (⟨k, c, o, v⟩ : Acc).ok ((⟨k, c, o, v⟩ : Acc).had s.m))]⟩
        else none
/-- All turns; whether it stopped. -/
def runP (l : Ly) (want : List (List Opr)) : PSt → List Nat → PSt × Bool
  | s, [] => (s, false)
  | s, w :: ws => match turnP l want w s with
    | none => (s, true)
    | some s' => runP l want s' ws
theorem runP_append {l : Ly} {want : List (List Opr)} {ws ws' : List Nat} : ∀ {s s' : PSt}, runP l want s ws = (s', false) → runP l want s (ws ++ ws') = runP l want s' ws' := by
  induction ws with
  | nil =>
    intro s s' h
    simp only [runP, Prod.mk.injEq, and_true] at h
    rw [h, List.nil_append]
  | cons w ws ih =>
    intro s s' h
    simp only [List.cons_append, runP] at h ⊢
    rcases hh : turnP l want w s with _ | s2
    · rw [hh] at h; cases h
    · rw [hh] at h; exact ih h
theorem runP_stop {l : Ly} {want : List (List Opr)} {ws ws' : List Nat} {s s' : PSt} {w : Nat} (h : runP l want s ws = (s', false)) (ht : turnP l want w s' = none) : runP l want s (ws ++ w :: ws') = (s', true) := by
  rw [runP_append h]
  simp [runP, ht]
theorem runP_snoc {l : Ly} {want : List (List Opr)} {ws : List Nat} {s s' s'' : PSt} {w : Nat} (h : runP l want s ws = (s', false)) (ht : turnP l want w s' = some s'') : runP l want s (ws ++ [w]) = (s'', false) := by
  rw [runP_append h]
  simp [runP, ht]
def whosP (n : Nat) (turns : List Nat) : List Nat := turns.map (· % n) ++ (List.range (n * 60)).map (· / 60)
theorem whosP_length (n : Nat) (turns : List Nat) : (whosP n turns).length = turns.length + n * 60 := by simp [whosP]
theorem whosP_left {n : Nat} {turns : List Nat} {i t : Nat} (h : turns[i]? = some t) : (whosP n turns)[i]? = some (t % n) := by
  have hi : i < turns.length := (List.getElem?_eq_some_iff.1 h).1
  unfold whosP
  rw [List.getElem?_append_left (by simp; omega), List.getElem?_map, h]
  rfl
theorem whosP_right {n : Nat} {turns : List Nat} {i : Nat} (h : turns.length ≤ i) (h2 : i < turns.length + n * 60) : (whosP n turns)[i]? = some ((i - turns.length) / 60) := by
  unfold whosP
  rw [List.getElem?_append_right (by simp; omega), List.getElem?_map, List.length_map, List.getElem?_range (by omega)]
  rfl
theorem whosP_lt {n : Nat} {turns : List Nat} {i w : Nat} (hn : 0 < n) (h : (whosP n turns)[i]? = some w) : w < n := by
  have hm := List.mem_of_getElem? h
  unfold whosP at hm
  rcases List.mem_append.1 hm with h1 | h1
  · obtain ⟨t, _, rfl⟩ := List.mem_map.1 h1
    exact Nat.mod_lt _ hn
  · obtain ⟨t, h2, rfl⟩ := List.mem_map.1 h1
    have := List.mem_range.1 h2
    omega
def startP (l : Ly) (n : Nat) (m : List Int) : PSt := ⟨m, List.replicate n (0, []), []⟩
def inR (z : Int) : Prop := -9223372036854775808 ≤ z ∧ z ≤ 9223372036854775807
/-- What holds all along: so many seats; the cells and the logs are numbers of 64 bits; the logs are short. -/
structure PInv (n M k : Nat) (s : PSt) : Prop where
  ns : s.seats.length = n
  ml : s.m.length = M
  mr : ∀ z ∈ s.m, inR z
  lr : ∀ x ∈ s.seats, ∀ r ∈ x.2, inR r.1
  ll : ∀ x ∈ s.seats, x.2.length ≤ k
  al : ∀ x ∈ s.seats, x.1 ≤ k
  ol : s.out.length ≤ k
theorem Acc.make_mem {a : Acc} {zs : List Int} {z : Int} (h : z ∈ a.make zs) : z ∈ zs ∨ z = a.next (a.had zs) := by
  unfold Acc.make at h
  exact (List.mem_or_eq_of_mem_set h)
theorem had_mem {a : Acc} {zs : List Int} (h : a.err zs.length = 0) : a.had zs ∈ zs := by
  obtain ⟨hr, h0, h1⟩ := Acc.err_ok h
  have : a.cell.toNat < zs.length := by omega
  unfold Acc.had
  rw [List.getD_eq_getElem?_getD, List.getElem?_eq_getElem this]
  exact List.getElem_mem this
theorem wrap64_inR (z : Int) : inR (wrap64 z) := by
  unfold inR wrap64
  omega
theorem next_inR {a : Acc} {had : Int} (h : inR had) (hn : inR a.new) : inR (a.next had) := by
  unfold Acc.next
  repeat' split
  all_goals first | exact h | exact hn | exact wrap64_inR _
theorem askM_ask {log : List (Int × Bool)} {i : Nat} {k c o v k' c' o' v' : Int} {f : Int × Bool → Ans} {P : Int → Prop} (h : askM log i k c o v f = .ask k' c' o' v') (h0 : P v) (hf : ∀ x, log[i]? = some x → f x = .ask k' c' o' v' → P v') : P v' := by
  unfold askM at h
  cases hx : log[i]? with
  | none =>
    rw [hx] at h
    injection h with _ _ _ h
    subst h
    exact h0
  | some x =>
    rw [hx] at h
    exact hf x hx h
theorem nextA_inR {l : Ly} {op : Opr} {log : List (Int × Bool)} {k c o v : Int} (h : nextA l op log = .ask k c o v) (ha : inR op.a) (hb : inR op.b) : inR v := by
  have d : ∀ z : Int, -10 ≤ z → z ≤ 10 → inR z := fun z h1 h2 => ⟨by omega, by omega⟩
  unfold nextA nextM at h
  repeat' split at h
  · cases h
  · refine askM_ask h (d _ (by omega) (by omega)) fun x _ h => ?_
    split at h
    · cases h
    refine askM_ask h ha fun _ _ h => ?_
    refine askM_ask h (d _ (by omega) (by omega)) fun _ _ h => ?_
    refine askM_ask h (d _ (by omega) (by omega)) fun _ _ h => ?_
    refine askM_ask h (d _ (by omega) (by omega)) fun _ _ h => ?_
    cases h
  · refine askM_ask h (d _ (by omega) (by omega)) fun x _ h => ?_
    cases h
  · refine askM_ask h (d _ (by omega) (by omega)) fun x _ h => ?_
    split at h
    · refine askM_ask h (d _ (by omega) (by omega)) fun x _ h => ?_
      cases h
    · cases h
  · refine askM_ask h hb fun x _ h => ?_
    refine askM_ask h (d _ (by omega) (by omega)) fun _ _ h => ?_
    refine askM_ask h (d _ (by omega) (by omega)) fun _ _ h => ?_
    split at h
    · refine askM_ask h (d _ (by omega) (by omega)) fun _ _ h => ?_
      cases h
    · refine askM_ask h (d _ (by omega) (by omega)) fun _ _ h => ?_
      split at h
      · refine askM_ask h (d _ (by omega) (by omega)) fun x _ h => ?_
        cases h
      · cases h
  · refine askM_ask h (d _ (by omega) (by omega)) fun x _ h => ?_
    cases h
  · cases h
/-- Whose operations may be played: their numbers are of 64 bits. -/
def WantOk (want : List (List Opr)) : Prop := ∀ ops ∈ want, ∀ op ∈ ops, inR op.a ∧ inR op.b
theorem want_op {want : List (List Opr)} (h : WantOk want) {who at_ : Nat} {op : Opr} (ho : (want.getD who [])[at_]? = some op) : inR op.a ∧ inR op.b := by
  have h1 := List.mem_of_getElem? ho
  rw [List.getD_eq_getElem?_getD] at h1
  cases hw : want[who]? with
  | none => rw [hw] at h1; simp at h1
  | some ops =>
    rw [hw] at h1
    exact h ops (List.mem_of_getElem? hw) op h1
theorem PInv.mono {n M k k' : Nat} {s : PSt} (h : PInv n M k s) (hk : k ≤ k') : PInv n M k' s :=
  ⟨h.ns, h.ml, h.mr, h.lr, fun x hx => Nat.le_trans (h.ll x hx) hk, fun x hx => Nat.le_trans (h.al x hx) hk, Nat.le_trans h.ol hk⟩
theorem PInv.turn {l : Ly} {want : List (List Opr)} {n M k who : Nat} {s s' : PSt} (hw : WantOk want) (h : PInv n M k s) (ht : turnP l want who s = some s') : PInv n M (k + 1) s' := by
  unfold turnP at ht
  cases hx : s.seats[who]? with
  | none =>
    rw [hx] at ht
    injection ht with ht
    subst ht
    exact h.mono (Nat.le_succ k)
  | some x =>
    rw [hx] at ht
    dsimp only at ht
    have hxm := List.mem_of_getElem? hx
    cases ho : (want.getD who [])[x.1]? with
    | none =>
      rw [ho] at ht
      injection ht with ht
      subst ht
      exact h.mono (Nat.le_succ k)
    | some op =>
      rw [ho] at ht
      dsimp only at ht
      obtain ⟨ha, hb⟩ := want_op hw ho
      cases hn : nextA l op x.2 with
      | out val is err point =>
        rw [hn] at ht
        injection ht with ht
        subst ht
        refine ⟨by simp [h.ns], h.ml, h.mr, fun y hy r hr => ?_, fun y hy => ?_, fun y hy => ?_, by simp; exact h.ol⟩
        · rcases List.mem_or_eq_of_mem_set hy with hy | rfl
          · exact h.lr y hy r hr
          · simp at hr
        · rcases List.mem_or_eq_of_mem_set hy with hy | rfl
          · exact Nat.le_trans (h.ll y hy) (Nat.le_succ k)
          · simp
        · rcases List.mem_or_eq_of_mem_set hy with hy | rfl
          · exact Nat.le_trans (h.al y hy) (Nat.le_succ k)
          · exact Nat.succ_le_succ (h.al x hxm)
      | ask k' c o v =>
        rw [hn] at ht
        dsimp only at ht
        split at ht
        · rename_i he
          injection ht with ht
          subst ht
          have hv := nextA_inR hn ha hb
          have hh : inR ((⟨k', c, o, v⟩ : Acc).had s.m) := h.mr _ (had_mem he)
          refine ⟨by simp [h.ns], by rw [Acc.make_length]; exact h.ml, fun z hz => ?_, fun y hy r hr => ?_, fun y hy => ?_, fun y hy => ?_, by simp; exact h.ol⟩
          · rcases Acc.make_mem hz with hz | rfl
            · exact h.mr z hz
            · exact next_inR hh hv
          · rcases List.mem_or_eq_of_mem_set hy with hy | rfl
            · exact h.lr y hy r hr
            · rcases List.mem_append.1 hr with hr | hr
              · exact h.lr x hxm r hr
              · simp at hr
                subst hr
                exact hh
          · rcases List.mem_or_eq_of_mem_set hy with hy | rfl
            · exact Nat.le_trans (h.ll y hy) (Nat.le_succ k)
            · simp; exact h.ll x hxm
          · rcases List.mem_or_eq_of_mem_set hy with hy | rfl
            · exact Nat.le_trans (h.al y hy) (Nat.le_succ k)
            · exact Nat.le_trans (h.al x hxm) (Nat.le_succ k)
        · cases ht
theorem PInv.run {l : Ly} {want : List (List Opr)} {n M : Nat} (hw : WantOk want) (ws : List Nat) : ∀ {s s' : PSt} {k : Nat} {b : Bool}, PInv n M k s → runP l want s ws = (s', b) → PInv n M (k + ws.length) s' := by
  induction ws with
  | nil =>
    intro s s' k b h hr
    simp only [runP, Prod.mk.injEq] at hr
    rw [← hr.1]
    exact h
  | cons w ws ih =>
    intro s s' k b h hr
    simp only [runP] at hr
    rcases hh : turnP l want w s with _ | s2
    · rw [hh] at hr
      simp only [Prod.mk.injEq] at hr
      rw [← hr.1]
      exact h.mono (by omega)
    · rw [hh] at hr
      exact (ih (h.turn hw hh) hr).mono (by simp; omega)
end Go.Proofs.Ytcjaomiihajjbaa
