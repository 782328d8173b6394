/- Claims alone, on the model: of all that claim a task that is ready one does. -/
import Derived.Test.YtcjaomiihajjbaaNumQ
import Derived.Test.YtcjaomiihajjbaaFinC
namespace Go.Proofs.Ytcjaomiihajjbaa
open Go.RowKit
set_option linter.unusedVariables false

def clOp (a : Int) : Opr := ⟨12, 0, a, 0⟩
def qA (t : Int) (st : StepM) : Nat := (!st.done && decide (st.op.a = t)).toNat
def qW (t : Int) (st : StepM) : Nat := (!st.done && st.res.2 && decide (st.op.a = t)).toNat
def qAk (k : Nat) (t : Int) (st : StepM) : Nat := (!st.done && decide (st.who = k) && decide (st.op.a = t)).toNat
def qWk (k : Nat) (t : Int) (st : StepM) : Nat := (!st.done && st.res.2 && decide (st.who = k) && decide (st.op.a = t)).toNat
def dAk (k : Nat) (t : Int) (st : StepM) : Nat := (st.done && decide (st.who = k) && decide (st.op.a = t)).toNat
def dWk (k : Nat) (t : Int) (st : StepM) : Nat := (st.done && st.is && decide (st.who = k) && decide (st.op.a = t)).toNat
def dA (t : Int) (st : StepM) : Nat := (st.done && decide (st.op.a = t)).toNat
def dW (t : Int) (st : StepM) : Nat := (st.done && st.is && decide (st.op.a = t)).toNat
/-- What a seat has in hand: an access that it hasn't told of. -/
def pA (want : List (List Opr)) (k : Nat) (x : Nat × List (Int × Bool)) (t : Int) : Nat :=
  match (want.getD k [])[x.1]? with
  | some op => (!x.2.isEmpty && decide (op.a = t)).toNat
  | none => 0
def pW (want : List (List Opr)) (k : Nat) (x : Nat × List (Int × Bool)) (t : Int) : Nat :=
  match (want.getD k [])[x.1]? with
  | some op => (!x.2.isEmpty && (x.2.headD (0, false)).2 && decide (op.a = t)).toNat
  | none => 0
/-- What claims alone keep; the tasks from 2 to n + 1 were ready. -/
structure CInv (l : Ly) (n : Nat) (want : List (List Opr)) (s : PSt) : Prop where
  ml : (s.m.length : Int) = l.size
  ready : ∀ t : Int, 2 ≤ t → t < 2 + n → t ≤ l.c.tasks → (bsum s.out (qA t) = 0 ∧ s.m.getD (taskAt l t 0).toNat 0 = 1 ∧ bsum s.out (qW t) = 0) ∨ (0 < bsum s.out (qA t) ∧ s.m.getD (taskAt l t 0).toNat 0 = 2 ∧ bsum s.out (qW t) = 1)
  other : ∀ t : Int, 1 ≤ t → t ≤ l.c.tasks → ¬ (2 ≤ t ∧ t < 2 + n) → s.m.getD (taskAt l t 0).toNat 0 ≠ 1 ∧ bsum s.out (qW t) = 0
  pend : ∀ k x, s.seats[k]? = some x → x.2.length ≤ 1 ∧ ∀ t : Int, bsum s.out (qAk k t) = bsum s.out (dAk k t) + pA want k x t ∧ bsum s.out (qWk k t) = bsum s.out (dWk k t) + pW want k x t
  who : ∀ st ∈ s.out, st.who < s.seats.length
theorem cl_next {l : Ly} {a : Int} (h : TkOk l) (h1 : 1 ≤ a) (h2 : a ≤ l.c.tasks) (log : List (Int × Bool)) : nextA l (clOp a) log = claimM l (clOp a) log := by
  have hz : ¬ taskAt l a 0 < 0 := by
    rw [taskAt_in l h1 h2 (by omega) (by omega)]
    have := h.fit.k0
    omega
  unfold nextA nextM
  rw [show (clOp a).a = a from rfl, if_neg hz, show (clOp a).kind = 12 from rfl, if_neg (by omega), if_pos rfl]
  rfl
theorem CInv.turn {l : Ly} {n : Nat} {want : List (List Opr)} {s : PSt} (h : TkOk l) (hw : ∀ ops ∈ want, ∀ op ∈ ops, ∃ a : Int, op = clOp a ∧ 1 ≤ a ∧ a ≤ l.c.tasks) (hi : CInv l n want s) (who : Nat) : ∃ s', turnP l want who s = some s' ∧ CInv l n want s' := by
  cases hx : s.seats[who]? with
  | none => exact ⟨s, by unfold turnP; rw [hx], hi⟩
  | some x =>
    obtain ⟨at_, log⟩ := x
    have hwl : who < s.seats.length := (List.getElem?_eq_some_iff.1 hx).1
    cases ho : (want.getD who [])[at_]? with
    | none => exact ⟨s, turn_no hx ho, hi⟩
    | some op =>
      obtain ⟨a, rfl, a1, a2⟩ : ∃ a : Int, op = clOp a ∧ 1 ≤ a ∧ a ≤ l.c.tasks := by
        have h1 := List.mem_of_getElem? ho
        rw [List.getD_eq_getElem?_getD] at h1
        cases hq : want[who]? with
        | none => rw [hq] at h1; simp at h1
        | some ops => rw [hq] at h1; exact hw ops (List.mem_of_getElem? hq) op h1
      have hn := cl_next h a1 a2 log
      obtain ⟨g1, g2⟩ := hi.pend who _ hx
      rcases log with _ | ⟨x0, _ | ⟨x1, r⟩⟩
      · have hn' : nextA l (clOp a) [] = .ask 3 (taskAt l a 0) 1 2 := hn
        obtain ⟨q1, q2⟩ := task_lt h hi.ml a 0 a1 a2 (by omega) (by omega)
        have he : (⟨3, taskAt l a 0, 1, 2⟩ : Acc).err s.m.length = 0 := by simp [Acc.err, Acc.right, q1, q2]
        refine ⟨_, turn_ask hx ho hn' he, ?_⟩
        have hk : (taskAt l a 0).toNat < s.m.length := by omega
        obtain ⟨had, hhad⟩ : ∃ z, (⟨3, taskAt l a 0, 1, 2⟩ : Acc).had s.m = z := ⟨_, rfl⟩
        have hhad' : s.m.getD (taskAt l a 0).toNat 0 = had := hhad
        have hmk : (⟨3, taskAt l a 0, 1, 2⟩ : Acc).make s.m = s.m.set (taskAt l a 0).toNat (if had = 1 then 2 else had) := by
          simp only [Acc.make, Acc.next, hhad]
          simp
        have hok : (⟨3, taskAt l a 0, 1, 2⟩ : Acc).ok had = decide (had = 1) := by
          simp only [Acc.ok]
          by_cases e : had = 1 <;> simp [e]
        rw [hmk, hhad, hok]
        obtain ⟨st, hst⟩ : ∃ st, askStep who at_ (clOp a) ⟨3, taskAt l a 0, 1, 2⟩ (had, decide (had = 1)) = st := ⟨_, rfl⟩
        rw [hst]
        have f1 : ∀ t, qA t st = (decide (a = t)).toNat := fun t => by rw [← hst]; rfl
        have f2 : ∀ t, qW t st = (decide (had = 1) && decide (a = t)).toNat := fun t => by rw [← hst]; rfl
        have f3 : ∀ k t, qAk k t st = (decide (who = k) && decide (a = t)).toNat := fun k t => by rw [← hst]; rfl
        have f4 : ∀ k t, qWk k t st = (decide (had = 1) && decide (who = k) && decide (a = t)).toNat := fun k t => by rw [← hst]; rfl
        have f5 : ∀ k t, dAk k t st = 0 := fun k t => by rw [← hst]; rfl
        have f6 : ∀ k t, dWk k t st = 0 := fun k t => by rw [← hst]; rfl
        have f7 : st.who = who := by rw [← hst]; rfl
        have hne : ∀ t : Int, 1 ≤ t → t ≤ l.c.tasks → t ≠ a → (taskAt l a 0).toNat ≠ (taskAt l t 0).toNat := fun t t1 t2 tn e => by
          have := (cells_apart h a 0 t 0 a1 a2 t1 t2 (by omega) (by omega) (by omega) (by omega)).1 e
          omega
        refine ⟨by simp [hi.ml], fun t t1 t2 t3 => ?_, fun t t1 t2 t3 => ?_, fun k x hk' => ?_, fun st' hs' => ?_⟩
        · dsimp only
          rw [bsum_snoc, bsum_snoc, f1, f2]
          by_cases hta : t = a
          · subst hta
            rw [getD_set_self hk]
            rcases hi.ready t t1 t2 t3 with ⟨r1, r2, r3⟩ | ⟨r1, r2, r3⟩
            · rw [hhad'] at r2
              right
              rw [r2, r1, r3]
              simp
            · rw [hhad'] at r2
              right
              rw [r2, r3]
              simp
          · rw [getD_set_ne (hne t (by omega) t3 hta)]
            have e0 : decide (a = t) = false := by simp; omega
            rw [e0]
            simpa using hi.ready t t1 t2 t3
        · dsimp only
          rw [bsum_snoc, f2]
          by_cases hta : t = a
          · subst hta
            rw [getD_set_self hk]
            obtain ⟨r1, r2⟩ := hi.other t t1 t2 t3
            rw [hhad'] at r1
            rw [r2]
            simp [r1]
          · rw [getD_set_ne (hne t t1 t2 hta)]
            have e0 : decide (a = t) = false := by simp; omega
            rw [e0]
            simpa using hi.other t t1 t2 t3
        · dsimp only at hk' ⊢
          by_cases hkw : k = who
          · subst hkw
            rw [List.getElem?_set_self hwl] at hk'
            injection hk' with hk'
            subst hk'
            refine ⟨by simp, fun t => ?_⟩
            obtain ⟨p1, p2⟩ := g2 t
            rw [bsum_snoc, bsum_snoc, bsum_snoc, bsum_snoc, f3, f4, f5, f6]
            have e1 : pA want k (at_, []) t = 0 := by unfold pA; dsimp only; rw [ho]; rfl
            have e2 : pW want k (at_, []) t = 0 := by unfold pW; dsimp only; rw [ho]; rfl
            have e3 : pA want k (at_, [] ++ [(had, decide (had = 1))]) t = (decide (a = t)).toNat := by unfold pA; dsimp only; rw [ho]; rfl
            have e4 : pW want k (at_, [] ++ [(had, decide (had = 1))]) t = (decide (had = 1) && decide (a = t)).toNat := by unfold pW; dsimp only; rw [ho]; rfl
            rw [e1] at p1
            rw [e2] at p2
            rw [e3, e4]
            simp only [decide_true, Bool.true_and, Bool.and_true]
            omega
          · rw [List.getElem?_set_ne (fun e => hkw e.symm)] at hk'
            obtain ⟨p0, p1⟩ := hi.pend k x hk'
            refine ⟨p0, fun t => ?_⟩
            obtain ⟨p1, p2⟩ := p1 t
            rw [bsum_snoc, bsum_snoc, bsum_snoc, bsum_snoc, f3, f4, f5, f6]
            have e0 : decide (who = k) = false := by simp; omega
            rw [e0]
            simp only [Bool.false_and, Bool.and_false, Bool.toNat_false]
            omega
        · dsimp only at hs' ⊢
          rw [List.length_set]
          rcases List.mem_append.1 hs' with hs' | hs'
          · exact hi.who st' hs'
          · simp at hs'
            subst hs'
            rw [f7]
            exact hwl
      · have hn' : nextA l (clOp a) [x0] = .out 0 x0.2 0 0 := by rw [hn]; unfold claimM; rw [askM_some rfl]
        refine ⟨_, turn_out hx ho hn', ?_⟩
        obtain ⟨st, hst⟩ : ∃ st, doneStep who at_ (clOp a) 0 x0.2 0 0 = st := ⟨_, rfl⟩
        rw [hst]
        have f1 : ∀ t, qA t st = 0 := fun t => by rw [← hst]; rfl
        have f2 : ∀ t, qW t st = 0 := fun t => by rw [← hst]; rfl
        have f3 : ∀ k t, qAk k t st = 0 := fun k t => by rw [← hst]; rfl
        have f4 : ∀ k t, qWk k t st = 0 := fun k t => by rw [← hst]; rfl
        have f5 : ∀ k t, dAk k t st = (decide (who = k) && decide (a = t)).toNat := fun k t => by rw [← hst]; rfl
        have f6 : ∀ k t, dWk k t st = (x0.2 && decide (who = k) && decide (a = t)).toNat := fun k t => by rw [← hst]; rfl
        have f7 : st.who = who := by rw [← hst]; rfl
        refine ⟨hi.ml, fun t t1 t2 t3 => ?_, fun t t1 t2 t3 => ?_, fun k x hk' => ?_, fun st' hs' => ?_⟩
        · dsimp only
          rw [bsum_snoc, bsum_snoc, f1, f2]
          exact hi.ready t t1 t2 t3
        · dsimp only
          rw [bsum_snoc, f2]
          exact hi.other t t1 t2 t3
        · dsimp only at hk' ⊢
          by_cases hkw : k = who
          · subst hkw
            rw [List.getElem?_set_self hwl] at hk'
            injection hk' with hk'
            subst hk'
            refine ⟨by simp, fun t => ?_⟩
            obtain ⟨p1, p2⟩ := g2 t
            rw [bsum_snoc, bsum_snoc, bsum_snoc, bsum_snoc, f3, f4, f5, f6]
            have e1 : pA want k (at_, [x0]) t = (decide (a = t)).toNat := by unfold pA; dsimp only; rw [ho]; rfl
            have e2 : pW want k (at_, [x0]) t = (x0.2 && decide (a = t)).toNat := by unfold pW; dsimp only; rw [ho]; rfl
            have e3 : pA want k (at_ + 1, []) t = 0 := by unfold pA; split <;> simp
            have e4 : pW want k (at_ + 1, []) t = 0 := by unfold pW; split <;> simp
            rw [e1] at p1
            rw [e2] at p2
            rw [e3, e4]
            simp only [decide_true, Bool.true_and, Bool.and_true]
            omega
          · rw [List.getElem?_set_ne (fun e => hkw e.symm)] at hk'
            obtain ⟨p0, p1⟩ := hi.pend k x hk'
            refine ⟨p0, fun t => ?_⟩
            obtain ⟨p1, p2⟩ := p1 t
            rw [bsum_snoc, bsum_snoc, bsum_snoc, bsum_snoc, f3, f4, f5, f6]
            have e0 : decide (who = k) = false := by simp; omega
            rw [e0]
            simp only [Bool.false_and, Bool.and_false, Bool.toNat_false]
            omega
        · dsimp only at hs' ⊢
          rw [List.length_set]
          rcases List.mem_append.1 hs' with hs' | hs'
          · exact hi.who st' hs'
          · simp at hs'
            subst hs'
            rw [f7]
            exact hwl
      · simp at g1
theorem CInv.run {l : Ly} {n : Nat} {want : List (List Opr)} (h : TkOk l) (hw : ∀ ops ∈ want, ∀ op ∈ ops, ∃ a : Int, op = clOp a ∧ 1 ≤ a ∧ a ≤ l.c.tasks) (ws : List Nat) : ∀ {s : PSt}, CInv l n want s → ∃ s', runP l want s ws = (s', false) ∧ CInv l n want s' := by
  induction ws with
  | nil => intro s hi; exact ⟨s, rfl, hi⟩
  | cons w ws ih =>
    intro s hi
    obtain ⟨s2, h2, i2⟩ := hi.turn h hw w
    obtain ⟨s3, h3, i3⟩ := ih i2
    exact ⟨s3, by simp only [runP, h2]; exact h3, i3⟩
def whosC (turns : List Nat) : List Nat := turns.map (· % 3) ++ (List.replicate 20 0 ++ (List.replicate 20 1 ++ List.replicate 20 2))
/-- What there is behind a play of claims alone. -/
theorem claims_end {l : Ly} {n : Nat} {want : List (List Opr)} {turns : List Nat} {s : PSt} (h : TkOk l) (hw : ∀ ops ∈ want, ops.length ≤ 7 ∧ ∀ op ∈ ops, ∃ a : Int, op = clOp a ∧ 1 ≤ a ∧ a ≤ l.c.tasks) (hs : s.seats = List.replicate 3 (0, [])) (hi : CInv l n want s) :
    (runP l want s (whosC turns)).2 = false ∧ ∀ t : Int, 1 ≤ t → t ≤ l.c.tasks → bsum (runP l want s (whosC turns)).1.out (dW t) = if (2 ≤ t ∧ t < 2 + n) ∧ 0 < bsum (runP l want s (whosC turns)).1.out (dA t) then 1 else 0 := by
  obtain ⟨s', hr, hi'⟩ := hi.run h (fun ops ho => (hw ops ho).2) (whosC turns)
  have hq : AskFew 2 l want := by
    intro who a op log k c o v ho hn
    obtain ⟨a', rfl, a1, a2⟩ : ∃ a : Int, op = clOp a ∧ 1 ≤ a ∧ a ≤ l.c.tasks := by
      have h1 := List.mem_of_getElem? ho
      rw [List.getD_eq_getElem?_getD] at h1
      cases hq : want[who]? with
      | none => rw [hq] at h1; simp at h1
      | some ops => rw [hq] at h1; exact (hw ops (List.mem_of_getElem? hq)).2 op h1
    rw [cl_next h a1 a2] at hn
    unfold claimM at hn
    rcases log with _ | ⟨x, log⟩
    · simp
    · rw [askM_some rfl] at hn
      cases hn
  have hlen : ∀ k, 2 * (want.getD k []).length ≤ 20 := fun k => by
    rw [List.getD_eq_getElem?_getD]
    cases hq : want[k]? with
    | none => simp
    | some ops => have := (hw ops (List.mem_of_getElem? hq)).1; simp only [Option.getD_some]; omega
  have hsi : SInvC 2 want s.seats := by
    intro k x hk
    rw [hs, List.getElem?_replicate] at hk
    split at hk
    · injection hk with hk
      subst hk
      exact ⟨by simp, Nat.zero_le _, fun _ => rfl⟩
    · cases hk
  obtain ⟨n3, hend⟩ := all_endedC hq (by omega) hsi (by rw [hs]; simp) hlen hr
  rw [hr]
  refine ⟨rfl, fun t t1 t2 => ?_⟩
  dsimp only
  -- the sums over seats
  have part : ∀ (f : StepM → Nat) (fk : Nat → StepM → Nat), (∀ st : StepM, st.who < 3 → f st = fk 0 st + fk 1 st + fk 2 st) → bsum s'.out f = bsum s'.out (fk 0) + bsum s'.out (fk 1) + bsum s'.out (fk 2) := by
    intro f fk hf
    rw [← bsum_add, ← bsum_add]
    exact bsum_congr fun st hst => hf st (by have := hi'.who st hst; omega)
  have each : ∀ k, k < 3 → bsum s'.out (qAk k t) = bsum s'.out (dAk k t) ∧ bsum s'.out (qWk k t) = bsum s'.out (dWk k t) := by
    intro k hk
    obtain ⟨x, hx⟩ : ∃ x, s'.seats[k]? = some x := ⟨_, List.getElem?_eq_getElem (by omega)⟩
    obtain ⟨e1, e2⟩ := hend k x hx
    obtain ⟨p1, p2⟩ := (hi'.pend k x hx).2 t
    obtain ⟨xa, xl⟩ := x
    dsimp only at e2
    subst e2
    have e3 : pA want k (xa, []) t = 0 := by unfold pA; split <;> simp
    have e4 : pW want k (xa, []) t = 0 := by unfold pW; split <;> simp
    omega
  have c3 : ∀ w : Nat, w < 3 → w = 0 ∨ w = 1 ∨ w = 2 := fun w hw => by omega
  have s1 := part (qA t) (fun k => qAk k t) (fun st hst => by rcases c3 _ hst with e | e | e <;> simp [qA, qAk, e])
  have s2 := part (qW t) (fun k => qWk k t) (fun st hst => by rcases c3 _ hst with e | e | e <;> simp [qW, qWk, e])
  have s3 := part (dA t) (fun k => dAk k t) (fun st hst => by rcases c3 _ hst with e | e | e <;> simp [dA, dAk, e])
  have s4 := part (dW t) (fun k => dWk k t) (fun st hst => by rcases c3 _ hst with e | e | e <;> simp [dW, dWk, e])
  have z0 := each 0 (by omega)
  have z1 := each 1 (by omega)
  have z2 := each 2 (by omega)
  have eA : bsum s'.out (dA t) = bsum s'.out (qA t) := by omega
  have eW : bsum s'.out (dW t) = bsum s'.out (qW t) := by omega
  rw [eA, eW]
  by_cases hrd : 2 ≤ t ∧ t < 2 + (n : Int)
  · rcases hi'.ready t hrd.1 hrd.2 t2 with ⟨r1, _, r3⟩ | ⟨r1, _, r3⟩
    · rw [r3, if_neg (by omega)]
    · rw [r3, if_pos ⟨hrd, r1⟩]
  · rw [if_neg (fun hh => hrd hh.1)]
    exact (hi'.other t t1 t2 hrd).2
end Go.Proofs.Ytcjaomiihajjbaa
