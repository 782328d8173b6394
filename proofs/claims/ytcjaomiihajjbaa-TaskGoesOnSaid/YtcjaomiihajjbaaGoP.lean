/- Ends and a sync alone, on the model: just the last one that leaves is told that the parent goes on. -/
import Derived.Test.YtcjaomiihajjbaaNumQ
import Derived.Test.YtcjaomiihajjbaaFinC
namespace Go.Proofs.Ytcjaomiihajjbaa
open Go.RowKit
set_option linter.unusedVariables false

def enOp (a : Int) : Opr := ⟨14, 0, a, a + 48⟩
def syOp : Opr := ⟨13, 0, 1, 0⟩
def GOk (n : Nat) (want : List (List Opr)) : Prop := ∀ ops ∈ want, ∀ op ∈ ops, op = syOp ∨ ∃ a : Int, op = enOp a ∧ 2 ≤ a ∧ a < 2 + n
theorem gok_op {n : Nat} {want : List (List Opr)} (hw : GOk n want) {who at_ : Nat} {op : Opr} (ho : (want.getD who [])[at_]? = some op) : op = syOp ∨ ∃ a : Int, op = enOp a ∧ 2 ≤ a ∧ a < 2 + n := by
  have h1 := List.mem_of_getElem? ho
  rw [List.getD_eq_getElem?_getD] at h1
  cases hq : want[who]? with
  | none => rw [hq] at h1; simp at h1
  | some ops => rw [hq] at h1; exact hw ops (List.mem_of_getElem? hq) op h1
def addAt (op : Opr) : Nat := if op.kind = 13 then 0 else 3
def pAdd (op : Opr) (log : List (Int × Bool)) : Nat := (decide (addAt op < log.length)).toNat
def pWon (op : Opr) (log : List (Int × Bool)) : Nat := (match log[addAt op]? with | some x => decide (x.1 = 1) | none => false).toNat
def pNs (op : Opr) (log : List (Int × Bool)) : Nat := if log.length = addAt op + 1 then pWon op log else 0
def seatF (f : Opr → List (Int × Bool) → Nat) (want : List (List Opr)) (k : Nat) (x : Nat × List (Int × Bool)) : Nat :=
  match (want.getD k [])[x.1]? with
  | some op => f op x.2
  | none => 0
def sAdd (want : List (List Opr)) (k : Nat) (x : Nat × List (Int × Bool)) : Nat := x.1 + seatF pAdd want k x
theorem seatF_some {f : Opr → List (Int × Bool) → Nat} {want : List (List Opr)} {k a : Nat} {log : List (Int × Bool)} {op : Opr} (h : (want.getD k [])[a]? = some op) : seatF f want k (a, log) = f op log := by unfold seatF; simp only; rw [h]
theorem pWon_le (op : Opr) (log : List (Int × Bool)) : pWon op log ≤ 1 := toNat_le _
theorem pAdd_le (op : Opr) (log : List (Int × Bool)) : pAdd op log ≤ 1 := toNat_le _
theorem pNs_le (op : Opr) (log : List (Int × Bool)) : pNs op log ≤ pWon op log := by unfold pNs; split <;> omega
theorem seatF_le {f g : Opr → List (Int × Bool) → Nat} (h : ∀ op log, f op log ≤ g op log) (want : List (List Opr)) (k : Nat) (x : Nat × List (Int × Bool)) : seatF f want k x ≤ seatF g want k x := by
  unfold seatF
  split
  · exact h _ _
  · exact Nat.le_refl _
def sum3 {α : Type} (f : Nat → α → Nat) (l : List α) (d : α) : Nat := f 0 (l.getD 0 d) + f 1 (l.getD 1 d) + f 2 (l.getD 2 d)
theorem sum3_set {α : Type} (f : Nat → α → Nat) {l : List α} {d x y : α} {who : Nat} (h3 : l.length = 3) (hx : l[who]? = some x) : sum3 f (l.set who y) d + f who x = sum3 f l d + f who y := by
  match l, h3 with
  | [a, b, c], _ =>
    have hw : who < 3 := (List.getElem?_eq_some_iff.1 hx).1
    obtain rfl | rfl | rfl : who = 0 ∨ who = 1 ∨ who = 2 := by omega
    all_goals
      simp at hx
      subst hx
      simp [sum3]
      omega
theorem sum3_at {α : Type} (f : Nat → α → Nat) {l : List α} {d x : α} {who : Nat} (h3 : l.length = 3) (hx : l[who]? = some x) : f who x ≤ sum3 f l d := by
  match l, h3 with
  | [a, b, c], _ =>
    have hw : who < 3 := (List.getElem?_eq_some_iff.1 hx).1
    obtain rfl | rfl | rfl : who = 0 ∨ who = 1 ∨ who = 2 := by omega
    all_goals
      simp at hx
      subst hx
      simp [sum3]
      try omega
theorem sum3_le {α : Type} {f g : Nat → α → Nat} {l : List α} {d : α} (h3 : l.length = 3) (h : ∀ k x, l[k]? = some x → f k x ≤ g k x) : sum3 f l d ≤ sum3 g l d := by
  match l, h3 with
  | [a, b, c], _ =>
    have h0 := h 0 a rfl
    have h1 := h 1 b rfl
    have h2 := h 2 c rfl
    simp [sum3]
    omega
/-- Two seats that are not the same. -/
theorem sum3_two {α : Type} (f : Nat → α → Nat) {l : List α} {d x y : α} {i j : Nat} (h3 : l.length = 3) (hij : i ≠ j) (hx : l[i]? = some x) (hy : l[j]? = some y) : f i x + f j y ≤ sum3 f l d := by
  match l, h3 with
  | [a, b, c], _ =>
    have hi : i < 3 := (List.getElem?_eq_some_iff.1 hx).1
    have hj : j < 3 := (List.getElem?_eq_some_iff.1 hy).1
    obtain rfl | rfl | rfl : i = 0 ∨ i = 1 ∨ i = 2 := by omega
    all_goals
      obtain rfl | rfl | rfl : j = 0 ∨ j = 1 ∨ j = 2 := by omega
      all_goals first
        | exact absurd rfl hij
        | (simp at hx hy
           subst hx
           subst hy
           simp [sum3]
           try omega)
def addQ (l : Ly) (st : StepM) : Bool := !st.done && decide (st.acc.kind = 4) && decide (st.acc.cell = taskAt l 1 1)
def goQ (st : StepM) : Bool := st.done && (decide (st.op.kind = 13) && st.is || decide (st.op.kind = 14) && decide (st.val = 1))
def lastQ (l : Ly) (out : List StepM) : Nat := out.foldl (fun z st => if addQ l st then 10 * st.who + st.at_ + 1 else z) 0
theorem lastQ_snoc (l : Ly) (out : List StepM) (st : StepM) : lastQ l (out ++ [st]) = if addQ l st then 10 * st.who + st.at_ + 1 else lastQ l out := by simp [lastQ]
def nAdd (l : Ly) (out : List StepM) : Nat := bsum out fun st => (addQ l st).toNat
def nGo (out : List StepM) : Nat := bsum out fun st => (goQ st).toNat
theorem nAdd_snoc (l : Ly) (out : List StepM) (st : StepM) : nAdd l (out ++ [st]) = nAdd l out + (addQ l st).toNat := bsum_snoc _ _ _
theorem nGo_snoc (out : List StepM) (st : StepM) : nGo (out ++ [st]) = nGo out + (goQ st).toNat := bsum_snoc _ _ _
abbrev z0 : Nat × List (Int × Bool) := (0, [])
/-- Where a seat may be. -/
def SeatG (l : Ly) (want : List (List Opr)) (m : List Int) (k : Nat) (x : Nat × List (Int × Bool)) : Prop :=
  x.1 ≤ (want.getD k []).length ∧ (∀ j op, j < x.1 → (want.getD k [])[j]? = some op → op.kind = 14 → m.getD (taskAt l op.a 2).toNat 0 = op.b ∧ m.getD (taskAt l op.a 0).toNat 0 = 3) ∧
  ∀ op, (want.getD k [])[x.1]? = some op → x.2.length ≤ addAt op + 2 ∧ (addAt op + 2 ≤ x.2.length → pWon op x.2 = 1) ∧ (op.kind = 14 → (3 ≤ x.2.length → ∃ y, x.2[2]? = some y ∧ y.1 = 1) ∧ (1 ≤ x.2.length → m.getD (taskAt l op.a 2).toNat 0 = op.b) ∧ (2 ≤ x.2.length → m.getD (taskAt l op.a 0).toNat 0 = 3))
structure GInv (l : Ly) (n N : Nat) (want : List (List Opr)) (s : PSt) : Prop where
  ml : (s.m.length : Int) = l.size
  ns : s.seats.length = 3
  kid : ∀ t : Int, 2 ≤ t → t < 2 + n → s.m.getD (taskAt l t 3).toNat 0 = 1
  seat : ∀ k x, s.seats[k]? = some x → SeatG l want s.m k x
  adds : nAdd l s.out = sum3 (sAdd want) s.seats z0
  goes : nGo s.out + sum3 (seatF pWon want) s.seats z0 = (decide (nAdd l s.out = N)).toNat
  join1 : nAdd l s.out < N → s.m.getD (taskAt l 1 1).toNat 0 = (N : Int) - nAdd l s.out
  join2 : nAdd l s.out = N → s.m.getD (taskAt l 1 1).toNat 0 + (sum3 (seatF pNs want) s.seats z0 : Nat) = 1
  last : ∀ k x, s.seats[k]? = some x → seatF pWon want k x = 1 → lastQ l s.out = 10 * k + x.1 + 1
/-- What memories keep of the kids. -/
def KidsKept (l : Ly) (n : Nat) (m m' : List Int) : Prop := ∀ t : Int, 2 ≤ t → t < 2 + n → (m.getD (taskAt l t 3).toNat 0 = 1 → m'.getD (taskAt l t 3).toNat 0 = 1) ∧ (m.getD (taskAt l t 2).toNat 0 = t + 48 → m'.getD (taskAt l t 2).toNat 0 = t + 48) ∧ (m.getD (taskAt l t 0).toNat 0 = 3 → m'.getD (taskAt l t 0).toNat 0 = 3)
theorem KidsKept.refl (l : Ly) (n : Nat) (m : List Int) : KidsKept l n m m := fun _ _ _ => ⟨id, id, id⟩
theorem KidsKept.set {l : Ly} {n : Nat} {m : List Int} (h : TkOk l) (hn : 1 + (n : Int) ≤ l.c.tasks) {t i v : Int} (t1 : 1 ≤ t) (t2 : t ≤ l.c.tasks) (i0 : 0 ≤ i) (i4 : i < 4) (hl : (taskAt l t i).toNat < m.length) (h3 : 2 ≤ t → i ≠ 3) (h2 : 2 ≤ t → i = 2 → v = t + 48) (h0 : 2 ≤ t → i = 0 → v = 3) : KidsKept l n m (m.set (taskAt l t i).toNat v) := by
  intro u u1 u2
  have key : ∀ j w : Int, 0 ≤ j → j < 4 → (u = t → i = j → v = w) → m.getD (taskAt l u j).toNat 0 = w → (m.set (taskAt l t i).toNat v).getD (taskAt l u j).toNat 0 = w := by
    intro j w j0 j4 hv hm
    by_cases e : (taskAt l t i).toNat = (taskAt l u j).toNat
    · obtain ⟨e1, e2⟩ := (cells_apart h t i u j t1 t2 (by omega) (by omega) i0 i4 j0 j4).1 e
      rw [← e, getD_set_self hl]
      exact hv e1.symm e2
    · rw [getD_set_ne e]
      exact hm
  refine ⟨key 3 1 (by omega) (by omega) (fun e1 e2 => absurd e2 (h3 (by omega))), key 2 _ (by omega) (by omega) (fun e1 e2 => ?_), key 0 3 (by omega) (by omega) (fun e1 e2 => h0 (by omega) e2)⟩
  rw [h2 (by omega) e2, e1]
theorem SeatG.kept {l : Ly} {n : Nat} {want : List (List Opr)} {m m' : List Int} {k : Nat} {x : Nat × List (Int × Bool)} (hw : GOk n want) (h : SeatG l want m k x) (hk : KidsKept l n m m') : SeatG l want m' k x := by
  have key : ∀ (op : Opr) (j : Nat), (want.getD k [])[j]? = some op → op.kind = 14 → (m.getD (taskAt l op.a 2).toNat 0 = op.b → m'.getD (taskAt l op.a 2).toNat 0 = op.b) ∧ (m.getD (taskAt l op.a 0).toNat 0 = 3 → m'.getD (taskAt l op.a 0).toNat 0 = 3) := by
    intro op j ho hk14
    rcases gok_op hw ho with rfl | ⟨a, rfl, a1, a2⟩
    · simp [syOp] at hk14
    · exact ⟨(hk a a1 a2).2.1, (hk a a1 a2).2.2⟩
  obtain ⟨h1, h2, h3⟩ := h
  refine ⟨h1, fun j op hj ho hk14 => ?_, fun op ho => ?_⟩
  · obtain ⟨p, q⟩ := h2 j op hj ho hk14
    exact ⟨(key op j ho hk14).1 p, (key op j ho hk14).2 q⟩
  · obtain ⟨g1, g2, g3⟩ := h3 op ho
    refine ⟨g1, g2, fun hk14 => ?_⟩
    obtain ⟨q1, q2, q3⟩ := g3 hk14
    exact ⟨q1, fun hh => (key op _ ho hk14).1 (q2 hh), fun hh => (key op _ ho hk14).2 (q3 hh)⟩
/-- How many have left at most. -/
def lens3 (want : List (List Opr)) : Nat := (want.getD 0 []).length + (want.getD 1 []).length + (want.getD 2 []).length
theorem sAdd_le {l : Ly} {want : List (List Opr)} {m : List Int} {k : Nat} {x : Nat × List (Int × Bool)} (h : SeatG l want m k x) : sAdd want k x ≤ (want.getD k []).length := by
  unfold sAdd seatF
  split
  · rename_i op ho
    have := (List.getElem?_eq_some_iff.1 ho).1
    have := pAdd_le op x.2
    omega
  · have := h.1
    omega
theorem GInv.room {l : Ly} {n N : Nat} {want : List (List Opr)} {s : PSt} (hi : GInv l n N want s) (hN : lens3 want = N) {who : Nat} {x : Nat × List (Int × Bool)} (hx : s.seats[who]? = some x) (hlt : sAdd want who x < (want.getD who []).length) : nAdd l s.out < N := by
  rw [hi.adds, ← hN]
  have hall := fun k x hx => sAdd_le (hi.seat k x hx)
  have hs := hi.ns
  revert hx hall
  generalize s.seats = L at *
  intro hx hall
  match L, hs with
  | [a, b, c], _ =>
    have hw : who < 3 := (List.getElem?_eq_some_iff.1 hx).1
    have h0 := hall 0 a rfl
    have h1 := hall 1 b rfl
    have h2 := hall 2 c rfl
    obtain rfl | rfl | rfl : who = 0 ∨ who = 1 ∨ who = 2 := by omega
    all_goals
      simp at hx
      subst hx
      simp [sum3, lens3] at *
      omega
theorem GInv.le {l : Ly} {n N : Nat} {want : List (List Opr)} {s : PSt} (hi : GInv l n N want s) (hN : lens3 want = N) : nAdd l s.out ≤ N := by
  rw [hi.adds, ← hN]
  have hall := fun k x hx => sAdd_le (hi.seat k x hx)
  have hs := hi.ns
  revert hall
  generalize s.seats = L at *
  intro hall
  match L, hs with
  | [a, b, c], _ =>
    have h0 := hall 0 a rfl
    have h1 := hall 1 b rfl
    have h2 := hall 2 c rfl
    simp [sum3, lens3] at *
    omega
/-- A seat's turn that neither leaves nor ends nor puts the joins back. -/
theorem GInv.plain {l : Ly} {n N : Nat} {want : List (List Opr)} {s : PSt} (hw : GOk n want) (hi : GInv l n N want s) {who a : Nat} {log : List (Int × Bool)} {op : Opr} {m' : List Int} {r : Int × Bool} {st : StepM}
    (hx : s.seats[who]? = some (a, log)) (ho : (want.getD who [])[a]? = some op) (hml : m'.length = s.m.length) (hk : KidsKept l n s.m m') (hj : m'.getD (taskAt l 1 1).toNat 0 = s.m.getD (taskAt l 1 1).toNat 0)
    (hlen : log.length < addAt op) (hs : SeatG l want m' who (a, log ++ [r])) (hd : st.done = false) (hq : addQ l st = false) : GInv l n N want ⟨m', s.seats.set who (a, log ++ [r]), s.out ++ [st]⟩ := by
  have hwl : who < s.seats.length := (List.getElem?_eq_some_iff.1 hx).1
  have e0 : ∀ log' : List (Int × Bool), log'.length ≤ addAt op → pAdd op log' = 0 ∧ pWon op log' = 0 ∧ pNs op log' = 0 := fun log' hl => by
    have h1 : pWon op log' = 0 := by unfold pWon; rw [List.getElem?_eq_none hl]; rfl
    refine ⟨by unfold pAdd; simp; omega, h1, ?_⟩
    unfold pNs
    rw [h1]
    split <;> rfl
  obtain ⟨p1, p2, p3⟩ := e0 log (by omega)
  obtain ⟨q1, q2, q3⟩ := e0 (log ++ [r]) (by simp; omega)
  have s1 := sum3_set (sAdd want) (d := z0) (y := (a, log ++ [r])) hi.ns hx
  have s2 := sum3_set (seatF pWon want) (d := z0) (y := (a, log ++ [r])) hi.ns hx
  have s3 := sum3_set (seatF pNs want) (d := z0) (y := (a, log ++ [r])) hi.ns hx
  simp only [sAdd, seatF_some ho, p1, q1] at s1
  simp only [seatF_some ho, p2, q2] at s2
  simp only [seatF_some ho, p3, q3] at s3
  have eA : nAdd l (s.out ++ [st]) = nAdd l s.out := by rw [nAdd_snoc, hq]; rfl
  have eG : nGo (s.out ++ [st]) = nGo s.out := by rw [nGo_snoc]; simp [goQ, hd]
  have eL : lastQ l (s.out ++ [st]) = lastQ l s.out := by rw [lastQ_snoc, hq]; rfl
  refine ⟨by dsimp only; rw [hml]; exact hi.ml, by simp [hi.ns], fun t t1 t2 => (hk t t1 t2).1 (hi.kid t t1 t2), fun k x hkx => ?_, ?_, ?_, ?_, ?_, fun k x hkx hwon => ?_⟩
  · dsimp only at hkx ⊢
    by_cases e : k = who
    · subst e
      rw [List.getElem?_set_self hwl] at hkx
      injection hkx with hkx
      subst hkx
      exact hs
    · rw [List.getElem?_set_ne (fun e' => e e'.symm)] at hkx
      exact (hi.seat k x hkx).kept hw hk
  · dsimp only
    rw [eA, hi.adds]
    omega
  · dsimp only
    rw [eA, eG, ← hi.goes]
    omega
  · dsimp only
    rw [eA, hj]
    exact hi.join1
  · dsimp only
    rw [eA, hj]
    intro hA
    have := hi.join2 hA
    omega
  · dsimp only at hkx ⊢
    rw [eL]
    by_cases e : k = who
    · subst e
      rw [List.getElem?_set_self hwl] at hkx
      injection hkx with hkx
      subst hkx
      rw [seatF_some ho, q2] at hwon
      omega
    · rw [List.getElem?_set_ne (fun e' => e e'.symm)] at hkx
      exact hi.last k x hkx hwon
/-- A seat leaves. -/
theorem GInv.leaves {l : Ly} {n N : Nat} {want : List (List Opr)} {s : PSt} (h : TkOk l) (hn : 1 + (n : Int) ≤ l.c.tasks) (hw : GOk n want) (hN : lens3 want = N) (hi : GInv l n N want s) {who a : Nat} {log : List (Int × Bool)} {op : Opr} {g : Bool} {st : StepM}
    (hx : s.seats[who]? = some (a, log)) (ho : (want.getD who [])[a]? = some op) (hlen : log.length = addAt op) (hst : st.who = who ∧ st.at_ = a) (hd : st.done = false) (hq : addQ l st = true) :
    GInv l n N want ⟨s.m.set (taskAt l 1 1).toNat (s.m.getD (taskAt l 1 1).toNat 0 + -1), s.seats.set who (a, log ++ [(s.m.getD (taskAt l 1 1).toNat 0, g)]), s.out ++ [st]⟩ := by
  have hwl : who < s.seats.length := (List.getElem?_eq_some_iff.1 hx).1
  have hal := (List.getElem?_eq_some_iff.1 ho).1
  obtain ⟨r0, r1⟩ := task_lt h hi.ml 1 1 (by omega) h.t1 (by omega) (by omega)
  have hcl : (taskAt l 1 1).toNat < s.m.length := by omega
  have e1 : pAdd op log = 0 := by unfold pAdd; simp; omega
  have e2 : pWon op log = 0 := by unfold pWon; rw [List.getElem?_eq_none (by omega)]; rfl
  have e3 : pNs op log = 0 := by unfold pNs; rw [if_neg (by omega)]
  have hlt : nAdd l s.out < N := hi.room hN hx (by simp only [sAdd, seatF_some ho, e1]; omega)
  have hj := hi.join1 hlt
  obtain ⟨J, hJ⟩ : ∃ J, s.m.getD (taskAt l 1 1).toNat 0 = J := ⟨_, rfl⟩
  rw [hJ] at hj ⊢
  have f1 : pAdd op (log ++ [(J, g)]) = 1 := by unfold pAdd; simp [hlen]
  have f2 : pWon op (log ++ [(J, g)]) = (decide (J = 1)).toNat := by
    unfold pWon
    rw [← hlen, List.getElem?_append_right (Nat.le_refl _)]
    simp
  have f3 : pNs op (log ++ [(J, g)]) = (decide (J = 1)).toNat := by
    unfold pNs
    rw [if_pos (by simp [hlen]), f2]
  have s1 := sum3_set (sAdd want) (d := z0) (y := (a, log ++ [(J, g)])) hi.ns hx
  have s2 := sum3_set (seatF pWon want) (d := z0) (y := (a, log ++ [(J, g)])) hi.ns hx
  have s3 := sum3_set (seatF pNs want) (d := z0) (y := (a, log ++ [(J, g)])) hi.ns hx
  simp only [sAdd, seatF_some ho, e1, f1] at s1
  simp only [seatF_some ho, e2, f2] at s2
  simp only [seatF_some ho, e3, f3] at s3
  have hgo := hi.goes
  have d0 : (decide (nAdd l s.out = N)).toNat = 0 := by simp; omega
  rw [d0] at hgo
  have hns : sum3 (seatF pNs want) s.seats z0 ≤ sum3 (seatF pWon want) s.seats z0 := sum3_le hi.ns (fun k x _ => seatF_le pNs_le want k x)
  have eA : nAdd l (s.out ++ [st]) = nAdd l s.out + 1 := by rw [nAdd_snoc, hq]; rfl
  have eG : nGo (s.out ++ [st]) = nGo s.out := by rw [nGo_snoc]; simp [goQ, hd]
  have eL : lastQ l (s.out ++ [st]) = 10 * who + a + 1 := by rw [lastQ_snoc, hq, hst.1, hst.2]; rfl
  have hk : KidsKept l n s.m (s.m.set (taskAt l 1 1).toNat (J + -1)) := KidsKept.set h hn (by omega) h.t1 (by omega) (by omega) hcl (by omega) (by omega) (by omega)
  have hcond : (decide (J = 1)).toNat = (decide (nAdd l s.out + 1 = N)).toNat := by
    congr 1
    apply decide_eq_decide.2
    omega
  refine ⟨by simp [hi.ml], by simp [hi.ns], fun t t1 t2 => (hk t t1 t2).1 (hi.kid t t1 t2), fun k x hkx => ?_, ?_, ?_, ?_, ?_, fun k x hkx hwon => ?_⟩
  · dsimp only at hkx ⊢
    by_cases e : k = who
    · subst e
      rw [List.getElem?_set_self hwl] at hkx
      injection hkx with hkx
      subst hkx
      obtain ⟨g1, g2, g3⟩ := (hi.seat k _ hx).kept hw hk
      refine ⟨g1, g2, fun op' ho' => ?_⟩
      dsimp only at ho' ⊢
      rw [ho] at ho'
      injection ho' with ho'
      subst ho'
      obtain ⟨_, _, q3⟩ := g3 op ho
      refine ⟨by simp [hlen], fun hh => by simp [hlen] at hh, fun hk14 => ?_⟩
      obtain ⟨w1, w2, w3⟩ := q3 hk14
      have hl3 : log.length = 3 := by rw [hlen]; simp [addAt, hk14]
      obtain ⟨y, hy, y1⟩ := w1 (by dsimp only; omega)
      exact ⟨fun _ => ⟨y, by rw [List.getElem?_append_left (by omega)]; exact hy, y1⟩, fun _ => w2 (by dsimp only; omega), fun _ => w3 (by dsimp only; omega)⟩
    · rw [List.getElem?_set_ne (fun e' => e e'.symm)] at hkx
      exact (hi.seat k x hkx).kept hw hk
  · dsimp only
    rw [eA, hi.adds]
    omega
  · dsimp only
    rw [eA, eG, ← hcond]
    omega
  · dsimp only
    rw [eA, getD_set_self hcl]
    intro hA
    omega
  · dsimp only
    rw [eA, getD_set_self hcl]
    intro hA
    have hJ1 : J = 1 := by omega
    rw [show (decide (J = 1)).toNat = 1 from by simp [hJ1]] at s3
    omega
  · dsimp only at hkx ⊢
    rw [eL]
    by_cases e : k = who
    · subst e
      rw [List.getElem?_set_self hwl] at hkx
      injection hkx with hkx
      subst hkx
      rfl
    · rw [List.getElem?_set_ne (fun e' => e e'.symm)] at hkx
      have := sum3_at (seatF pWon want) (d := z0) hi.ns hkx
      omega
/-- The last one puts the joins back. -/
theorem GInv.back {l : Ly} {n N : Nat} {want : List (List Opr)} {s : PSt} (h : TkOk l) (hn : 1 + (n : Int) ≤ l.c.tasks) (hw : GOk n want) (hi : GInv l n N want s) {who a : Nat} {log : List (Int × Bool)} {op : Opr} {r : Int × Bool} {st : StepM}
    (hx : s.seats[who]? = some (a, log)) (ho : (want.getD who [])[a]? = some op) (hlen : log.length = addAt op + 1) (hwon : pWon op log = 1) (hd : st.done = false) (hq : addQ l st = false) :
    GInv l n N want ⟨s.m.set (taskAt l 1 1).toNat 1, s.seats.set who (a, log ++ [r]), s.out ++ [st]⟩ := by
  have hwl : who < s.seats.length := (List.getElem?_eq_some_iff.1 hx).1
  obtain ⟨r0, r1⟩ := task_lt h hi.ml 1 1 (by omega) h.t1 (by omega) (by omega)
  have hcl : (taskAt l 1 1).toNat < s.m.length := by omega
  have e1 : pAdd op log = 1 := by unfold pAdd; simp; omega
  have e3 : pNs op log = 1 := by unfold pNs; rw [if_pos hlen, hwon]
  have f1 : pAdd op (log ++ [r]) = 1 := by unfold pAdd; simp; omega
  have f2 : pWon op (log ++ [r]) = 1 := by
    rw [← hwon]
    unfold pWon
    rw [List.getElem?_append_left (by omega)]
  have f3 : pNs op (log ++ [r]) = 0 := by unfold pNs; rw [if_neg (by simp; omega)]
  have s1 := sum3_set (sAdd want) (d := z0) (y := (a, log ++ [r])) hi.ns hx
  have s2 := sum3_set (seatF pWon want) (d := z0) (y := (a, log ++ [r])) hi.ns hx
  have s3 := sum3_set (seatF pNs want) (d := z0) (y := (a, log ++ [r])) hi.ns hx
  simp only [sAdd, seatF_some ho, e1, f1] at s1
  simp only [seatF_some ho, hwon, f2] at s2
  simp only [seatF_some ho, e3, f3] at s3
  have hgo := hi.goes
  have hge := sum3_at (seatF pWon want) (d := z0) hi.ns hx
  rw [seatF_some ho, hwon] at hge
  have hAN : nAdd l s.out = N := by
    by_cases e : nAdd l s.out = N
    · exact e
    · rw [show (decide (nAdd l s.out = N)).toNat = 0 from by simp [e]] at hgo
      omega
  rw [show (decide (nAdd l s.out = N)).toNat = 1 from by simp [hAN]] at hgo
  have hns : sum3 (seatF pNs want) s.seats z0 ≤ sum3 (seatF pWon want) s.seats z0 := sum3_le hi.ns (fun k x _ => seatF_le pNs_le want k x)
  have eA : nAdd l (s.out ++ [st]) = nAdd l s.out := by rw [nAdd_snoc, hq]; rfl
  have eG : nGo (s.out ++ [st]) = nGo s.out := by rw [nGo_snoc]; simp [goQ, hd]
  have eL : lastQ l (s.out ++ [st]) = lastQ l s.out := by rw [lastQ_snoc, hq]; rfl
  have hk : KidsKept l n s.m (s.m.set (taskAt l 1 1).toNat 1) := KidsKept.set h hn (by omega) h.t1 (by omega) (by omega) hcl (by omega) (by omega) (by omega)
  refine ⟨by simp [hi.ml], by simp [hi.ns], fun t t1 t2 => (hk t t1 t2).1 (hi.kid t t1 t2), fun k x hkx => ?_, ?_, ?_, ?_, ?_, fun k x hkx hwn => ?_⟩
  · dsimp only at hkx ⊢
    by_cases e : k = who
    · subst e
      rw [List.getElem?_set_self hwl] at hkx
      injection hkx with hkx
      subst hkx
      obtain ⟨g1, g2, g3⟩ := (hi.seat k _ hx).kept hw hk
      refine ⟨g1, g2, fun op' ho' => ?_⟩
      dsimp only at ho' ⊢
      rw [ho] at ho'
      injection ho' with ho'
      subst ho'
      obtain ⟨_, _, q3⟩ := g3 op ho
      refine ⟨by simp [hlen], fun _ => f2, fun hk14 => ?_⟩
      obtain ⟨w1, w2, w3⟩ := q3 hk14
      have hl4 : log.length = 4 := by rw [hlen]; simp [addAt, hk14]
      obtain ⟨y, hy, y1⟩ := w1 (by dsimp only; omega)
      exact ⟨fun _ => ⟨y, by rw [List.getElem?_append_left (by omega)]; exact hy, y1⟩, fun _ => w2 (by dsimp only; omega), fun _ => w3 (by dsimp only; omega)⟩
    · rw [List.getElem?_set_ne (fun e' => e e'.symm)] at hkx
      exact (hi.seat k x hkx).kept hw hk
  · dsimp only
    rw [eA, hi.adds]
    omega
  · dsimp only
    rw [eA, eG, show (decide (nAdd l s.out = N)).toNat = 1 from by simp [hAN]]
    omega
  · dsimp only
    rw [eA]
    intro hA
    omega
  · dsimp only
    rw [eA, getD_set_self hcl]
    intro _
    omega
  · dsimp only at hkx ⊢
    rw [eL]
    by_cases e : k = who
    · subst e
      rw [List.getElem?_set_self hwl] at hkx
      injection hkx with hkx
      subst hkx
      have := hi.last k _ hx (by rw [seatF_some ho, hwon])
      exact this
    · rw [List.getElem?_set_ne (fun e' => e e'.symm)] at hkx
      exact hi.last k x hkx hwn
/-- A seat is told. -/
theorem GInv.told {l : Ly} {n N : Nat} {want : List (List Opr)} {s : PSt} (hi : GInv l n N want s) {who a : Nat} {log : List (Int × Bool)} {op : Opr} {st : StepM}
    (hx : s.seats[who]? = some (a, log)) (ho : (want.getD who [])[a]? = some op) (hlen : (log.length = addAt op + 1 ∧ pWon op log = 0) ∨ (log.length = addAt op + 2 ∧ pWon op log = 1)) (hd : st.done = true) (hg : (goQ st).toNat = pWon op log) :
    GInv l n N want ⟨s.m, s.seats.set who (a + 1, []), s.out ++ [st]⟩ := by
  have hwl : who < s.seats.length := (List.getElem?_eq_some_iff.1 hx).1
  have hal := (List.getElem?_eq_some_iff.1 ho).1
  have e1 : pAdd op log = 1 := by unfold pAdd; simp; omega
  have e3 : pNs op log = 0 := by
    unfold pNs
    rcases hlen with ⟨h1, h2⟩ | ⟨h1, h2⟩
    · rw [h2]; split <;> rfl
    · rw [if_neg (by omega)]
  have z : ∀ f : Opr → List (Int × Bool) → Nat, (∀ op, f op [] = 0) → seatF f want who (a + 1, []) = 0 := fun f hf => by
    unfold seatF
    split
    · exact hf _
    · rfl
  have f1 := z pAdd (fun op => by simp [pAdd])
  have f2 := z pWon (fun op => by simp [pWon])
  have f3 := z pNs (fun op => by simp [pNs])
  have s1 := sum3_set (sAdd want) (d := z0) (y := (a + 1, [])) hi.ns hx
  have s2 := sum3_set (seatF pWon want) (d := z0) (y := (a + 1, [])) hi.ns hx
  have s3 := sum3_set (seatF pNs want) (d := z0) (y := (a + 1, [])) hi.ns hx
  simp only [sAdd, seatF_some ho, e1, f1] at s1
  simp only [seatF_some ho, f2] at s2
  simp only [seatF_some ho, e3, f3] at s3
  have eq : addQ l st = false := by simp [addQ, hd]
  have eA : nAdd l (s.out ++ [st]) = nAdd l s.out := by rw [nAdd_snoc, eq]; rfl
  have eG : nGo (s.out ++ [st]) = nGo s.out + pWon op log := by rw [nGo_snoc, hg]
  have eL : lastQ l (s.out ++ [st]) = lastQ l s.out := by rw [lastQ_snoc, eq]; rfl
  refine ⟨hi.ml, by simp [hi.ns], hi.kid, fun k x hkx => ?_, ?_, ?_, ?_, ?_, fun k x hkx hwn => ?_⟩
  · dsimp only at hkx ⊢
    by_cases e : k = who
    · subst e
      rw [List.getElem?_set_self hwl] at hkx
      injection hkx with hkx
      subst hkx
      obtain ⟨g1, g2, g3⟩ := hi.seat k _ hx
      obtain ⟨_, _, q3⟩ := g3 op ho
      refine ⟨hal, fun j op' hj ho' hk14 => ?_, fun op' ho' => ⟨by simp, fun hh => by simp at hh, fun _ => ⟨fun hh => by simp at hh, fun hh => by simp at hh, fun hh => by simp at hh⟩⟩⟩
      dsimp only at hj
      by_cases e : j = a
      · subst e
        rw [ho] at ho'
        injection ho' with ho'
        subst ho'
        have hl4 : 4 ≤ log.length := by
          have : addAt op = 3 := by simp [addAt, hk14]
          clear q3 g3 g2
          omega
        obtain ⟨w1, w2, w3⟩ := q3 hk14
        exact ⟨w2 (Nat.le_trans (by decide) hl4), w3 (Nat.le_trans (by decide) hl4)⟩
      · exact g2 j op' (by dsimp only; omega) ho' hk14
    · rw [List.getElem?_set_ne (fun e' => e e'.symm)] at hkx
      exact hi.seat k x hkx
  · dsimp only
    rw [eA, hi.adds]
    omega
  · dsimp only
    rw [eA, eG, ← hi.goes]
    omega
  · dsimp only
    rw [eA]
    exact hi.join1
  · dsimp only
    rw [eA]
    intro hA
    have := hi.join2 hA
    omega
  · dsimp only at hkx ⊢
    rw [eL]
    by_cases e : k = who
    · subst e
      rw [List.getElem?_set_self hwl] at hkx
      injection hkx with hkx
      subst hkx
      rw [f2] at hwn
      omega
    · rw [List.getElem?_set_ne (fun e' => e e'.symm)] at hkx
      exact hi.last k x hkx hwn
end Go.Proofs.Ytcjaomiihajjbaa
