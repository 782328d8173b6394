/- Makes alone, on the model: each task has a number of its own. -/
import Derived.Test.YtcjaomiihajjbaaPlayM
import Derived.Test.YtcjaomiihajjbaaPlayC
namespace Go.Proofs.Ytcjaomiihajjbaa
open Go.RowKit
set_option linter.unusedVariables false

def bsum {α : Type} (l : List α) (f : α → Nat) : Nat := (l.map f).sum
section
variable {α : Type} {l : List α} {f g : α → Nat}
theorem bsum_snoc (l : List α) (x : α) (f : α → Nat) : bsum (l ++ [x]) f = bsum l f + f x := by simp [bsum]
theorem bsum_nil (f : α → Nat) : bsum [] f = 0 := rfl
theorem bsum_cons (x : α) (l : List α) (f : α → Nat) : bsum (x :: l) f = f x + bsum l f := by simp [bsum]
theorem bsum_set {i : Nat} {x : α} (y : α) (f : α → Nat) (h : l[i]? = some x) : bsum (l.set i y) f + f x = bsum l f + f y := by
  induction l generalizing i with
  | nil => simp at h
  | cons a l ih =>
    cases i with
    | zero =>
      simp only [List.getElem?_cons_zero, Option.some.injEq] at h
      subst h
      simp only [List.set_cons_zero, bsum_cons]
      omega
    | succ i =>
      simp only [List.getElem?_cons_succ] at h
      simp only [List.set_cons_succ, bsum_cons]
      have := ih h
      omega
theorem bsum_zero (h : ∀ x ∈ l, f x = 0) : bsum l f = 0 := by
  induction l with
  | nil => rfl
  | cons a l ih =>
    rw [bsum_cons, h a (by simp), ih (fun x hx => h x (by simp [hx]))]
theorem bsum_le (h : ∀ x ∈ l, f x ≤ g x) : bsum l f ≤ bsum l g := by
  induction l with
  | nil => exact Nat.le_refl _
  | cons a l ih =>
    rw [bsum_cons, bsum_cons]
    have := h a (by simp)
    have := ih (fun x hx => h x (by simp [hx]))
    omega
theorem bsum_congr (h : ∀ x ∈ l, f x = g x) : bsum l f = bsum l g := by
  induction l with
  | nil => rfl
  | cons a l ih => rw [bsum_cons, bsum_cons, h a (by simp), ih (fun x hx => h x (by simp [hx]))]
theorem bsum_mem {x : α} (h : x ∈ l) : f x ≤ bsum l f := by
  induction l with
  | nil => simp at h
  | cons a l ih =>
    rw [bsum_cons]
    rcases List.mem_cons.1 h with rfl | h
    · omega
    · have := ih h; omega
end

def tick (x : (Nat × List (Int × Bool))) : Int := (x.2.headD (0, false)).1
def fLog (x : Nat × List (Int × Bool)) : Nat := (!x.2.isEmpty).toNat
def fTick (v : Int) (x : Nat × List (Int × Bool)) : Nat := (!x.2.isEmpty && decide (tick x = v)).toNat
def fFour (x : Nat × List (Int × Bool)) : Nat := (decide (4 ≤ x.2.length)).toNat
def fAt (x : Nat × List (Int × Bool)) : Nat := x.1
def oDone (st : StepM) : Nat := st.done.toNat
def oIs (st : StepM) : Nat := (st.done && st.is).toNat
def oVal (v : Int) (st : StepM) : Nat := (st.done && st.is && decide (st.val = v)).toNat
theorem o_no {st : StepM} (h : st.done = false) : oDone st = 0 ∧ oIs st = 0 ∧ ∀ v, oVal v st = 0 := by simp [oDone, oIs, oVal, h]
def mkOp : Opr := ⟨11, 0, 1, 0⟩
/-- What makes alone keep. -/
structure NInv (l : Ly) (s : PSt) : Prop where
  ml : (s.m.length : Int) = l.size
  cnt : s.m.getD l.count.toNat 0 = 1 + (bsum s.out oDone) + (bsum s.seats fLog)
  num : ∀ v : Int, 1 ≤ v → v < l.c.tasks → (bsum s.out (oVal (v + 1))) + (bsum s.seats (fTick v)) = (decide (v < s.m.getD l.count.toNat 0)).toNat
  joins : s.m.getD (taskAt l 1 1).toNat 0 = 1 + (bsum s.out oIs) + (bsum s.seats fFour)
  outs : ∀ st ∈ s.out, st.done = true → (st.is = true → 2 ≤ st.val ∧ st.val ≤ l.c.tasks ∧ s.m.getD (taskAt l st.val 3).toNat 0 = 1 ∧ s.m.getD (taskAt l st.val 0).toNat 0 = 1) ∧ (st.is = false → st.err = 10)
  seat : ∀ x ∈ s.seats, x.2.length ≤ 5 ∧ (x.2 ≠ [] → 1 ≤ tick x ∧ tick x < s.m.getD l.count.toNat 0) ∧ (2 ≤ x.2.length → tick x < l.c.tasks ∧ s.m.getD (taskAt l (tick x + 1) 3).toNat 0 = 1) ∧ (5 ≤ x.2.length → s.m.getD (taskAt l (tick x + 1) 0).toNat 0 = 1)
  done : (bsum s.out oDone) = bsum s.seats fAt
/-- The cells are apart. -/
theorem cells_apart {l : Ly} (h : TkOk l) : ∀ t i t' i' : Int, 1 ≤ t → t ≤ l.c.tasks → 1 ≤ t' → t' ≤ l.c.tasks → 0 ≤ i → i < 4 → 0 ≤ i' → i' < 4 → ((taskAt l t i).toNat = (taskAt l t' i').toNat ↔ t = t' ∧ i = i') := by
  intro t i t' i' h1 h2 h3 h4 h5 h6 h7 h8
  rw [taskAt_in l h1 h2 h5 h6, taskAt_in l h3 h4 h7 h8]
  have := h.fit.k0
  omega
theorem count_apart {l : Ly} (h : TkOk l) : ∀ t i : Int, 1 ≤ t → t ≤ l.c.tasks → 0 ≤ i → i < 4 → l.count.toNat ≠ (taskAt l t i).toNat := by
  intro t i h1 h2 h5 h6
  rw [taskAt_in l h1 h2 h5 h6]
  have := h.fit.k0
  have := h.c0
  have := h.c1
  omega
theorem task_lt {l : Ly} (h : TkOk l) {zs : List Int} (hz : (zs.length : Int) = l.size) : ∀ t i : Int, 1 ≤ t → t ≤ l.c.tasks → 0 ≤ i → i < 4 → 0 ≤ taskAt l t i ∧ taskAt l t i < zs.length := by
  intro t i h1 h2 h5 h6
  rw [taskAt_in l h1 h2 h5 h6]
  have := h.fit.k0
  have := h.ts
  omega
theorem getD_set_self {zs : List Int} {k : Nat} {x : Int} (h : k < zs.length) : (zs.set k x).getD k 0 = x := by
  rw [List.getD_eq_getElem?_getD, List.getElem?_set_self h]
  rfl
theorem getD_set_ne {zs : List Int} {k j : Nat} {x : Int} (h : k ≠ j) : (zs.set k x).getD j 0 = zs.getD j 0 := by
  rw [List.getD_eq_getElem?_getD, List.getElem?_set_ne h, List.getD_eq_getElem?_getD]
/-- What a make asks next. -/
theorem mk_next {l : Ly} (h : TkOk l) (log : List (Int × Bool)) : nextA l mkOp log = makeM l mkOp log := by
  have hz : ¬ taskAt l 1 0 < 0 := by
    rw [taskAt_in l (by omega) h.t1 (by omega) (by omega)]
    have := h.fit.k0
    omega
  unfold nextA nextM
  rw [show mkOp.a = 1 from rfl, if_neg hz, show mkOp.kind = 11 from rfl, if_pos rfl]
  rfl
theorem one_keep {zs : List Int} {j k : Nat} (hk : k < zs.length) (h : zs.getD j 0 = 1) : (zs.set k 1).getD j 0 = 1 := by
  by_cases e : k = j
  · subst e; exact getD_set_self hk
  · rw [getD_set_ne e]; exact h
theorem turn_ask {l : Ly} {want : List (List Opr)} {who a : Nat} {log : List (Int × Bool)} {op : Opr} {s : PSt} {k c o v : Int} (hx : s.seats[who]? = some (a, log)) (ho : (want.getD who [])[a]? = some op) (hn : nextA l op log = .ask k c o v) (he : (⟨k, c, o, v⟩ : Acc).err s.m.length = 0) :
    turnP l want who s = some ⟨(⟨k, c, o, v⟩ : Acc).make s.m, s.seats.set who (a, log ++ [((⟨k, c, o, v⟩ : Acc).had s.m, (⟨k, c, o, v⟩ : Acc).ok ((⟨k, c, o, v⟩ : Acc).had s.m))]), s.out ++ [askStep who a op ⟨k, c, o, v⟩ ((⟨k, c, o, v⟩ : Acc).had s.m, (⟨k, c, o, v⟩ : Acc).ok ((⟨k, c, o, v⟩ : Acc).had s.m))]⟩ := by
  unfold turnP
  rw [hx]
  dsimp only
  rw [ho]
  dsimp only
  rw [hn]
  exact if_pos he
theorem turn_out {l : Ly} {want : List (List Opr)} {who a : Nat} {log : List (Int × Bool)} {op : Opr} {s : PSt} {val : Int} {is : Bool} {err point : Int} (hx : s.seats[who]? = some (a, log)) (ho : (want.getD who [])[a]? = some op) (hn : nextA l op log = .out val is err point) :
    turnP l want who s = some ⟨s.m, s.seats.set who (a + 1, []), s.out ++ [doneStep who a op val is err point]⟩ := by
  unfold turnP
  rw [hx]
  dsimp only
  rw [ho]
  dsimp only
  rw [hn]
theorem turn_no {l : Ly} {want : List (List Opr)} {who a : Nat} {log : List (Int × Bool)} {s : PSt} (hx : s.seats[who]? = some (a, log)) (ho : (want.getD who [])[a]? = none) : turnP l want who s = some s := by
  unfold turnP
  rw [hx]
  dsimp only
  rw [ho]
theorem err_store {c v : Int} {n : Nat} (h0 : 0 ≤ c) (h1 : c < n) : (⟨2, c, 0, v⟩ : Acc).err n = 0 := by simp [Acc.err, Acc.right, h0, h1]
theorem err_add {c v : Int} {n : Nat} (h0 : 0 ≤ c) (h1 : c < n) : (⟨4, c, 0, v⟩ : Acc).err n = 0 := by simp [Acc.err, Acc.right, h0, h1]
theorem make_store (c v : Int) (zs : List Int) : (⟨2, c, 0, v⟩ : Acc).make zs = zs.set c.toNat v := by simp [Acc.make, Acc.next]
theorem make_add (c v : Int) (zs : List Int) (h : inR (zs.getD c.toNat 0 + v)) : (⟨4, c, 0, v⟩ : Acc).make zs = zs.set c.toNat (zs.getD c.toNat 0 + v) := by
  have : wrap64 (zs.getD c.toNat 0 + v) = zs.getD c.toNat 0 + v := by unfold inR at h; unfold wrap64; omega
  simp [Acc.make, Acc.next, Acc.had, -List.getD_eq_getElem?_getD, this]
/-- An access that stores 1 into a task's own cell. -/
theorem NInv.store1 {l : Ly} {s : PSt} {who a : Nat} {x0 : Int × Bool} {log : List (Int × Bool)} {i : Int} {r : Int × Bool} {st : StepM} (h : TkOk l) (hi : NInv l s) (hx : s.seats[who]? = some (a, x0 :: log)) (i0 : 0 ≤ i) (i4 : i < 4)
    (ht : x0.1 < l.c.tasks) (hl : (log.length = 0 ∧ i = 3) ∨ (log.length = 1 ∧ i = 1) ∨ (log.length = 3 ∧ i = 0)) (hst : st.done = false) : NInv l ⟨s.m.set (taskAt l (x0.1 + 1) i).toNat 1, s.seats.set who (a, (x0 :: log) ++ [r]), s.out ++ [st]⟩ := by
  obtain ⟨g1, g2, g3, g4⟩ := hi.seat _ (List.mem_of_getElem? hx)
  obtain ⟨t1, t2⟩ := g2 (by simp)
  have tk : tick (a, x0 :: log) = x0.1 := rfl
  rw [tk] at t1 t2
  have hlt := task_lt h hi.ml (x0.1 + 1) i (by omega) (by omega) i0 i4
  have hk : (taskAt l (x0.1 + 1) i).toNat < s.m.length := by omega
  have hc : (s.m.set (taskAt l (x0.1 + 1) i).toNat 1).getD l.count.toNat 0 = s.m.getD l.count.toNat 0 := getD_set_ne (count_apart h _ _ (by omega) (by omega) i0 i4).symm
  have hj : (s.m.set (taskAt l (x0.1 + 1) i).toNat 1).getD (taskAt l 1 1).toNat 0 = s.m.getD (taskAt l 1 1).toNat 0 := getD_set_ne (fun e => by
    have := (cells_apart h (x0.1 + 1) i 1 1 (by omega) (by omega) (by omega) h.t1 i0 i4 (by omega) (by omega)).1 e
    omega)
  have eo : ∀ f : StepM → Nat, f st = 0 → bsum (s.out ++ [st]) f = bsum s.out f := fun f hf => by rw [bsum_snoc, hf, Nat.add_zero]
  have es : ∀ f : (Nat × List (Int × Bool)) → Nat, f (a, x0 :: log) = f (a, (x0 :: log) ++ [r]) → bsum (s.seats.set who (a, (x0 :: log) ++ [r])) f = bsum s.seats f := fun f hf => by
    have := bsum_set (a, (x0 :: log) ++ [r]) f hx
    omega
  refine ⟨by simp [hi.ml], ?_, fun v h1 h2 => ?_, ?_, fun st' hs' hd => ?_, fun y hy => ?_, ?_⟩
  · dsimp only
    rw [hc, eo _ (o_no hst).1, es _ (by simp [fLog])]
    exact hi.cnt
  · dsimp only
    rw [hc, eo _ ((o_no hst).2.2 _), es _ (by simp [fTick, tick])]
    exact hi.num v h1 h2
  · dsimp only
    rw [hj, eo _ (o_no hst).2.1, es _ (by rcases hl with ⟨l1, _⟩ | ⟨l1, _⟩ | ⟨l1, _⟩ <;> simp [fFour, l1])]
    exact hi.joins
  · rcases List.mem_append.1 hs' with hs' | hs'
    · obtain ⟨o1, o2⟩ := hi.outs st' hs' hd
      exact ⟨fun h' => ⟨(o1 h').1, (o1 h').2.1, one_keep hk (o1 h').2.2.1, one_keep hk (o1 h').2.2.2⟩, o2⟩
    · simp at hs'
      subst hs'
      rw [hst] at hd
      cases hd
  · dsimp only
    rw [hc]
    rcases List.mem_or_eq_of_mem_set hy with hy | rfl
    · obtain ⟨y1, y2, y3, y4⟩ := hi.seat y hy
      exact ⟨y1, y2, fun h' => ⟨(y3 h').1, one_keep hk (y3 h').2⟩, fun h' => one_keep hk (y4 h')⟩
    · have tk2 : tick (a, (x0 :: log) ++ [r]) = x0.1 := rfl
      rw [tk2]
      refine ⟨by simp; omega, fun _ => ⟨t1, t2⟩, fun h' => ⟨ht, ?_⟩, fun h' => ?_⟩
      · rcases hl with ⟨l1, rfl⟩ | ⟨l1, rfl⟩ | ⟨l1, rfl⟩
        · exact getD_set_self hk
        · exact one_keep hk (g3 (by simp; omega)).2
        · exact one_keep hk (g3 (by simp; omega)).2
      · rcases hl with ⟨l1, rfl⟩ | ⟨l1, rfl⟩ | ⟨l1, rfl⟩
        · simp at h'; omega
        · simp at h'; omega
        · exact getD_set_self hk
  · dsimp only
    rw [eo _ (o_no hst).1, es _ rfl]
    exact hi.done
theorem bsum_le_length {α : Type} (l : List α) (f : α → Nat) (h : ∀ x ∈ l, f x ≤ 1) : bsum l f ≤ l.length := by
  induction l with
  | nil => exact Nat.le_refl _
  | cons a l ih =>
    rw [bsum_cons]
    have := h a (by simp)
    have := ih (fun x hx => h x (by simp [hx]))
    simp
    omega
theorem toNat_le (b : Bool) : b.toNat ≤ 1 := by cases b <;> decide
/-- Who takes a number: Count goes up by one. -/
theorem NInv.ticket {l : Ly} {s : PSt} {who a : Nat} {b : Bool} {st : StepM} (h : TkOk l) (hi : NInv l s) (hx : s.seats[who]? = some (a, [])) (hst : st.done = false) : NInv l ⟨s.m.set l.count.toNat (s.m.getD l.count.toNat 0 + 1), s.seats.set who (a, [] ++ [(s.m.getD l.count.toNat 0, b)]), s.out ++ [st]⟩ := by
  have hcnt := hi.cnt
  have hk : l.count.toNat < s.m.length := by have := hi.ml; have := h.c0; have := h.c1; have := h.ts; have := h.fit.t0; omega
  have hc : (s.m.set l.count.toNat (s.m.getD l.count.toNat 0 + 1)).getD l.count.toNat 0 = s.m.getD l.count.toNat 0 + 1 := getD_set_self hk
  have hm : ∀ t i : Int, 1 ≤ t → t ≤ l.c.tasks → 0 ≤ i → i < 4 → (s.m.set l.count.toNat (s.m.getD l.count.toNat 0 + 1)).getD (taskAt l t i).toNat 0 = s.m.getD (taskAt l t i).toNat 0 := fun t i h1 h2 h3 h4 => getD_set_ne (count_apart h t i h1 h2 h3 h4)
  generalize hC : s.m.getD l.count.toNat 0 = C at *
  have eo : ∀ f : StepM → Nat, f st = 0 → bsum (s.out ++ [st]) f = bsum s.out f := fun f hf => by rw [bsum_snoc, hf, Nat.add_zero]
  have es := fun f : (Nat × List (Int × Bool)) → Nat => bsum_set (a, [] ++ [(C, b)]) f hx
  refine ⟨by simp [hi.ml], ?_, fun v h1 h2 => ?_, ?_, fun st' hs' hd => ?_, fun y hy => ?_, ?_⟩
  · dsimp only
    have e1 : bsum (s.seats.set who (a, [] ++ [(C, b)])) fLog + 0 = bsum s.seats fLog + 1 := es fLog
    rw [hc, eo _ (o_no hst).1]
    omega
  · dsimp only
    have e1 : bsum (s.seats.set who (a, [] ++ [(C, b)])) (fTick v) + 0 = bsum s.seats (fTick v) + (decide (C = v)).toNat := es (fTick v)
    rw [hc, eo _ ((o_no hst).2.2 _)]
    have e2 := hi.num v h1 h2
    rw [hC] at e2
    by_cases hv : v < C
    · have e0 : (decide (C = v)).toNat = 0 := by simp; omega
      have e3 : (decide (v < C)).toNat = 1 := by simp [hv]
      have e4 : (decide (v < C + 1)).toNat = 1 := by
        have : v < C + 1 := by omega
        simp [this]
      omega
    · have e3 : (decide (v < C)).toNat = 0 := by simp [hv]
      by_cases hv2 : C = v
      · have e0 : (decide (C = v)).toNat = 1 := by simp [hv2]
        have e4 : (decide (v < C + 1)).toNat = 1 := by
          have : v < C + 1 := by omega
          simp [this]
        omega
      · have e0 : (decide (C = v)).toNat = 0 := by simp [hv2]
        have e4 : (decide (v < C + 1)).toNat = 0 := by
          have : ¬ v < C + 1 := by omega
          simp [this]
        omega
  · dsimp only
    have e1 : bsum (s.seats.set who (a, [] ++ [(C, b)])) fFour + 0 = bsum s.seats fFour + 0 := es fFour
    rw [hm 1 1 (by omega) h.t1 (by omega) (by omega), eo _ (o_no hst).2.1]
    have := hi.joins
    omega
  · dsimp only
    rcases List.mem_append.1 hs' with hs' | hs'
    · obtain ⟨o1, o2⟩ := hi.outs st' hs' hd
      refine ⟨fun h' => ?_, o2⟩
      obtain ⟨q1, q2, q3, q4⟩ := o1 h'
      exact ⟨q1, q2, by rw [hm _ _ (by omega) q2 (by omega) (by omega)]; exact q3, by rw [hm _ _ (by omega) q2 (by omega) (by omega)]; exact q4⟩
    · simp at hs'
      subst hs'
      rw [hst] at hd
      cases hd
  · dsimp only
    rw [hc]
    rcases List.mem_or_eq_of_mem_set hy with hy | rfl
    · obtain ⟨y1, y2, y3, y4⟩ := hi.seat y hy
      rw [hC] at y2
      refine ⟨y1, fun h' => ⟨(y2 h').1, by have := (y2 h').2; omega⟩, fun h' => ⟨(y3 h').1, ?_⟩, fun h' => ?_⟩
      · have q := y2 (by intro e; rw [e] at h'; simp at h')
        rw [hm _ _ (by omega) (by have := (y3 h').1; omega) (by omega) (by omega)]
        exact (y3 h').2
      · have q := y2 (by intro e; rw [e] at h'; simp at h')
        rw [hm _ _ (by omega) (by have := (y3 (by omega)).1; omega) (by omega) (by omega)]
        exact y4 h'
    · refine ⟨by simp, fun _ => ⟨?_, ?_⟩, fun h' => by simp at h', fun h' => by simp at h'⟩
      · simp [tick]; omega
      · simp [tick]; omega
  · dsimp only
    have e1 : bsum (s.seats.set who (a, [] ++ [(C, b)])) fAt + a = bsum s.seats fAt + a := es fAt
    rw [eo _ (o_no hst).1]
    have := hi.done
    omega
/-- Who has taken its number adds one to the joins. -/
theorem NInv.join {l : Ly} {s : PSt} {who a : Nat} {x0 x1 x2 r : Int × Bool} {st : StepM} (h : TkOk l) (hi : NInv l s) (hx : s.seats[who]? = some (a, [x0, x1, x2])) (hst : st.done = false) : NInv l ⟨s.m.set (taskAt l 1 1).toNat (s.m.getD (taskAt l 1 1).toNat 0 + 1), s.seats.set who (a, [x0, x1, x2] ++ [r]), s.out ++ [st]⟩ := by
  have hlt := task_lt h hi.ml 1 1 (by omega) h.t1 (by omega) (by omega)
  have hk : (taskAt l 1 1).toNat < s.m.length := by omega
  have hJ := hi.joins
  have hc : (s.m.set (taskAt l 1 1).toNat (s.m.getD (taskAt l 1 1).toNat 0 + 1)).getD l.count.toNat 0 = s.m.getD l.count.toNat 0 := getD_set_ne (count_apart h _ _ (by omega) h.t1 (by omega) (by omega)).symm
  have hs : (s.m.set (taskAt l 1 1).toNat (s.m.getD (taskAt l 1 1).toNat 0 + 1)).getD (taskAt l 1 1).toNat 0 = s.m.getD (taskAt l 1 1).toNat 0 + 1 := getD_set_self hk
  have hm : ∀ t i : Int, 1 ≤ t → t ≤ l.c.tasks → 0 ≤ i → i < 4 → i ≠ 1 → (s.m.set (taskAt l 1 1).toNat (s.m.getD (taskAt l 1 1).toNat 0 + 1)).getD (taskAt l t i).toNat 0 = s.m.getD (taskAt l t i).toNat 0 := fun t i h1 h2 h3 h4 h5 => getD_set_ne (fun e => by
    have := (cells_apart h 1 1 t i (by omega) h.t1 h1 h2 (by omega) (by omega) h3 h4).1 e
    omega)
  have eo : ∀ f : StepM → Nat, f st = 0 → bsum (s.out ++ [st]) f = bsum s.out f := fun f hf => by rw [bsum_snoc, hf, Nat.add_zero]
  have es := fun f : (Nat × List (Int × Bool)) → Nat => bsum_set (a, [x0, x1, x2] ++ [r]) f hx
  refine ⟨by simp [hi.ml], ?_, fun v h1 h2 => ?_, ?_, fun st' hs' hd => ?_, fun y hy => ?_, ?_⟩
  · dsimp only
    have e1 : bsum (s.seats.set who (a, [x0, x1, x2] ++ [r])) fLog + 1 = bsum s.seats fLog + 1 := es fLog
    rw [hc, eo _ (o_no hst).1]
    have := hi.cnt
    omega
  · dsimp only
    have e1 : bsum (s.seats.set who (a, [x0, x1, x2] ++ [r])) (fTick v) + fTick v (a, [x0, x1, x2]) = bsum s.seats (fTick v) + fTick v (a, [x0, x1, x2]) := es (fTick v)
    rw [hc, eo _ ((o_no hst).2.2 _)]
    have := hi.num v h1 h2
    omega
  · dsimp only
    have e1 : bsum (s.seats.set who (a, [x0, x1, x2] ++ [r])) fFour + 0 = bsum s.seats fFour + 1 := es fFour
    rw [hs, eo _ (o_no hst).2.1]
    omega
  · dsimp only
    rcases List.mem_append.1 hs' with hs' | hs'
    · obtain ⟨o1, o2⟩ := hi.outs st' hs' hd
      refine ⟨fun h' => ?_, o2⟩
      obtain ⟨q1, q2, q3, q4⟩ := o1 h'
      exact ⟨q1, q2, by rw [hm _ _ (by omega) q2 (by omega) (by omega) (by omega)]; exact q3, by rw [hm _ _ (by omega) q2 (by omega) (by omega) (by omega)]; exact q4⟩
    · simp at hs'
      subst hs'
      rw [hst] at hd
      cases hd
  · dsimp only
    rw [hc]
    have hold : ∀ y : (Nat × List (Int × Bool)), y ∈ s.seats → y.2.length ≤ 5 ∧ (y.2 ≠ [] → 1 ≤ tick y ∧ tick y < s.m.getD l.count.toNat 0) ∧ (2 ≤ y.2.length → tick y < l.c.tasks ∧ (s.m.set (taskAt l 1 1).toNat (s.m.getD (taskAt l 1 1).toNat 0 + 1)).getD (taskAt l (tick y + 1) 3).toNat 0 = 1) ∧ (5 ≤ y.2.length → (s.m.set (taskAt l 1 1).toNat (s.m.getD (taskAt l 1 1).toNat 0 + 1)).getD (taskAt l (tick y + 1) 0).toNat 0 = 1) := fun y hy => by
      obtain ⟨y1, y2, y3, y4⟩ := hi.seat y hy
      refine ⟨y1, y2, fun h' => ⟨(y3 h').1, ?_⟩, fun h' => ?_⟩
      · have q := y2 (by intro e; rw [e] at h'; simp at h')
        rw [hm _ _ (by omega) (by have := (y3 h').1; omega) (by omega) (by omega) (by omega)]
        exact (y3 h').2
      · have q := y2 (by intro e; rw [e] at h'; simp at h')
        rw [hm _ _ (by omega) (by have := (y3 (by omega)).1; omega) (by omega) (by omega) (by omega)]
        exact y4 h'
    rcases List.mem_or_eq_of_mem_set hy with hy | rfl
    · exact hold y hy
    · obtain ⟨y1, y2, y3, y4⟩ := hold _ (List.mem_of_getElem? hx)
      have tk : tick (a, [x0, x1, x2] ++ [r]) = tick (a, [x0, x1, x2]) := rfl
      rw [tk]
      exact ⟨by simp, fun _ => y2 (by simp), fun _ => y3 (by simp), fun h' => by simp at h'⟩
  · dsimp only
    have e1 : bsum (s.seats.set who (a, [x0, x1, x2] ++ [r])) fAt + a = bsum s.seats fAt + a := es fAt
    rw [eo _ (o_no hst).1]
    have := hi.done
    omega
/-- An end of a make. -/
theorem NInv.ended {l : Ly} {s : PSt} {who a : Nat} {x0 : Int × Bool} {log : List (Int × Bool)} {val : Int} {is : Bool} {err : Int} {st : StepM} (h : TkOk l) (hi : NInv l s) (hx : s.seats[who]? = some (a, x0 :: log)) (hd : st.done = true) (he : st.is = is) (hv : st.val = val) (hr : st.err = err)
    (hc : (is = false ∧ err = 10 ∧ log = [] ∧ l.c.tasks ≤ x0.1) ∨ (is = true ∧ val = x0.1 + 1 ∧ log.length = 4)) : NInv l ⟨s.m, s.seats.set who (a + 1, []), s.out ++ [st]⟩ := by
  obtain ⟨g1, g2, g3, g4⟩ := hi.seat _ (List.mem_of_getElem? hx)
  obtain ⟨t1, t2⟩ := g2 (by simp)
  have tk : tick (a, x0 :: log) = x0.1 := rfl
  rw [tk] at t1 t2 g3 g4
  have es := fun f : (Nat × List (Int × Bool)) → Nat => bsum_set (a + 1, []) f hx
  refine ⟨hi.ml, ?_, fun v h1 h2 => ?_, ?_, fun st' hs' hd' => ?_, fun y hy => ?_, ?_⟩
  · dsimp only
    have e1 : bsum (s.seats.set who (a + 1, [])) fLog + 1 = bsum s.seats fLog + 0 := es fLog
    have := hi.cnt
    have o1 : oDone st = 1 := by simp [oDone, hd]
    rw [bsum_snoc, o1]
    omega
  · dsimp only
    have e1 : bsum (s.seats.set who (a + 1, [])) (fTick v) + (decide (x0.1 = v)).toNat = bsum s.seats (fTick v) + 0 := es (fTick v)
    have := hi.num v h1 h2
    rw [bsum_snoc]
    rcases hc with ⟨rfl, _, _, h5⟩ | ⟨rfl, rfl, _⟩
    · have e0 : (decide (x0.1 = v)).toNat = 0 := by
        have : ¬ x0.1 = v := by omega
        simp [this]
      have o1 : oVal (v + 1) st = 0 := by simp [oVal, he]
      omega
    · have o1 : oVal (v + 1) st = (decide (x0.1 = v)).toNat := by
        unfold oVal
        rw [hd, he, hv]
        congr 1
        by_cases hh : x0.1 = v <;> simp [hh]
      omega
  · dsimp only
    have e1 := es fFour
    have hj := hi.joins
    rw [bsum_snoc]
    rcases hc with ⟨rfl, _, rfl, h5⟩ | ⟨rfl, rfl, h6⟩
    · have f1 : fFour (a, [x0]) = 0 := rfl
      have f2 : fFour (a + 1, []) = 0 := rfl
      have o1 : oIs st = 0 := by simp [oIs, he]
      omega
    · have f1 : fFour (a, x0 :: log) = 1 := by simp [fFour, h6]
      have f2 : fFour (a + 1, []) = 0 := rfl
      have o1 : oIs st = 1 := by simp [oIs, he, hd]
      omega
  · dsimp only
    rcases List.mem_append.1 hs' with hs' | hs'
    · exact hi.outs st' hs' hd'
    · simp at hs'
      subst hs'
      rcases hc with ⟨rfl, h4, _, _⟩ | ⟨rfl, h4, h6⟩
      · exact ⟨(fun h' => by rw [he] at h'; cases h'), fun _ => by rw [hr]; exact h4⟩
      · refine ⟨fun _ => ?_, (fun h' => by rw [he] at h'; cases h')⟩
        have q := g3 (by simp; omega)
        rw [hv, h4]
        exact ⟨by omega, by omega, q.2, g4 (by simp; omega)⟩
  · rcases List.mem_or_eq_of_mem_set hy with hy | rfl
    · exact hi.seat y hy
    · exact ⟨by simp, fun h' => absurd rfl h', fun h' => by simp at h', fun h' => by simp at h'⟩
  · dsimp only
    have e1 : bsum (s.seats.set who (a + 1, [])) fAt + a = bsum s.seats fAt + (a + 1) := es fAt
    have := hi.done
    have o1 : oDone st = 1 := by simp [oDone, hd]
    rw [bsum_snoc, o1]
    omega
end Go.Proofs.Ytcjaomiihajjbaa
