/- TaskGoesOn: the memory behind the makes; what is wanted. -/
import Derived.Test.YtcjaomiihajjbaaGoQ
import Derived.Test.YtcjaomiihajjbaaPlayD
namespace Go.Proofs.Ytcjaomiihajjbaa
open Go.RowKit
set_option linter.unusedVariables false

structure KInv (l : Ly) (i : Nat) (m : List Int) : Prop where
  ml : (m.length : Int) = l.size
  cnt : m.getD l.count.toNat 0 = 1 + i
  join : m.getD (taskAt l 1 1).toNat 0 = 1 + i
  kid : ∀ t : Int, 2 ≤ t → t < 2 + i → m.getD (taskAt l t 3).toNat 0 = 1
  mr : ∀ z ∈ m, inR z
/-- A make that is alone: the memory and its log behind k accesses. -/
def mkS (l : Ly) (m : List Int) : Nat → List Int × List (Int × Bool)
  | 0 => (m, [])
  | k + 1 => match nextA l mkOp (mkS l m k).2 with
    | .ask k' c o v => ((⟨k', c, o, v⟩ : Acc).make (mkS l m k).1, (mkS l m k).2 ++ [((⟨k', c, o, v⟩ : Acc).had (mkS l m k).1, (⟨k', c, o, v⟩ : Acc).ok ((⟨k', c, o, v⟩ : Acc).had (mkS l m k).1))])
    | .out _ _ _ _ => mkS l m k
theorem mkS_ask {l : Ly} {m : List Int} {k : Nat} {k' c o v : Int} (h : nextA l mkOp (mkS l m k).2 = .ask k' c o v) :
    mkS l m (k + 1) = ((⟨k', c, o, v⟩ : Acc).make (mkS l m k).1, (mkS l m k).2 ++ [((⟨k', c, o, v⟩ : Acc).had (mkS l m k).1, (⟨k', c, o, v⟩ : Acc).ok ((⟨k', c, o, v⟩ : Acc).had (mkS l m k).1))]) := by
  rw [mkS, h]
structure MkAll (l : Ly) (i : Nat) (m : List Int) : Prop where
  asks : ∀ k, k < 5 → ∃ k' c o v, nextA l mkOp (mkS l m k).2 = .ask k' c o v ∧ (⟨k', c, o, v⟩ : Acc).err (mkS l m k).1.length = 0
  outs : ∃ val is err point, nextA l mkOp (mkS l m 5).2 = .out val is err point
  next : KInv l (i + 1) (mkS l m 5).1
  fits : ∀ k, k ≤ 5 → (mkS l m k).1.length = m.length ∧ (mkS l m k).2.length = k ∧ (∀ z ∈ (mkS l m k).1, inR z) ∧ (∀ r ∈ (mkS l m k).2, inR r.1)
theorem mk_all {l : Ly} {i : Nat} {m : List Int} (h : TkOk l) (hk : KInv l i m) (hi : 2 + (i : Int) ≤ l.c.tasks) (hb : i ≤ 10) : MkAll l i m := by
  obtain ⟨c0, c1⟩ : 0 ≤ l.count ∧ l.count < m.length := by have := h.c0; have := h.c1; have := hk.ml; have := h.ts; have := h.fit.k0; omega
  have cl : ∀ t j : Int, 1 ≤ t → t ≤ l.c.tasks → 0 ≤ j → j < 4 → 0 ≤ taskAt l t j ∧ taskAt l t j < m.length := fun t j t1 t2 j0 j4 => task_lt h hk.ml t j t1 t2 j0 j4
  obtain ⟨p0, p1⟩ := cl (i + 2) 3 (by omega) (by omega) (by omega) (by omega)
  obtain ⟨q0, q1⟩ := cl (i + 2) 1 (by omega) (by omega) (by omega) (by omega)
  obtain ⟨j0, j1⟩ := cl 1 1 (by omega) h.t1 (by omega) (by omega)
  obtain ⟨w0, w1⟩ := cl (i + 2) 0 (by omega) (by omega) (by omega) (by omega)
  have ap := cells_apart h
  have ac := count_apart h
  -- one access behind the other
  have n0 : nextA l mkOp (mkS l m 0).2 = .ask 4 l.count 0 1 := by rw [mk_next h]; rfl
  have s1 := mkS_ask n0
  rw [show (mkS l m 0).1 = m from rfl, show (mkS l m 0).2 = [] from rfl, make_add _ _ _ (by rw [hk.cnt]; exact ⟨by omega, by omega⟩)] at s1
  rw [show (⟨4, l.count, 0, 1⟩ : Acc).had m = 1 + (i : Int) from hk.cnt, hk.cnt] at s1
  generalize (⟨4, l.count, 0, 1⟩ : Acc).ok (1 + (i : Int)) = g0 at s1
  obtain ⟨m1, hm1⟩ : ∃ m1, m.set l.count.toNat (1 + (i : Int) + 1) = m1 := ⟨_, rfl⟩
  rw [hm1] at s1
  have l1 : m1.length = m.length := by rw [← hm1]; simp
  have hlt : ¬ l.c.tasks ≤ 1 + (i : Int) := by omega
  have et : (1 + (i : Int)) + 1 = i + 2 := by omega
  have n1 : nextA l mkOp (mkS l m 1).2 = .ask 2 (taskAt l (i + 2) 3) 0 1 := by
    rw [mk_next h, s1]
    unfold makeM
    rw [askM_some (x := (1 + (i : Int), g0)) rfl, if_neg hlt, askM_none rfl, et]
    rfl
  have s2 := mkS_ask n1
  rw [s1, make_store] at s2
  dsimp only at s2
  generalize ((⟨2, taskAt l (i + 2) 3, 0, 1⟩ : Acc).had m1, (⟨2, taskAt l (i + 2) 3, 0, 1⟩ : Acc).ok ((⟨2, taskAt l (i + 2) 3, 0, 1⟩ : Acc).had m1)) = r1 at s2
  obtain ⟨m2, hm2⟩ : ∃ m2, m1.set (taskAt l (i + 2) 3).toNat 1 = m2 := ⟨_, rfl⟩
  rw [hm2] at s2
  have l2 : m2.length = m.length := by rw [← hm2]; simp [l1]
  have n2 : nextA l mkOp (mkS l m 2).2 = .ask 2 (taskAt l (i + 2) 1) 0 1 := by
    rw [mk_next h, s2]
    unfold makeM
    rw [askM_some (x := (1 + (i : Int), g0)) rfl, if_neg hlt, askM_some (x := r1) rfl, askM_none rfl, et]
  have s3 := mkS_ask n2
  rw [s2, make_store] at s3
  dsimp only at s3
  generalize ((⟨2, taskAt l (i + 2) 1, 0, 1⟩ : Acc).had m2, (⟨2, taskAt l (i + 2) 1, 0, 1⟩ : Acc).ok ((⟨2, taskAt l (i + 2) 1, 0, 1⟩ : Acc).had m2)) = r2 at s3
  obtain ⟨m3, hm3⟩ : ∃ m3, m2.set (taskAt l (i + 2) 1).toNat 1 = m3 := ⟨_, rfl⟩
  rw [hm3] at s3
  have l3 : m3.length = m.length := by rw [← hm3]; simp [l2]
  have n3 : nextA l mkOp (mkS l m 3).2 = .ask 4 (taskAt l 1 1) 0 1 := by
    rw [mk_next h, s3]
    unfold makeM
    rw [askM_some (x := (1 + (i : Int), g0)) rfl, if_neg hlt, askM_some (x := r1) rfl, askM_some (x := r2) rfl, askM_none rfl]
    rfl
  have j3 : m3.getD (taskAt l 1 1).toNat 0 = 1 + (i : Int) := by
    rw [← hm3, getD_set_ne (fun e => by have := (ap _ _ _ _ (by omega) (by omega) (by omega) h.t1 (by omega) (by omega) (by omega) (by omega)).1 e; omega), ← hm2, getD_set_ne (fun e => by have := (ap _ _ _ _ (by omega) (by omega) (by omega) h.t1 (by omega) (by omega) (by omega) (by omega)).1 e; omega), ← hm1, getD_set_ne (ac 1 1 (by omega) h.t1 (by omega) (by omega))]
    exact hk.join
  have s4 := mkS_ask n3
  rw [s3] at s4
  dsimp only at s4
  rw [make_add _ _ _ (by rw [j3]; exact ⟨by omega, by omega⟩), j3] at s4
  generalize ((⟨4, taskAt l 1 1, 0, 1⟩ : Acc).had m3, (⟨4, taskAt l 1 1, 0, 1⟩ : Acc).ok ((⟨4, taskAt l 1 1, 0, 1⟩ : Acc).had m3)) = r3 at s4
  obtain ⟨m4, hm4⟩ : ∃ m4, m3.set (taskAt l 1 1).toNat (1 + (i : Int) + 1) = m4 := ⟨_, rfl⟩
  rw [hm4] at s4
  have l4 : m4.length = m.length := by rw [← hm4]; simp [l3]
  have n4 : nextA l mkOp (mkS l m 4).2 = .ask 2 (taskAt l (i + 2) 0) 0 1 := by
    rw [mk_next h, s4]
    unfold makeM
    rw [askM_some (x := (1 + (i : Int), g0)) rfl, if_neg hlt, askM_some (x := r1) rfl, askM_some (x := r2) rfl, askM_some (x := r3) rfl, askM_none rfl, et]
  have s5 := mkS_ask n4
  rw [s4, make_store] at s5
  dsimp only at s5
  generalize ((⟨2, taskAt l (i + 2) 0, 0, 1⟩ : Acc).had m4, (⟨2, taskAt l (i + 2) 0, 0, 1⟩ : Acc).ok ((⟨2, taskAt l (i + 2) 0, 0, 1⟩ : Acc).had m4)) = r4 at s5
  obtain ⟨m5, hm5⟩ : ∃ m5, m4.set (taskAt l (i + 2) 0).toNat 1 = m5 := ⟨_, rfl⟩
  rw [hm5] at s5
  have l5 : m5.length = m.length := by rw [← hm5]; simp [l4]
  have n5 : nextA l mkOp (mkS l m 5).2 = .out (1 + (i : Int) + 1) true 0 4 := by
    rw [mk_next h, s5]
    unfold makeM
    rw [askM_some (x := (1 + (i : Int), g0)) rfl, if_neg hlt, askM_some (x := r1) rfl, askM_some (x := r2) rfl, askM_some (x := r3) rfl, askM_some (x := r4) rfl]
  have asks : ∀ k, k < 5 → ∃ k' c o v, nextA l mkOp (mkS l m k).2 = .ask k' c o v ∧ (⟨k', c, o, v⟩ : Acc).err (mkS l m k).1.length = 0 := by
    intro k hk5
    obtain rfl | rfl | rfl | rfl | rfl : k = 0 ∨ k = 1 ∨ k = 2 ∨ k = 3 ∨ k = 4 := by omega
    · exact ⟨_, _, _, _, n0, err_add c0 c1⟩
    · exact ⟨_, _, _, _, n1, by rw [s1]; dsimp only; rw [l1]; exact err_store p0 p1⟩
    · exact ⟨_, _, _, _, n2, by rw [s2]; dsimp only; rw [l2]; exact err_store q0 q1⟩
    · exact ⟨_, _, _, _, n3, by rw [s3]; dsimp only; rw [l3]; exact err_add j0 j1⟩
    · exact ⟨_, _, _, _, n4, by rw [s4]; dsimp only; rw [l4]; exact err_store w0 w1⟩
  have fits : ∀ k, k ≤ 5 → (mkS l m k).1.length = m.length ∧ (mkS l m k).2.length = k ∧ (∀ z ∈ (mkS l m k).1, inR z) ∧ (∀ r ∈ (mkS l m k).2, inR r.1) := by
    intro k
    induction k with
    | zero => intro _; exact ⟨rfl, rfl, hk.mr, fun r hr => by simp [mkS] at hr⟩
    | succ k ih =>
      intro hk5
      obtain ⟨i1, i2, i3, i4⟩ := ih (by omega)
      obtain ⟨k', c, o, v, e1, e2⟩ := asks k (by omega)
      rw [mkS_ask e1]
      have hh := i3 _ (had_mem e2)
      have hv := nextA_inR e1 (by exact ⟨by simp [mkOp], by simp [mkOp]⟩) (by exact ⟨by simp [mkOp], by simp [mkOp]⟩)
      refine ⟨by dsimp only; rw [Acc.make_length, i1], by simp [i2], fun z hz => ?_, fun r hr => ?_⟩
      · rcases Acc.make_mem hz with hz | rfl
        · exact i3 z hz
        · exact next_inR hh hv
      · rcases List.mem_append.1 hr with hr | hr
        · exact i4 r hr
        · simp at hr
          subst hr
          exact hh
  refine ⟨asks, ⟨_, _, _, _, n5⟩, ?_, fits⟩
  rw [s5]
  have hset : ∀ (x : List Int) (a b : Nat) (v : Int), x.length = m.length → a ≠ b → (x.set a v).getD b 0 = x.getD b 0 := fun x a b v _ hn => getD_set_ne hn
  have m5r : ∀ z ∈ m5, inR z := by have := (fits 5 (Nat.le_refl _)).2.2.1; rw [s5] at this; exact this
  refine ⟨by dsimp only; rw [l5]; exact hk.ml, ?_, ?_, fun t t1 t2 => ?_, m5r⟩
  · dsimp only
    rw [← hm5, getD_set_ne (fun e => ac _ _ (by omega) (by omega) (by omega) (by omega) e.symm), ← hm4, getD_set_ne (fun e => ac _ _ (by omega) h.t1 (by omega) (by omega) e.symm), ← hm3, getD_set_ne (fun e => ac _ _ (by omega) (by omega) (by omega) (by omega) e.symm), ← hm2, getD_set_ne (fun e => ac _ _ (by omega) (by omega) (by omega) (by omega) e.symm), ← hm1, getD_set_self (by omega)]
    omega
  · dsimp only
    rw [← hm5, getD_set_ne (fun e => by have := (ap _ _ _ _ (by omega) (by omega) (by omega) h.t1 (by omega) (by omega) (by omega) (by omega)).1 e; omega), ← hm4, getD_set_self (by omega)]
    omega
  · dsimp only
    have k0 : m1.getD (taskAt l t 3).toNat 0 = m.getD (taskAt l t 3).toNat 0 := by rw [← hm1, getD_set_ne (ac t 3 (by omega) (by omega) (by omega) (by omega))]
    have k5 : m5.getD (taskAt l t 3).toNat 0 = m2.getD (taskAt l t 3).toNat 0 := by
      rw [← hm5, getD_set_ne (fun e => by have := (ap _ _ t 3 (by omega) (by omega) (by omega) (by omega) (by omega) (by omega) (by omega) (by omega)).1 e; omega), ← hm4, getD_set_ne (fun e => by have := (ap _ _ t 3 (by omega) h.t1 (by omega) (by omega) (by omega) (by omega) (by omega) (by omega)).1 e; omega), ← hm3, getD_set_ne (fun e => by have := (ap _ _ t 3 (by omega) (by omega) (by omega) (by omega) (by omega) (by omega) (by omega) (by omega)).1 e; omega)]
    rw [k5, ← hm2]
    by_cases e : t = i + 2
    · subst e
      exact getD_set_self (by omega)
    · rw [getD_set_ne (fun e' => by have := (ap _ _ t 3 (by omega) (by omega) (by omega) (by omega) (by omega) (by omega) (by omega) (by omega)).1 e'; omega), k0]
      exact hk.kid t t1 (by omega)
theorem begin_kinv {l : Ly} (h : TkOk l) : KInv l 0 (beginM l) := by
  obtain ⟨e1, e2, e3, _, _⟩ := begin_get h
  exact ⟨e3, by rw [e1]; rfl, by rw [e2]; rfl, fun t t1 t2 => by omega, (start_inv l 3).mr⟩
/-- The memory behind i makes. -/
def kidM (l : Ly) : Nat → List Int
  | 0 => beginM l
  | i + 1 => (mkS l (kidM l i) 5).1
theorem kidM_inv {l : Ly} (h : TkOk l) (i : Nat) (hi : 1 + (i : Int) ≤ l.c.tasks) (hb : i ≤ 10) : KInv l i (kidM l i) := by
  induction i with
  | zero => exact begin_kinv h
  | succ i ih => exact (mk_all h (ih (by omega) (by omega)) (by omega) (by omega)).next
/-- What is wanted behind i kids. -/
def kwant (kids : List Nat) : Nat → List (List Opr)
  | 0 => [[], [], []]
  | i + 1 => (kwant kids i).set (kids.getD i 0 % 3) ((kwant kids i).getD (kids.getD i 0 % 3) [] ++ [enOp (2 + (i : Int))])
structure KWant (i : Nat) (want : List (List Opr)) : Prop where
  len : want.length = 3
  ok : ∀ (k j : Nat) (op : Opr), (want.getD k [])[j]? = some op → ∃ a : Int, op = enOp a ∧ 2 ≤ a ∧ a < 2 + (i : Int)
  many : lens3 want = i
  each : ∀ k, (want.getD k []).length ≤ i
  has : ∀ q : Nat, q < i → ∃ k j : Nat, k < 3 ∧ (want.getD k [])[j]? = some (enOp (2 + (q : Int)))
theorem getD_set3 {α : Type} {L : List α} {k w : Nat} {x d : α} (hw : w < L.length) : (L.set w x).getD k d = if k = w then x else L.getD k d := by
  rw [List.getD_eq_getElem?_getD, List.getD_eq_getElem?_getD]
  by_cases e : k = w
  · subst e
    rw [List.getElem?_set_self hw, if_pos rfl]
    rfl
  · rw [List.getElem?_set_ne (fun e' => e e'.symm), if_neg e]
theorem lens3_set {L : List (List Opr)} {w : Nat} {op : Opr} (h3 : L.length = 3) (hw : w < 3) : lens3 (L.set w (L.getD w [] ++ [op])) = lens3 L + 1 := by
  match L, h3 with
  | [a, b, c], _ =>
    obtain rfl | rfl | rfl : w = 0 ∨ w = 1 ∨ w = 2 := by omega
    all_goals
      simp [lens3]
      try omega
theorem kwant_inv (kids : List Nat) (i : Nat) : KWant i (kwant kids i) := by
  induction i with
  | zero =>
    have h0 : ∀ k, ([[], [], []] : List (List Opr)).getD k [] = [] := fun k => by
      match k with
      | 0 => rfl
      | 1 => rfl
      | 2 => rfl
      | k + 3 => rfl
    refine ⟨rfl, fun k j op ho => ?_, rfl, fun k => ?_, fun q hq => by omega⟩
    · rw [kwant, h0] at ho; simp at ho
    · rw [kwant, h0]; simp
  | succ i ih =>
    have hw : kids.getD i 0 % 3 < 3 := Nat.mod_lt _ (by omega)
    have hwl : kids.getD i 0 % 3 < (kwant kids i).length := by rw [ih.len]; exact hw
    rw [kwant]
    refine ⟨by simp [ih.len], fun k j op ho => ?_, by rw [lens3_set ih.len hw, ih.many], fun k => ?_, fun q hq => ?_⟩
    · rw [getD_set3 hwl] at ho
      have weak : ∀ k j : Nat, ((kwant kids i).getD k [])[j]? = some op → ∃ a : Int, op = enOp a ∧ 2 ≤ a ∧ a < 2 + ((i + 1 : Nat) : Int) := fun k j h => by
        obtain ⟨a, e, a1, a2⟩ := ih.ok k j op h
        exact ⟨a, e, a1, by omega⟩
      split at ho
      · by_cases hj : j < ((kwant kids i).getD (kids.getD i 0 % 3) []).length
        · rw [List.getElem?_append_left hj] at ho
          exact weak _ _ ho
        · rw [List.getElem?_append_right (by omega)] at ho
          have := List.mem_of_getElem? ho
          simp at this
          exact ⟨_, this, by omega, by omega⟩
      · exact weak _ _ ho
    · rw [getD_set3 hwl]
      split
      · have := ih.each (kids.getD i 0 % 3)
        simp only [List.length_append, List.length_singleton]
        omega
      · have := ih.each k
        omega
    · by_cases e : q = i
      · subst e
        refine ⟨_, ((kwant kids q).getD (kids.getD q 0 % 3) []).length, hw, ?_⟩
        rw [getD_set3 hwl, if_pos rfl, List.getElem?_append_right (Nat.le_refl _)]
        simp
      · obtain ⟨k, j, k3, hj⟩ := ih.has q (by omega)
        refine ⟨k, j, k3, ?_⟩
        rw [getD_set3 hwl]
        split
        · rename_i ek
          rw [← ek, List.getElem?_append_left (List.getElem?_eq_some_iff.1 hj).1]
          exact hj
        · exact hj
def gwant (kids : List Nat) (n : Nat) : List (List Opr) := (kwant kids n).set 0 ((kwant kids n).getD 0 [] ++ [syOp])
structure GWant (n : Nat) (want : List (List Opr)) : Prop where
  len : want.length = 3
  ok : GOk n want
  many : lens3 want = n + 1
  each : ∀ k, (want.getD k []).length ≤ n + 1
  has : ∀ q : Nat, q < n → ∃ k j : Nat, k < 3 ∧ (want.getD k [])[j]? = some (enOp (2 + (q : Int)))
theorem gwant_inv (kids : List Nat) (n : Nat) : GWant n (gwant kids n) := by
  have ih := kwant_inv kids n
  have hwl : 0 < (kwant kids n).length := by rw [ih.len]; omega
  unfold gwant
  have ok' : ∀ (k j : Nat) (op : Opr), (((kwant kids n).set 0 ((kwant kids n).getD 0 [] ++ [syOp])).getD k [])[j]? = some op → op = syOp ∨ ∃ a : Int, op = enOp a ∧ 2 ≤ a ∧ a < 2 + (n : Int) := by
    intro k j op ho
    rw [getD_set3 hwl] at ho
    split at ho
    · by_cases hj : j < ((kwant kids n).getD 0 []).length
      · rw [List.getElem?_append_left hj] at ho
        exact .inr (ih.ok _ _ _ ho)
      · rw [List.getElem?_append_right (by omega)] at ho
        have := List.mem_of_getElem? ho
        simp at this
        exact .inl this
    · exact .inr (ih.ok _ _ _ ho)
  refine ⟨by simp [ih.len], fun ops ho op hop => ?_, by rw [lens3_set ih.len (by omega), ih.many], fun k => ?_, fun q hq => ?_⟩
  · obtain ⟨k, hk⟩ := List.getElem?_of_mem ho
    obtain ⟨j, hj⟩ := List.getElem?_of_mem hop
    exact ok' k j op (by rw [List.getD_eq_getElem?_getD, hk]; exact hj)
  · rw [getD_set3 hwl]
    split
    · have := ih.each 0
      simp only [List.length_append, List.length_singleton]
      omega
    · have := ih.each k
      omega
  · obtain ⟨k, j, k3, hj⟩ := ih.has q (by omega)
    refine ⟨k, j, k3, ?_⟩
    rw [getD_set3 hwl]
    split
    · rename_i ek
      rw [← ek, List.getElem?_append_left (List.getElem?_eq_some_iff.1 hj).1]
      exact hj
    · exact hj
def go0 (m : List Int) : PSt := ⟨m, List.replicate 3 (0, []), []⟩
theorem go0_pinv {l : Ly} {n : Nat} {m : List Int} (hk : KInv l n m) : PInv 3 (go0 m).m.length 0 (go0 m) := by
  refine ⟨by simp [go0], rfl, hk.mr, fun x hx r hr => ?_, fun x hx => ?_, fun x hx => ?_, by simp [go0]⟩
  · simp only [go0, List.mem_replicate] at hx; rw [hx.2] at hr; simp at hr
  · simp only [go0, List.mem_replicate] at hx; rw [hx.2]; simp
  · simp only [go0, List.mem_replicate] at hx; rw [hx.2]; simp
theorem go0_inv {l : Ly} {n : Nat} {m : List Int} {want : List (List Opr)} (hk : KInv l n m) (hw : GWant n want) : GInv l n (n + 1) want (go0 m) := by
  have hz : ∀ (f : Opr → List (Int × Bool) → Nat), (∀ op, f op [] = 0) → ∀ k, seatF f want k (0, []) = 0 := fun f hf k => by
    unfold seatF
    split
    · exact hf _
    · rfl
  have e1 := hz pAdd (fun op => by simp [pAdd])
  have e2 := hz pWon (fun op => by simp [pWon])
  have e3 := hz pNs (fun op => by simp [pNs])
  have seats : ∀ (k : Nat) (x : Nat × List (Int × Bool)), (go0 m).seats[k]? = some x → x = (0, []) := fun k x hx => by
    simp only [go0, List.getElem?_replicate] at hx
    split at hx
    · injection hx with hx; exact hx.symm
    · cases hx
  refine ⟨hk.ml, by simp [go0], hk.kid, fun k x hx => ?_, ?_, ?_, fun _ => ?_, fun hA => ?_, fun k x hx hwon => ?_⟩
  · rw [seats k x hx]
    exact ⟨Nat.zero_le _, fun j op hj => absurd hj (by simp), fun op ho => ⟨by simp, fun hh => by simp at hh, fun _ => ⟨fun hh => by simp at hh, fun hh => by simp at hh, fun hh => by simp at hh⟩⟩⟩
  · simp [go0, nAdd, bsum, sum3, sAdd, e1]
  · simp [go0, nAdd, nGo, bsum, sum3, e2]
  · show m.getD _ 0 = _
    rw [hk.join]
    simp [go0, nAdd, bsum]
    omega
  · simp [go0, nAdd, bsum] at hA
  · rw [seats k x hx, e2] at hwon
    omega
end Go.Proofs.Ytcjaomiihajjbaa
