/- The deque's plain law: where an operation is; the memory's rings. No program in sight. -/
import Derived.Test.YtdjglkpcdhkodaaDqT
namespace Go.Proofs.Ytdjglkpcdhkodaa
open Go.RowKit
set_option linter.unusedVariables false

/-- Where an operation is: push u.., pop o.., steal s... -/
inductive Ph
  | id
  | u0 | u1 (b : Int) | u2 (b t : Int) | mv (b r t : Int) (ms : List (Int × Int)) | mx (b r t : Int) (m : Int × Int) (ms : List (Int × Int)) (x : Int)
  | pt (b t r : Int) | bt (b t : Int) | un | fu
  | o0 | o1 (b : Int) | o2 (b : Int) | oe (b : Int) | o3 (b t : Int) | o4 (b t r : Int) | o5 (b x : Int) | o6 (b x : Int) (c : Bool) | on (val : Int) (is : Bool) (pt : Int)
  | s0 | s1 (t : Int) | s2 (t : Int) | s3 (t r : Int) | s4 (t x : Int) | sn (val : Int) (is : Bool) (err pt : Int)
/-- Where it is with one result more. -/
def Ph.add (l : Ly) (r : Int × Bool) : Ph → Ph
  | .u0 => .u1 r.1
  | .u1 b => .u2 b r.1
  | .u2 b t => if sizeN r.1 ≤ b - t then (if r.1 < 0 ∨ ringsN l.c.tasks - 1 ≤ r.1 then .fu else .mv b r.1 t (movesOf l 0 r.1 t b)) else .pt b t r.1
  | .mv b r' t [] => .pt b t (r' + 1)
  | .mv b r' t (m :: ms) => .mx b r' t m ms r.1
  | .mx b r' t _ ms _ => .mv b r' t ms
  | .pt b t _ => .bt b t
  | .bt _ _ => .un
  | .o0 => .o1 r.1
  | .o1 b => .o2 b
  | .o2 b => if b - 1 < r.1 then .oe b else .o3 b r.1
  | .oe _ => .on 0 false 2
  | .o3 b t => .o4 b t r.1
  | .o4 b t _ => if t = b - 1 then .o5 b r.1 else .on r.1 true 2
  | .o5 b x => .o6 b x r.2
  | .o6 _ x c => .on (if c then x else 0) c 5
  | .s0 => .s1 r.1
  | .s1 t => if r.1 ≤ t then .sn 0 false 16 1 else .s2 t
  | .s2 t => .s3 t r.1
  | .s3 t _ => .s4 t r.1
  | .s4 _ x => .sn (if r.2 then x else 0) r.2 0 4
  | p => p
/-- What is next there. -/
def Ph.ans (l : Ly) (a pt : Int) : Ph → Ans
  | .id => .out 0 false 0 0
  | .u0 => .ask 1 (l.deque + 1) 0 0
  | .u1 _ => .ask 1 l.deque 0 0
  | .u2 _ _ => .ask 1 (l.deque + 2) 0 0
  | .mv _ r _ [] => .ask 2 (l.deque + 2) 0 (r + 1)
  | .mv _ _ _ (m :: _) => .ask 1 m.1 0 0
  | .mx _ _ _ m _ x => .ask 2 m.2 0 x
  | .pt b _ r => .ask 2 (placeAt l 0 r b) 0 a
  | .bt b _ => .ask 2 (l.deque + 1) 0 (b + 1)
  | .un => .out 0 true 0 pt
  | .fu => .out 0 false 9 pt
  | .o0 => .ask 1 (l.deque + 1) 0 0
  | .o1 b => .ask 2 (l.deque + 1) 0 (b - 1)
  | .o2 _ => .ask 1 l.deque 0 0
  | .oe b => .ask 2 (l.deque + 1) 0 b
  | .o3 _ _ => .ask 1 (l.deque + 2) 0 0
  | .o4 b _ r => .ask 1 (placeAt l 0 r (b - 1)) 0 0
  | .o5 b _ => .ask 3 l.deque (b - 1) b
  | .o6 b _ _ => .ask 2 (l.deque + 1) 0 b
  | .on v is pt => .out v is 0 pt
  | .s0 => .ask 1 l.deque 0 0
  | .s1 _ => .ask 1 (l.deque + 1) 0 0
  | .s2 _ => .ask 1 (l.deque + 2) 0 0
  | .s3 t r => .ask 1 (placeAt l 0 r t) 0 0
  | .s4 t _ => .ask 3 l.deque t (t + 1)
  | .sn v is e pt => .out v is e pt
def fd (l : Ly) (p : Ph) (log : Log) : Ph := log.foldl (fun p r => p.add l r) p
theorem fd_nil (l : Ly) (p : Ph) : fd l p [] = p := rfl
theorem fd_cons (l : Ly) (p : Ph) (r : Int × Bool) (log : Log) : fd l p (r :: log) = fd l (p.add l r) log := rfl
def phOf (l : Ly) (kind : Int) (log : Log) : Ph := fd l (if kind = 8 then .u0 else if kind = 9 then .o0 else .s0) log
theorem phOf_add (l : Ly) (k : Int) (log : Log) (r : Int × Bool) : phOf l k (log ++ [r]) = (phOf l k log).add l r := by simp [phOf, fd]
theorem fd_un (l : Ly) : ∀ log : Log, fd l .un log = .un := by
  intro log
  induction log with
  | nil => rfl
  | cons r log ih => exact ih
theorem fd_fu (l : Ly) : ∀ log : Log, fd l .fu log = .fu := by
  intro log
  induction log with
  | nil => rfl
  | cons r log ih => exact ih
theorem fd_on (l : Ly) (v : Int) (is : Bool) (pt : Int) : ∀ log : Log, fd l (.on v is pt) log = .on v is pt := by
  intro log
  induction log with
  | nil => rfl
  | cons r log ih => exact ih
theorem fd_sn (l : Ly) (v : Int) (is : Bool) (e pt : Int) : ∀ log : Log, fd l (.sn v is e pt) log = .sn v is e pt := by
  intro log
  induction log with
  | nil => rfl
  | cons r log ih => exact ih
theorem put_ans (l : Ly) (r b t a : Int) (i : Nat) : ∀ log : Log, ∃ pt, putM l r b a i log = (fd l (.pt b t r) log).ans l a pt
  | [] => ⟨0, rfl⟩
  | [_] => ⟨0, rfl⟩
  | _ :: _ :: log => ⟨i + 1, by simp only [fd_cons, Ph.add, fd_un]; rfl⟩
theorem mov_ans (l : Ly) (r b t a : Int) : ∀ (ms : List (Int × Int)) (i : Nat) (log : Log), ∃ pt, movM l r b a ms i log = (fd l (.mv b r t ms) log).ans l a pt := by
  intro ms i log
  fun_induction movM l r b a ms i log with
  | case1 => exact ⟨0, rfl⟩
  | case2 i x rest => exact put_ans l (r + 1) b t a (i + 1) rest
  | case3 => exact ⟨0, rfl⟩
  | case4 => exact ⟨0, rfl⟩
  | case5 m ms i x y rest ih => exact ih
theorem push_ans (l : Ly) (a : Int) : ∀ log : Log, ∃ pt, pushM l a log = (phOf l 8 log).ans l a pt
  | [] => ⟨0, rfl⟩
  | [_] => ⟨0, rfl⟩
  | [_, _] => ⟨0, rfl⟩
  | b :: t :: r :: rest => by
    unfold phOf
    rw [pushM]
    simp only [if_pos, fd_cons, Ph.add]
    by_cases h1 : sizeN r.1 ≤ b.1 - t.1
    · rw [if_pos h1, if_pos h1]
      by_cases h2 : r.1 < 0 ∨ ringsN l.c.tasks - 1 ≤ r.1
      · rw [if_pos h2, if_pos h2]
        exact ⟨-1, by rw [fd_fu]; rfl⟩
      · rw [if_neg h2, if_neg h2]
        exact mov_ans l _ _ _ _ _ _ _
    · rw [if_neg h1, if_neg h1]
      exact put_ans l _ _ _ _ _ _
theorem pop_ans (l : Ly) (a : Int) (log : Log) : ∃ pt, popM l log = (phOf l 9 log).ans l a pt := by
  unfold phOf
  rcases log with _ | ⟨b, _ | ⟨y, _ | ⟨t, rest⟩⟩⟩
  · exact ⟨0, rfl⟩
  · exact ⟨0, rfl⟩
  · exact ⟨0, rfl⟩
  · rw [popM.eq_def]
    dsimp only
    simp only [fd_cons, Ph.add, show ((9 : Int) = 8) = False by simp, if_false, if_true]
    by_cases h1 : b.1 - 1 < t.1
    · rw [if_pos h1, if_pos h1]
      cases rest with
      | nil => exact ⟨0, rfl⟩
      | cons z rest => exact ⟨0, by simp only [fd_cons, Ph.add, fd_on]; rfl⟩
    · rw [if_neg h1, if_neg h1]
      rcases rest with _ | ⟨r, _ | ⟨x, rest⟩⟩
      · exact ⟨0, rfl⟩
      · exact ⟨0, rfl⟩
      · dsimp only
        simp only [fd_cons, Ph.add]
        by_cases hc : t.1 = b.1 - 1
        · rw [if_pos hc, if_pos hc]
          rcases rest with _ | ⟨c, _ | ⟨z, rest⟩⟩
          · exact ⟨0, by simp only [fd_nil, Ph.ans]; congr 1; omega⟩
          · exact ⟨0, rfl⟩
          · exact ⟨0, by simp only [fd_cons, Ph.add, fd_on]; rfl⟩
        · rw [if_neg hc, if_neg hc]
          exact ⟨0, by rw [fd_on]; rfl⟩
theorem steal_ans (l : Ly) (a : Int) (log : Log) : ∃ pt, stealM l log = (phOf l 10 log).ans l a pt := by
  unfold phOf
  rcases log with _ | ⟨t, _ | ⟨b, rest⟩⟩
  · exact ⟨0, rfl⟩
  · exact ⟨0, rfl⟩
  · rw [stealM.eq_def]
    dsimp only
    simp only [fd_cons, Ph.add, show ((10 : Int) = 8) = False by simp, show ((10 : Int) = 9) = False by simp, if_false]
    by_cases h1 : b.1 ≤ t.1
    · rw [if_pos h1, if_pos h1]
      exact ⟨0, by rw [fd_sn]; rfl⟩
    · rw [if_neg h1, if_neg h1]
      rcases rest with _ | ⟨r, _ | ⟨x, _ | ⟨c, rest⟩⟩⟩
      · exact ⟨0, rfl⟩
      · exact ⟨0, rfl⟩
      · exact ⟨0, rfl⟩
      · exact ⟨0, by simp only [fd_cons, Ph.add, fd_sn]; rfl⟩
theorem nextD_ans (l : Ly) (op : Opr) (log : Log) (h : op.kind = 8 ∨ op.kind = 9 ∨ op.kind = 10) : ∃ pt, nextD l op log = (phOf l op.kind log).ans l op.a pt := by
  unfold nextD
  rcases h with h | h | h
  · rw [if_pos h, h]; exact push_ans l op.a log
  · rw [if_neg (by omega), if_pos h, h]; exact pop_ans l op.a log
  · rw [if_neg (by omega), if_neg (by omega), h]; exact steal_ans l op.a log
/-- The kinds of the places. -/
def Ph.kindOf : Ph → Int
  | .id => 0
  | .u0 | .u1 _ | .u2 _ _ | .mv _ _ _ _ | .mx _ _ _ _ _ _ | .pt _ _ _ | .bt _ _ | .un | .fu => 8
  | .o0 | .o1 _ | .o2 _ | .oe _ | .o3 _ _ | .o4 _ _ _ | .o5 _ _ | .o6 _ _ _ | .on _ _ _ => 9
  | _ => 10
theorem add_kind (l : Ly) (r : Int × Bool) (p : Ph) : (p.add l r).kindOf = p.kindOf := by
  cases p with
  | mv b r' t ms => cases ms <;> rfl
  | u2 b t => simp only [Ph.add]; repeat' split
              all_goals rfl
  | o2 b => simp only [Ph.add]; split <;> rfl
  | o4 b t r' => simp only [Ph.add]; split <;> rfl
  | s1 t => simp only [Ph.add]; split <;> rfl
  | _ => rfl
theorem phOf_kind (l : Ly) (k : Int) (hk : k = 8 ∨ k = 9 ∨ k = 10) (log : Log) : (phOf l k log).kindOf = k := by
  unfold phOf
  have : ∀ (log : Log) (p : Ph), (fd l p log).kindOf = p.kindOf := by
    intro log
    induction log with
    | nil => intro p; rfl
    | cons r log ih => intro p; rw [fd_cons, ih]; exact add_kind l r p
  rw [this]
  rcases hk with rfl | rfl | rfl <;> rfl
def SeatD.ph (l : Ly) (s : SeatD) : Ph := if s.op.kind = 0 then .id else phOf l s.op.kind s.log

/-! The memory. -/
def cel (m : List Int) (c : Int) : Int := m.getD c.toNat 0
theorem cel_set {m : List Int} {c : Nat} {v : Int} (h : c < m.length) (d : Int) (hd : 0 ≤ d) : cel (m.set c v) d = if d = c then v else cel m d := by
  unfold cel
  simp only [List.getD_eq_getElem?_getD]
  by_cases e : d = c
  · subst e
    rw [if_pos rfl, Int.toNat_natCast, List.getElem?_set_self h]
    rfl
  · rw [if_neg e, List.getElem?_set_ne (by omega)]
/-- The layout of a play. -/
structure DLay (l : Ly) (sz : Nat) : Prop where
  dq : l.deque = 19
  st : l.c.seats = 3
  rg : l.ring = 28
  tk : 1 ≤ l.c.tasks ∧ l.c.tasks ≤ 16
  big : 28 + 3 * aheadN (ringsN l.c.tasks) ≤ sz ∧ sz ≤ 1000
def top (m : List Int) : Int := cel m 19
def bot (m : List Int) : Int := cel m 20
def whi (m : List Int) : Int := cel m 21
/-- The cell of place i in ring r of seat 0. -/
def plc (r i : Int) : Int := 24 + sizeN r + i % sizeN r
def rc (m : List Int) (r i : Int) : Int := cel m (plc r i)
theorem size_cases {r : Int} (h0 : 0 ≤ r) (h1 : r < 3) : (r = 0 ∧ sizeN r = 4) ∨ (r = 1 ∧ sizeN r = 8) ∨ (r = 2 ∧ sizeN r = 16) := by
  have h : r = 0 ∨ r = 1 ∨ r = 2 := by omega
  rcases h with rfl | rfl | rfl
  · exact .inl ⟨rfl, rfl⟩
  · exact .inr (.inl ⟨rfl, rfl⟩)
  · exact .inr (.inr ⟨rfl, rfl⟩)
theorem rings_cases {t : Int} (h1 : 1 ≤ t) (h2 : t ≤ 16) : (ringsN t = 1 ∧ aheadN (ringsN t) = 4) ∨ (ringsN t = 2 ∧ aheadN (ringsN t) = 12) ∨ (ringsN t = 3 ∧ aheadN (ringsN t) = 28) := by
  unfold ringsN
  repeat' split
  all_goals first | exact .inl ⟨rfl, rfl⟩ | exact .inr (.inl ⟨rfl, rfl⟩) | exact .inr (.inr ⟨rfl, rfl⟩) | omega
theorem plc_in {r : Int} (h0 : 0 ≤ r) (h1 : r < 3) (i : Int) : 28 ≤ plc r i ∧ 24 + sizeN r ≤ plc r i ∧ plc r i < 24 + 2 * sizeN r ∧ plc r i < 56 := by
  unfold plc
  rcases size_cases h0 h1 with ⟨_, e⟩ | ⟨_, e⟩ | ⟨_, e⟩ <;> rw [e] <;> omega
theorem plc_lt {l : Ly} {sz : Nat} (ly : DLay l sz) {r : Int} (h0 : 0 ≤ r) (h1 : r < ringsN l.c.tasks) (i : Int) : plc r i < sz := by
  have h := ly.big
  unfold plc
  rcases rings_cases ly.tk.1 ly.tk.2 with ⟨e1, e2⟩ | ⟨e1, e2⟩ | ⟨e1, e2⟩
  all_goals
    rw [e2] at h
    rw [e1] at h1
    rcases size_cases h0 (by omega) with ⟨_, e⟩ | ⟨_, e⟩ | ⟨_, e⟩ <;> rw [e] <;> omega
theorem plc_ne {r r' i i' : Int} (h0 : 0 ≤ r) (h1 : r < 3) (h0' : 0 ≤ r') (h1' : r' < 3) (h : r ≠ r' ∨ (r = r' ∧ i < i' ∧ i' - i < sizeN r)) : plc r i ≠ plc r' i' := by
  unfold plc
  rcases h with h | ⟨rfl, h2, h3⟩
  · rcases size_cases h0 h1 with ⟨e0, e⟩ | ⟨e0, e⟩ | ⟨e0, e⟩ <;> rcases size_cases h0' h1' with ⟨e0', e'⟩ | ⟨e0', e'⟩ | ⟨e0', e'⟩ <;> rw [e, e'] <;> omega
  · rcases size_cases h0 h1 with ⟨e0, e⟩ | ⟨e0, e⟩ | ⟨e0, e⟩ <;> rw [e] at h3 ⊢ <;> omega
theorem place_eq {l : Ly} {sz : Nat} (ly : DLay l sz) {r i : Int} (h0 : 0 ≤ r) (h1 : r < ringsN l.c.tasks) (hi : 0 ≤ i) : placeAt l 0 r i = plc r i := by
  have hr : ringAt l 0 r = 28 + aheadN r := by
    rw [ringAt_eq l 0 r ⟨h0, h1, by omega, by rw [ly.st]; omega⟩, ly.rg]
    omega
  have ha : 28 + aheadN r = 24 + sizeN r := by
    rcases rings_cases ly.tk.1 ly.tk.2 with ⟨e1, _⟩ | ⟨e1, _⟩ | ⟨e1, _⟩
    all_goals
      rw [e1] at h1
      rcases size_cases h0 (by omega) with ⟨rfl, e⟩ | ⟨rfl, e⟩ | ⟨rfl, e⟩ <;> first | rfl | omega
  unfold placeAt plc
  have := aheadN_in r
  rw [if_neg (by omega), hr, ha]
/-- n numbers of ring r, from t on. -/
def rowM (m : List Int) (r t : Int) (n : Nat) : List Int := (List.range n).map fun (j : Nat) => rc m r (t + j)
theorem rowM_length (m : List Int) (r t : Int) (n : Nat) : (rowM m r t n).length = n := by simp [rowM]
theorem rowM_zero (m : List Int) (r t : Int) : rowM m r t 0 = [] := rfl
theorem rowM_succ (m : List Int) (r t : Int) (n : Nat) : rowM m r t (n + 1) = rc m r t :: rowM m r (t + 1) n := by
  unfold rowM
  rw [List.range_succ_eq_map, List.map_cons, List.map_map]
  congr 1
  · simp
  · apply List.map_congr_left
    intro j _
    simp only [Function.comp]
    congr 1
    omega
theorem rowM_snoc (m : List Int) (r t : Int) (n : Nat) : rowM m r t (n + 1) = rowM m r t n ++ [rc m r (t + n)] := by
  unfold rowM
  rw [List.range_succ, List.map_append]
  rfl
theorem rowM_congr {m m' : List Int} {r r' t : Int} {n : Nat} (h : ∀ i : Int, t ≤ i → i < t + n → rc m' r' i = rc m r i) : rowM m' r' t n = rowM m r t n := by
  unfold rowM
  apply List.map_congr_left
  intro j hj
  have := List.mem_range.1 hj
  exact h _ (by omega) (by omega)
theorem mem_rowM {m : List Int} {r t : Int} {n : Nat} {v : Int} : v ∈ rowM m r t n ↔ ∃ i : Int, t ≤ i ∧ i < t + n ∧ rc m r i = v := by
  unfold rowM
  constructor
  · intro h
    obtain ⟨j, hj, e⟩ := List.mem_map.1 h
    have := List.mem_range.1 hj
    exact ⟨t + j, by omega, by omega, e⟩
  · rintro ⟨i, h1, h2, rfl⟩
    refine List.mem_map.2 ⟨(i - t).toNat, List.mem_range.2 (by omega), ?_⟩
    congr 1
    omega
end Go.Proofs.Ytdjglkpcdhkodaa
