/- The deque, in plain words: what its programs do next. No walk in sight. -/
import Derived.Test.YtdjglkpcdhkodaaDqD
import Derived.Test.YtdjglkpcdhkodaaMemP
namespace Go.Proofs.Ytdjglkpcdhkodaa
open Go.RowKit
set_option linter.unusedVariables false

structure Opr where
  kind : Int
  obj : Int
  a : Int
  b : Int
abbrev oprC (o : Opr) : Array Value := #[.int .i64 o.kind, .int .i64 o.obj, .int .i64 o.a, .int .i64 o.b]
/-- What a program does next: an access, or what it tells. -/
inductive Ans where
  | ask (k c o v : Int)
  | out (val : Int) (is : Bool) (err point : Int)
abbrev Log := List (Int × Bool)
/-- A layout that holds the deque of seat 0. -/
structure DqLy (l : Ly) : Prop where
  fit : LyFit l
  s : 1 ≤ l.c.seats
  d : 0 ≤ l.deque ∧ l.deque ≤ 1000000
/-- Numbers that are told are small. -/
def LogIn (log : Log) : Prop := ∀ (k : Nat) (x : Int × Bool), log[k]? = some x → -1000000 ≤ x.1 ∧ x.1 ≤ 1000000
/-- push's end: into the ring r at b. -/
def putM (l : Ly) (r b a : Int) (i : Nat) : Log → Ans
  | [] => .ask 2 (placeAt l 0 r b) 0 a
  | [_] => .ask 2 (l.deque + 1) 0 (b + 1)
  | _ :: _ :: _ => .out 0 true 0 (i + 1)
/-- push's moves into the next ring. -/
def movM (l : Ly) (r b a : Int) : List (Int × Int) → Nat → Log → Ans
  | [], _, [] => .ask 2 (l.deque + 2) 0 (r + 1)
  | [], i, _ :: rest => putM l (r + 1) b a (i + 1) rest
  | m :: _, _, [] => .ask 1 m.1 0 0
  | m :: _, _, [x] => .ask 2 m.2 0 x.1
  | _ :: ms, i, _ :: _ :: rest => movM l r b a ms (i + 2) rest
def pushM (l : Ly) (a : Int) : Log → Ans
  | [] => .ask 1 (l.deque + 1) 0 0
  | [_] => .ask 1 l.deque 0 0
  | [_, _] => .ask 1 (l.deque + 2) 0 0
  | b :: t :: r :: rest =>
    if sizeN r.1 ≤ b.1 - t.1 then
      if r.1 < 0 ∨ ringsN l.c.tasks - 1 ≤ r.1 then .out 0 false 9 (-1) else movM l r.1 b.1 a (movesOf l 0 r.1 t.1 b.1) 3 rest
    else putM l r.1 b.1 a 3 rest
def popM (l : Ly) : Log → Ans
  | [] => .ask 1 (l.deque + 1) 0 0
  | [b] => .ask 2 (l.deque + 1) 0 (b.1 - 1)
  | [_, _] => .ask 1 l.deque 0 0
  | b :: _ :: t :: rest =>
    if b.1 - 1 < t.1 then match rest with
      | [] => .ask 2 (l.deque + 1) 0 b.1
      | _ :: _ => .out 0 false 0 2
    else match rest with
      | [] => .ask 1 (l.deque + 2) 0 0
      | [r] => .ask 1 (placeAt l 0 r.1 (b.1 - 1)) 0 0
      | _ :: x :: rest => if t.1 = b.1 - 1 then match rest with
          | [] => .ask 3 l.deque t.1 (t.1 + 1)
          | [_] => .ask 2 (l.deque + 1) 0 b.1
          | c :: _ :: _ => .out (if c.2 then x.1 else 0) c.2 0 5
        else .out x.1 true 0 2
def stealM (l : Ly) : Log → Ans
  | [] => .ask 1 l.deque 0 0
  | [_] => .ask 1 (l.deque + 1) 0 0
  | t :: b :: rest =>
    if b.1 ≤ t.1 then .out 0 false 16 1 else match rest with
      | [] => .ask 1 (l.deque + 2) 0 0
      | [r] => .ask 1 (placeAt l 0 r.1 t.1) 0 0
      | [_, _] => .ask 3 l.deque t.1 (t.1 + 1)
      | _ :: x :: c :: _ => .out (if c.2 then x.1 else 0) c.2 0 4
/-- An operation of a play: of the deque of seat 0. -/
def nextD (l : Ly) (op : Opr) (log : Log) : Ans :=
  if op.kind = 8 then pushM l op.a log else if op.kind = 9 then popM l log else stealM l log
theorem drop_at {α : Type} {l : List α} {i : Nat} {x : α} (h : l[i]? = some x) : l.drop i = x :: l.drop (i + 1) := by
  have hi := (List.getElem?_eq_some_iff.1 h).1
  rw [List.drop_eq_getElem_cons hi]
  congr 1
  exact (List.getElem?_eq_some_iff.1 h).2
theorem drop_end {α : Type} {l : List α} {i : Nat} (h : l[i]? = none) : l.drop i = [] := List.drop_eq_nil_of_le (List.getElem?_eq_none_iff.1 h)
section
variable {l : Ly} {log : Log} {i : Nat} {a : Int} {b t r x y c z : Int × Bool}
theorem log0 (h0 : log[0]? = none) : log = [] := by simpa using drop_end h0
theorem log1 (h0 : log[0]? = some b) (h1 : log[1]? = none) : log = [b] := by rw [← List.drop_zero (l := log), drop_at h0, drop_end h1]
theorem log2 (h0 : log[0]? = some b) (h1 : log[1]? = some t) (h2 : log[2]? = none) : log = [b, t] := by rw [← List.drop_zero (l := log), drop_at h0, drop_at h1, drop_end h2]
theorem log3 (h0 : log[0]? = some b) (h1 : log[1]? = some t) (h2 : log[2]? = some r) : log = b :: t :: r :: log.drop 3 := by conv => lhs; rw [← List.drop_zero (l := log), drop_at h0, drop_at h1, drop_at h2]
theorem log2' (h0 : log[0]? = some b) (h1 : log[1]? = some t) : log = b :: t :: log.drop 2 := by conv => lhs; rw [← List.drop_zero (l := log), drop_at h0, drop_at h1]
-- push
theorem ps0 (h0 : log[0]? = none) : pushM l a log = .ask 1 (l.deque + 1) 0 0 := by rw [log0 h0]; rfl
theorem ps1 (h0 : log[0]? = some b) (h1 : log[1]? = none) : pushM l a log = .ask 1 l.deque 0 0 := by rw [log1 h0 h1]; rfl
theorem ps2 (h0 : log[0]? = some b) (h1 : log[1]? = some t) (h2 : log[2]? = none) : pushM l a log = .ask 1 (l.deque + 2) 0 0 := by rw [log2 h0 h1 h2]; rfl
theorem ps_full (h0 : log[0]? = some b) (h1 : log[1]? = some t) (h2 : log[2]? = some r) (hs : sizeN r.1 ≤ b.1 - t.1) (hr : r.1 < 0 ∨ ringsN l.c.tasks - 1 ≤ r.1) : pushM l a log = .out 0 false 9 (-1) := by rw [log3 h0 h1 h2, pushM, if_pos hs, if_pos hr]
theorem ps_mov (h0 : log[0]? = some b) (h1 : log[1]? = some t) (h2 : log[2]? = some r) (hs : sizeN r.1 ≤ b.1 - t.1) (hr : ¬ (r.1 < 0 ∨ ringsN l.c.tasks - 1 ≤ r.1)) : pushM l a log = movM l r.1 b.1 a (movesOf l 0 r.1 t.1 b.1) 3 (log.drop 3) := by
  conv => lhs; rw [log3 h0 h1 h2, pushM, if_pos hs, if_neg hr]
theorem ps_put (h0 : log[0]? = some b) (h1 : log[1]? = some t) (h2 : log[2]? = some r) (hs : ¬ sizeN r.1 ≤ b.1 - t.1) : pushM l a log = putM l r.1 b.1 a 3 (log.drop 3) := by
  conv => lhs; rw [log3 h0 h1 h2, pushM, if_neg hs]
variable {r' b' : Int} {m : Int × Int} {ms : List (Int × Int)}
theorem pt0 (h0 : log[i]? = none) : putM l r' b' a i (log.drop i) = .ask 2 (placeAt l 0 r' b') 0 a := by rw [drop_end h0]; rfl
theorem pt1 (h0 : log[i]? = some x) (h1 : log[i + 1]? = none) : putM l r' b' a i (log.drop i) = .ask 2 (l.deque + 1) 0 (b' + 1) := by rw [drop_at h0, drop_end h1]; rfl
theorem pt2 (h0 : log[i]? = some x) (h1 : log[i + 1]? = some y) : putM l r' b' a i (log.drop i) = .out 0 true 0 (i + 1) := by rw [drop_at h0, drop_at h1]; rfl
theorem mv0 (h0 : log[i]? = none) : movM l r' b' a (m :: ms) i (log.drop i) = .ask 1 m.1 0 0 := by rw [drop_end h0]; rfl
theorem mv1 (h0 : log[i]? = some x) (h1 : log[i + 1]? = none) : movM l r' b' a (m :: ms) i (log.drop i) = .ask 2 m.2 0 x.1 := by rw [drop_at h0, drop_end h1]; rfl
theorem mv2 (h0 : log[i]? = some x) (h1 : log[i + 1]? = some y) : movM l r' b' a (m :: ms) i (log.drop i) = movM l r' b' a ms (i + 2) (log.drop (i + 2)) := by rw [drop_at h0, drop_at h1]; rfl
theorem mv3 (h0 : log[i]? = none) : movM l r' b' a [] i (log.drop i) = .ask 2 (l.deque + 2) 0 (r' + 1) := by rw [drop_end h0]; rfl
theorem mv4 (h0 : log[i]? = some x) : movM l r' b' a [] i (log.drop i) = putM l (r' + 1) b' a (i + 1) (log.drop (i + 1)) := by rw [drop_at h0]; rfl
-- pop
theorem pp0 (h0 : log[0]? = none) : popM l log = .ask 1 (l.deque + 1) 0 0 := by rw [log0 h0]; rfl
theorem pp1 (h0 : log[0]? = some b) (h1 : log[1]? = none) : popM l log = .ask 2 (l.deque + 1) 0 (b.1 - 1) := by rw [log1 h0 h1]; rfl
theorem pp2 (h0 : log[0]? = some b) (h1 : log[1]? = some y) (h2 : log[2]? = none) : popM l log = .ask 1 l.deque 0 0 := by rw [log2 h0 h1 h2]; rfl
theorem pp3e (h0 : log[0]? = some b) (h1 : log[1]? = some y) (h2 : log[2]? = some t) (hc : b.1 - 1 < t.1) (h3 : log[3]? = none) : popM l log = .ask 2 (l.deque + 1) 0 b.1 := by rw [log3 h0 h1 h2, popM.eq_def]; dsimp only; rw [if_pos hc, drop_end h3]
theorem pp4e (h0 : log[0]? = some b) (h1 : log[1]? = some y) (h2 : log[2]? = some t) (hc : b.1 - 1 < t.1) (h3 : log[3]? = some z) : popM l log = .out 0 false 0 2 := by rw [log3 h0 h1 h2, popM.eq_def]; dsimp only; rw [if_pos hc, drop_at h3]
theorem pp3 (h0 : log[0]? = some b) (h1 : log[1]? = some y) (h2 : log[2]? = some t) (hc : t.1 ≤ b.1 - 1) (h3 : log[3]? = none) : popM l log = .ask 1 (l.deque + 2) 0 0 := by rw [log3 h0 h1 h2, popM.eq_def]; dsimp only; rw [if_neg (by omega), drop_end h3]
theorem pp4 (h0 : log[0]? = some b) (h1 : log[1]? = some y) (h2 : log[2]? = some t) (hc : t.1 ≤ b.1 - 1) (h3 : log[3]? = some r) (h4 : log[4]? = none) : popM l log = .ask 1 (placeAt l 0 r.1 (b.1 - 1)) 0 0 := by rw [log3 h0 h1 h2, popM.eq_def]; dsimp only; rw [if_neg (by omega), drop_at h3, drop_end h4]
theorem pp5 (h0 : log[0]? = some b) (h1 : log[1]? = some y) (h2 : log[2]? = some t) (hc : t.1 ≤ b.1 - 1) (h3 : log[3]? = some r) (h4 : log[4]? = some x) (he : ¬ t.1 = b.1 - 1) : popM l log = .out x.1 true 0 2 := by rw [log3 h0 h1 h2, popM.eq_def]; dsimp only; rw [if_neg (by omega), drop_at h3, drop_at h4]; dsimp only; rw [if_neg he]
theorem pp5c (h0 : log[0]? = some b) (h1 : log[1]? = some y) (h2 : log[2]? = some t) (hc : t.1 ≤ b.1 - 1) (h3 : log[3]? = some r) (h4 : log[4]? = some x) (he : t.1 = b.1 - 1) (h5 : log[5]? = none) : popM l log = .ask 3 l.deque t.1 (t.1 + 1) := by rw [log3 h0 h1 h2, popM.eq_def]; dsimp only; rw [if_neg (by omega), drop_at h3, drop_at h4]; dsimp only; rw [if_pos he, drop_end h5]
theorem pp6 (h0 : log[0]? = some b) (h1 : log[1]? = some y) (h2 : log[2]? = some t) (hc : t.1 ≤ b.1 - 1) (h3 : log[3]? = some r) (h4 : log[4]? = some x) (he : t.1 = b.1 - 1) (h5 : log[5]? = some c) (h6 : log[6]? = none) : popM l log = .ask 2 (l.deque + 1) 0 b.1 := by rw [log3 h0 h1 h2, popM.eq_def]; dsimp only; rw [if_neg (by omega), drop_at h3, drop_at h4]; dsimp only; rw [if_pos he, drop_at h5, drop_end h6]
theorem pp7 (h0 : log[0]? = some b) (h1 : log[1]? = some y) (h2 : log[2]? = some t) (hc : t.1 ≤ b.1 - 1) (h3 : log[3]? = some r) (h4 : log[4]? = some x) (he : t.1 = b.1 - 1) (h5 : log[5]? = some c) (h6 : log[6]? = some z) : popM l log = .out (if c.2 then x.1 else 0) c.2 0 5 := by rw [log3 h0 h1 h2, popM.eq_def]; dsimp only; rw [if_neg (by omega), drop_at h3, drop_at h4]; dsimp only; rw [if_pos he, drop_at h5, drop_at h6]
-- steal
theorem st0 (h0 : log[0]? = none) : stealM l log = .ask 1 l.deque 0 0 := by rw [log0 h0]; rfl
theorem st1 (h0 : log[0]? = some t) (h1 : log[1]? = none) : stealM l log = .ask 1 (l.deque + 1) 0 0 := by rw [log1 h0 h1]; rfl
theorem st2e (h0 : log[0]? = some t) (h1 : log[1]? = some b) (hc : b.1 ≤ t.1) : stealM l log = .out 0 false 16 1 := by rw [log2' h0 h1, stealM.eq_def]; dsimp only; rw [if_pos hc]
theorem st2 (h0 : log[0]? = some t) (h1 : log[1]? = some b) (hc : t.1 < b.1) (h2 : log[2]? = none) : stealM l log = .ask 1 (l.deque + 2) 0 0 := by rw [log2' h0 h1, stealM.eq_def]; dsimp only; rw [if_neg (by omega), drop_end h2]
theorem st3 (h0 : log[0]? = some t) (h1 : log[1]? = some b) (hc : t.1 < b.1) (h2 : log[2]? = some r) (h3 : log[3]? = none) : stealM l log = .ask 1 (placeAt l 0 r.1 t.1) 0 0 := by rw [log2' h0 h1, stealM.eq_def]; dsimp only; rw [if_neg (by omega), drop_at h2, drop_end h3]
theorem st4 (h0 : log[0]? = some t) (h1 : log[1]? = some b) (hc : t.1 < b.1) (h2 : log[2]? = some r) (h3 : log[3]? = some x) (h4 : log[4]? = none) : stealM l log = .ask 3 l.deque t.1 (t.1 + 1) := by rw [log2' h0 h1, stealM.eq_def]; dsimp only; rw [if_neg (by omega), drop_at h2, drop_at h3, drop_end h4]
theorem st5 (h0 : log[0]? = some t) (h1 : log[1]? = some b) (hc : t.1 < b.1) (h2 : log[2]? = some r) (h3 : log[3]? = some x) (h4 : log[4]? = some c) : stealM l log = .out (if c.2 then x.1 else 0) c.2 0 4 := by rw [log2' h0 h1, stealM.eq_def]; dsimp only; rw [if_neg (by omega), drop_at h2, drop_at h3, drop_at h4]
end
end Go.Proofs.Ytdjglkpcdhkodaa
