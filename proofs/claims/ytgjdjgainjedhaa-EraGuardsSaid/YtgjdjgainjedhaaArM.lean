/- The arena, in plain words: what its programs do next; a play's turns. No program in sight. -/
import Derived.Test.YtgjdjgainjedhaaLayP
import Derived.Test.YtgjdjgainjedhaaMemP
import Derived.Test.YtgjdjgainjedhaaWord
namespace Go.Proofs.Ytgjdjgainjedhaa
open Go.RowKit
set_option linter.unusedVariables false

def withinN (f m e r i : Int) : Int := if 0 ≤ r ∧ r < m ∧ 0 ≤ i ∧ i < e then f + r * e + i else -1
def nodeAt (l : Ly) (a b : Int) : Int := if a < 1 then -1 else withinN (l.node) (l.c.nodes) (8) (a - 1) (b)
structure Opr where
  kind : Int
  obj : Int
  a : Int
  b : Int
abbrev oprC (o : Opr) : Array Value := #[.int .i64 o.kind, .int .i64 o.obj, .int .i64 o.a, .int .i64 o.b]
/-- What a program does next: an access, or what it tells. -/
inductive Ans where
  | ask (k c o v : Int)
  | out (val : Int) (is : Bool) (err point : Int)
abbrev Log := List (Int × Bool)
def idxOf (n : Int) : Int := n % 65536
def cntOf (n : Int) : Int := n / 131072 % 268435456
/-- The word that comes behind another one. -/
def turnW (x idx : Int) : Int := packI (idx % 65536) false ((cntOf x + 1) % 268435456)
/-- take, from its i-th access on. -/
def takeM (l : Ly) (i : Nat) : Log → Ans
  | [] => .ask 1 l.free 0 0
  | x :: r => if idxOf x.1 = 0 then .out 0 false 8 i else match r with
    | [] => .ask 1 (nodeAt l (idxOf x.1) 7) 0 0
    | [y] => .ask 3 l.free x.1 (turnW x.1 y.1)
    | y :: z :: r3 => if z.2 then (match r3 with
        | [] => .ask 1 l.era 0 0
        | [u] => .ask 2 (nodeAt l (idxOf x.1) 6) 0 u.1
        | _ :: _ :: _ => .out (idxOf x.1) true 0 (i + 2)) else takeM l (i + 3) r3
def giveM (l : Ly) (a : Int) (i : Nat) : Log → Ans
  | [] => .ask 1 l.free 0 0
  | [x] => .ask 2 (nodeAt l a 7) 0 (idxOf x.1)
  | [x, _] => .ask 3 l.free x.1 (turnW x.1 a)
  | x :: _ :: z :: r3 => if z.2 then .out 0 true 0 (i + 2) else giveM l a (i + 3) r3
def nextR (l : Ly) (op : Opr) (log : Log) : Ans :=
  if op.kind = 1 then takeM l 0 log else if op.kind = 2 then giveM l op.a 0 log else .out 0 false 1 (-1)

structure SeatA where
  op : Opr
  log : Log
  next : Nat
  has : List Int
structure TabA where
  m : List Int
  seats : List SeatA
structure StepA where
  who : Nat
  op : Opr
  acc : Acc
  res : Int × Bool
  done : Bool
  val : Int
  is : Bool
  err : Int
  point : Int
abbrev op0 : Opr := ⟨0, 0, 0, 0⟩
/-- A seat's next operation, and what it has then. -/
def wishR (want : List Nat) (next : Nat) (has : List Int) : Opr × List Int :=
  match want[next]? with
  | none => (op0, has)
  | some x => if x % 3 = 2 ∧ 0 < has.length then (⟨2, 0, has.getD (x / 3 % has.length) 0, 0⟩, has.take (x / 3 % has.length) ++ has.drop (x / 3 % has.length + 1)) else (⟨1, 0, 0, 0⟩, has)
/-- A seat that wants. -/
def wakeR (want : List Nat) (s : SeatA) : SeatA :=
  if s.op.kind = 0 then ⟨(wishR want s.next s.has).1, [], s.next + 1, (wishR want s.next s.has).2⟩ else s
def doneA (who : Nat) (op : Opr) (val : Int) (is : Bool) (err point : Int) : StepA := ⟨who, op, ⟨0, 0, 0, 0⟩, (0, false), true, val, is, err, point⟩
def askA (who : Nat) (op : Opr) (a : Acc) (r : Int × Bool) : StepA := ⟨who, op, a, r, false, 0, false, 0, 0⟩
/-- A seat's turn. -/
def turnA (l : Ly) (want : List (List Nat)) (who : Nat) (t : TabA) : TabA × Option StepA :=
  match t.seats[who]? with
  | none => (t, none)
  | some s0 =>
    let s := wakeR (want.getD who []) s0
    if s.op.kind = 0 then (⟨t.m, t.seats.set who s⟩, none) else
      match nextR l s.op s.log with
      | .out val is err point => (⟨t.m, t.seats.set who ⟨op0, s.log, s.next, if is && decide (s.op.kind = 1) then s.has ++ [val] else s.has⟩⟩, some (doneA who s.op val is err point))
      | .ask k c o v =>
        if (⟨k, c, o, v⟩ : Acc).err t.m.length = 0 then
          (⟨(⟨k, c, o, v⟩ : Acc).make t.m, t.seats.set who ⟨s.op, s.log ++ [((⟨k, c, o, v⟩ : Acc).had t.m, (⟨k, c, o, v⟩ : Acc).ok ((⟨k, c, o, v⟩ : Acc).had t.m))], s.next, s.has⟩⟩, some (askA who s.op ⟨k, c, o, v⟩ ((⟨k, c, o, v⟩ : Acc).had t.m, (⟨k, c, o, v⟩ : Acc).ok ((⟨k, c, o, v⟩ : Acc).had t.m))))
        else (⟨t.m, t.seats.set who s⟩, none)
/-- All turns: the table and the steps. -/
def runA (l : Ly) (want : List (List Nat)) : TabA × List StepA → List Nat → TabA × List StepA
  | ts, [] => ts
  | ts, w :: ws => runA l want ((turnA l want w ts.1).1, ts.2 ++ (turnA l want w ts.1).2.toList) ws
theorem runA_append (l : Ly) (want : List (List Nat)) (ws ws' : List Nat) : ∀ ts, runA l want ts (ws ++ ws') = runA l want (runA l want ts ws) ws' := by
  induction ws with
  | nil => intro ts; rfl
  | cons w ws ih => intro ts; exact ih _
theorem runA_snoc (l : Ly) (want : List (List Nat)) (ws : List Nat) (w : Nat) (ts : TabA × List StepA) : runA l want ts (ws ++ [w]) = ((turnA l want w (runA l want ts ws).1).1, (runA l want ts ws).2 ++ (turnA l want w (runA l want ts ws).1).2.toList) := by
  rw [runA_append]
  rfl
def whosA (n : Nat) (turns : List Nat) : List Nat := turns.map (· % n) ++ (List.range n).flatMap fun k => List.replicate 60 k
def seat0 : SeatA := ⟨op0, [], 0, []⟩
/-- What lays the list of free nodes. -/
def initA (l : Ly) : List Acc := (List.range l.c.nodes.toNat).map (fun (k : Nat) => (⟨2, nodeAt l (k + 1) 7, 0, if (k : Int) + 1 = l.c.nodes then 0 else (k : Int) + 2⟩ : Acc)) ++ [⟨2, l.free, 0, packI (if 1 ≤ l.c.nodes then 1 else 0) false 0⟩]
/-- The nodes that are free: at most fuel of them, none twice. -/
def listA (l : Ly) (m : List Int) : Nat → List Int → Int → List Int
  | 0, told, _ => told
  | fuel + 1, told, n => if 1 ≤ n ∧ n ≤ l.c.nodes ∧ ¬ n ∈ told then listA l m fuel (told ++ [n]) (if nodeAt l n 7 < 0 ∨ (m.length : Int) ≤ nodeAt l n 7 then 0 else m.getD (nodeAt l n 7).toNat 0) else told
theorem drop_at {α : Type} {l : List α} {i : Nat} {x : α} (h : l[i]? = some x) : l.drop i = x :: l.drop (i + 1) := by
  have hi := (List.getElem?_eq_some_iff.1 h).1
  rw [List.drop_eq_getElem_cons hi]
  congr 1
  exact (List.getElem?_eq_some_iff.1 h).2
theorem drop_end {α : Type} {l : List α} {i : Nat} (h : l[i]? = none) : l.drop i = [] := List.drop_eq_nil_of_le (List.getElem?_eq_none_iff.1 h)
section
variable {l : Ly} {log : Log} {i : Nat} {x y z u v : Int × Bool}
theorem tk_ask0 (h0 : log[i]? = none) : takeM l i (log.drop i) = .ask 1 l.free 0 0 := by rw [drop_end h0, takeM]
theorem tk_out0 (h0 : log[i]? = some x) (hz : idxOf x.1 = 0) : takeM l i (log.drop i) = .out 0 false 8 i := by
  rw [drop_at h0, takeM.eq_def]
  dsimp only
  rw [if_pos hz]
theorem tk_ask1 (h0 : log[i]? = some x) (hz : idxOf x.1 ≠ 0) (h1 : log[i + 1]? = none) : takeM l i (log.drop i) = .ask 1 (nodeAt l (idxOf x.1) 7) 0 0 := by rw [drop_at h0, drop_end h1, takeM, if_neg hz]
theorem tk_ask2 (h0 : log[i]? = some x) (hz : idxOf x.1 ≠ 0) (h1 : log[i + 1]? = some y) (h2 : log[i + 2]? = none) : takeM l i (log.drop i) = .ask 3 l.free x.1 (turnW x.1 y.1) := by rw [drop_at h0, drop_at h1, drop_end h2, takeM, if_neg hz]
theorem tk_fail (h0 : log[i]? = some x) (hz : idxOf x.1 ≠ 0) (h1 : log[i + 1]? = some y) (h2 : log[i + 2]? = some z) (hf : z.2 = false) : takeM l i (log.drop i) = takeM l (i + 3) (log.drop (i + 3)) := by
  rw [drop_at h0, drop_at h1, drop_at h2, takeM.eq_def]
  dsimp only
  rw [if_neg hz, if_neg (by simp [hf])]
theorem tk_ask3 (h0 : log[i]? = some x) (hz : idxOf x.1 ≠ 0) (h1 : log[i + 1]? = some y) (h2 : log[i + 2]? = some z) (hf : z.2 = true) (h3 : log[i + 3]? = none) : takeM l i (log.drop i) = .ask 1 l.era 0 0 := by rw [drop_at h0, drop_at h1, drop_at h2, drop_end h3, takeM, if_neg hz, if_pos hf]
theorem tk_ask4 (h0 : log[i]? = some x) (hz : idxOf x.1 ≠ 0) (h1 : log[i + 1]? = some y) (h2 : log[i + 2]? = some z) (hf : z.2 = true) (h3 : log[i + 3]? = some u) (h4 : log[i + 4]? = none) : takeM l i (log.drop i) = .ask 2 (nodeAt l (idxOf x.1) 6) 0 u.1 := by rw [drop_at h0, drop_at h1, drop_at h2, drop_at h3, drop_end h4, takeM, if_neg hz, if_pos hf]
theorem tk_out (h0 : log[i]? = some x) (hz : idxOf x.1 ≠ 0) (h1 : log[i + 1]? = some y) (h2 : log[i + 2]? = some z) (hf : z.2 = true) (h3 : log[i + 3]? = some u) (h4 : log[i + 4]? = some v) : takeM l i (log.drop i) = .out (idxOf x.1) true 0 (i + 2) := by rw [drop_at h0, drop_at h1, drop_at h2, drop_at h3, drop_at h4, takeM, if_neg hz, if_pos hf]
variable {a : Int}
theorem gv_ask0 (h0 : log[i]? = none) : giveM l a i (log.drop i) = .ask 1 l.free 0 0 := by rw [drop_end h0, giveM]
theorem gv_ask1 (h0 : log[i]? = some x) (h1 : log[i + 1]? = none) : giveM l a i (log.drop i) = .ask 2 (nodeAt l a 7) 0 (idxOf x.1) := by rw [drop_at h0, drop_end h1, giveM]
theorem gv_ask2 (h0 : log[i]? = some x) (h1 : log[i + 1]? = some y) (h2 : log[i + 2]? = none) : giveM l a i (log.drop i) = .ask 3 l.free x.1 (turnW x.1 a) := by rw [drop_at h0, drop_at h1, drop_end h2, giveM]
theorem gv_fail (h0 : log[i]? = some x) (h1 : log[i + 1]? = some y) (h2 : log[i + 2]? = some z) (hf : z.2 = false) : giveM l a i (log.drop i) = giveM l a (i + 3) (log.drop (i + 3)) := by rw [drop_at h0, drop_at h1, drop_at h2, giveM, if_neg (by simp [hf])]
theorem gv_out (h0 : log[i]? = some x) (h1 : log[i + 1]? = some y) (h2 : log[i + 2]? = some z) (hf : z.2 = true) : giveM l a i (log.drop i) = .out 0 true 0 (i + 2) := by rw [drop_at h0, drop_at h1, drop_at h2, giveM, if_pos hf]
end
end Go.Proofs.Ytgjdjgainjedhaa
