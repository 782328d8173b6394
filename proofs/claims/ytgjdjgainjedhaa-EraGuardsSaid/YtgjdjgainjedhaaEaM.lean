/- The eras, in plain words: what their programs do next; a play's turns. No program in sight. -/
import Derived.Test.YtgjdjgainjedhaaArM
namespace Go.Proofs.Ytgjdjgainjedhaa
open Go.RowKit
set_option linter.unusedVariables false

def resvAt (l : Ly) (a b : Int) : Int := withinN (l.resv) (l.c.seats) (3) (a) (b)
def cellAt (l : Ly) (a : Int) : Int := withinN (l.cell) (l.c.cells) 1 (a) 0
abbrev Gone := List (Int × Int)
/-- Where an operation of the eras is. -/
inductive EPh where
  | gu (i : Nat) (has : Int)
  | gv (i : Nat) (has val : Int)
  | gs (i : Nat) (era : Int)
  | gz (val : Int) (pt : Nat)
  | dr (i : Nat)
  | r0
  | r1 (now : Int)
  | rs (gone : Gone) (held : List Int)
  | rb (held : List Int) (stays : Gone) (g : Int × Int) (rest : Gone)
  | rg (held : List Int) (stays : Gone) (g : Int × Int) (rest : Gone) (L : Log)
  | rz (gone : Gone)
  | no
/-- What a program does next: an access, or what it tells. -/
inductive AnsE where
  | ask (k c o v : Int)
  | out (val : Int) (is : Bool) (err point : Int) (gone : Gone)
/-- Is a reservation from a birth, and from 1, to a retirement? -/
def heldB (held : List Int) (born ret : Int) : Bool := held.any fun e => decide (1 ≤ e) && (decide (born ≤ e) && decide (e ≤ ret))
/-- Behind a node that was looked at. -/
def siftN (held : List Int) (stays : Gone) : Gone → EPh
  | [] => .rz stays
  | g :: r => .rb held stays g r
/-- The phase behind a result. -/
def EPh.add (l : Ly) (a : Int) (gone : Gone) (r : Int × Bool) : EPh → EPh
  | .gu i has => .gv (i + 1) has r.1
  | .gv i has val => if r.1 = has then .gz val (i - 1) else .gs (i + 1) r.1
  | .gs i era => .gu (i + 1) era
  | .dr i => if i < 3 then .dr (i + 1) else .dr i
  | .r0 => .r1 r.1
  | .r1 now => if 2 * l.c.seats ≤ ((gone ++ [(a, now)]).length : Int) then .rs (gone ++ [(a, now)]) [] else .rz (gone ++ [(a, now)])
  | .rs g held => if ((held ++ [r.1]).length : Int) < 3 * l.c.seats then .rs g (held ++ [r.1]) else siftN (held ++ [r.1]) [] g
  | .rb held stays g rest => if heldB held r.1 g.2 then siftN held (stays ++ [g]) rest else .rg held stays g rest []
  | .rg held stays g rest L => match giveM l g.1 0 (L ++ [r]) with
    | .ask _ _ _ _ => .rg held stays g rest (L ++ [r])
    | .out _ _ _ _ => siftN held stays rest
  | p => p
def EPh.ans (l : Ly) (me : Int) (op : Opr) (gone : Gone) : EPh → AnsE
  | .gu _ _ => .ask 1 op.b 0 0
  | .gv _ _ _ => .ask 1 l.era 0 0
  | .gs _ era => .ask 2 (resvAt l me op.a) 0 era
  | .gz val pt => .out val true 0 pt gone
  | .dr i => if i < 3 then .ask 2 (resvAt l me i) 0 0 else .out 0 true 0 2 gone
  | .r0 => .ask 1 l.era 0 0
  | .r1 _ => .ask 4 l.era 0 1
  | .rs _ held => .ask 1 (resvAt l ((held.length / 3 : Nat) : Int) ((held.length % 3 : Nat) : Int)) 0 0
  | .rb _ _ g _ => .ask 1 (nodeAt l g.1 6) 0 0
  | .rg _ _ g _ L => match giveM l g.1 0 L with
    | .ask k c o v => .ask k c o v
    | .out _ _ _ _ => .out 0 false 0 0 []
  | .rz g => .out 0 true 0 1 g
  | .no => .out 0 false 1 (-1) gone
/-- May an operation be? -/
def mayE (l : Ly) (op : Opr) : Bool :=
  if op.kind = 1 then decide (0 ≤ op.a) && (decide (op.a < 3) && (decide (0 ≤ op.b) && decide (op.b < l.size))) else
  if op.kind = 2 then true else if op.kind = 3 then decide (1 ≤ op.a) && decide (op.a ≤ l.c.nodes) else false
def startE (l : Ly) (op : Opr) : EPh :=
  if mayE l op then (if op.kind = 1 then .gu 0 0 else if op.kind = 2 then .dr 0 else .r0) else .no
def ePh (l : Ly) (op : Opr) (gone : Gone) (log : Log) : EPh := log.foldl (fun p r => p.add l op.a gone r) (startE l op)
def eraR (l : Ly) (me : Int) (op : Opr) (gone : Gone) (log : Log) : AnsE := (ePh l op gone log).ans l me op gone
theorem ePh_snoc (l : Ly) (op : Opr) (gone : Gone) (log : Log) (r : Int × Bool) : ePh l op gone (log ++ [r]) = (ePh l op gone log).add l op.a gone r := by
  unfold ePh
  rw [List.foldl_append]
  rfl

structure SeatE where
  next : Nat
  busy : Bool
  at_ : Nat
  op : Opr
  log : Log
  node : Int
  read : Int
  gone : Gone
structure TabE where
  m : List Int
  seats : List SeatE
  bad : Bool
/-- An access: the memory, what it told, whether it can be done. -/
def accM (m : List Int) (a : Acc) : List Int × (Int × Bool) × Bool :=
  if a.err m.length = 0 then (a.make m, (a.had m, a.ok (a.had m)), true) else (m, (0, false), false)
/-- What there is behind a seat's step. -/
structure Stp3 where
  m : List Int
  s : SeatE
  bad : Bool
def liftA (gone : Gone) : Ans → AnsE
  | .ask k c o v => .ask k c o v
  | .out val is err point => .out val is err point gone
/-- A step of a program: what there is then, and what it told, if it is done. -/
def progM (l : Ly) (own : Bool) (who : Nat) (x : Stp3) : Stp3 × Option (Int × Bool × Gone) :=
  match (if own then eraR l who x.s.op x.s.gone x.s.log else liftA x.s.gone (nextR l x.s.op x.s.log)) with
  | .out val is _ _ g => (⟨x.m, { x.s with log := [] }, x.bad⟩, some (val, is, g))
  | .ask k c o v =>
    if (accM x.m ⟨k, c, o, v⟩).2.2 then (⟨(accM x.m ⟨k, c, o, v⟩).1, { x.s with log := x.s.log ++ [(accM x.m ⟨k, c, o, v⟩).2.1] }, x.bad⟩, none)
    else (⟨x.m, x.s, true⟩, none)
def writeM (l : Ly) (who : Nat) (w : Nat) (x : Stp3) : Stp3 :=
  match x.s.at_ with
  | 0 => match progM l false who ⟨x.m, { x.s with op := ⟨1, 0, 0, 0⟩ }, x.bad⟩ with
    | (y, some (val, is, _)) => ⟨y.m, { y.s with node := val, at_ := 1, busy := is }, y.bad⟩
    | (y, none) => y
  | 1 => ⟨(accM x.m ⟨2, nodeAt l x.s.node 1, 0, 1000 * (who : Int) + w + 1⟩).1, { x.s with at_ := 2 }, x.bad || !(accM x.m ⟨2, nodeAt l x.s.node 1, 0, 1000 * (who : Int) + w + 1⟩).2.2⟩
  | 2 => ⟨(accM x.m ⟨5, cellAt l 0, 0, x.s.node⟩).1, { x.s with node := (accM x.m ⟨5, cellAt l 0, 0, x.s.node⟩).2.1.1, at_ := 3, busy := decide ((accM x.m ⟨5, cellAt l 0, 0, x.s.node⟩).2.1.1 ≠ 0) }, x.bad || !(accM x.m ⟨5, cellAt l 0, 0, x.s.node⟩).2.2⟩
  | _ => match progM l true who ⟨x.m, { x.s with op := ⟨3, 0, x.s.node, 0⟩ }, x.bad⟩ with
    | (y, some (_, _, g)) => ⟨y.m, { y.s with gone := g, busy := false }, y.bad⟩
    | (y, none) => y
def lookM (l : Ly) (who : Nat) (x : Stp3) : Stp3 :=
  if x.s.at_ = 0 then match progM l true who ⟨x.m, { x.s with op := ⟨1, 0, 0, cellAt l 0⟩ }, x.bad⟩ with
    | (y, some (val, _, _)) => ⟨y.m, { y.s with node := val, at_ := if val = 0 then 3 else 1 }, y.bad⟩
    | (y, none) => y
  else if x.s.at_ = 1 ∨ x.s.at_ = 2 then
    ⟨(accM x.m ⟨1, nodeAt l x.s.node 1, 0, 0⟩).1, { x.s with read := (accM x.m ⟨1, nodeAt l x.s.node 1, 0, 0⟩).2.1.1, at_ := x.s.at_ + 1 },
      x.bad || (!(accM x.m ⟨1, nodeAt l x.s.node 1, 0, 0⟩).2.2 || (decide (x.s.at_ = 2 ∧ (accM x.m ⟨1, nodeAt l x.s.node 1, 0, 0⟩).2.1.1 ≠ x.s.read) || decide ((accM x.m ⟨1, nodeAt l x.s.node 1, 0, 0⟩).2.1.1 = 0)))⟩
  else match progM l true who ⟨x.m, { x.s with op := ⟨2, 0, 0, 0⟩ }, x.bad⟩ with
    | (y, some _) => ⟨y.m, { y.s with busy := false }, y.bad⟩
    | (y, none) => y
/-- A seat that wants. -/
def wakeE (s : SeatE) : SeatE := if s.busy then s else { s with next := s.next + 1, busy := true, at_ := 0, log := [], node := 0 }
/-- A seat's turn. -/
def turnE (l : Ly) (want : List (List Nat)) (who : Nat) (t : TabE) : TabE :=
  match t.seats[who]? with
  | none => t
  | some s0 =>
    if s0.busy = false ∧ (want.getD who []).length ≤ s0.next then t else
      let s := wakeE s0
      let w := (want.getD who []).getD (s.next - 1) 0
      let y := if w % 2 = 0 then writeM l who w ⟨t.m, s, t.bad⟩ else lookM l who ⟨t.m, s, t.bad⟩
      ⟨y.m, t.seats.set who y.s, y.bad⟩
def runE (l : Ly) (want : List (List Nat)) : TabE → List Nat → TabE
  | t, [] => t
  | t, w :: ws => runE l want (turnE l want w t) ws
theorem runE_append (l : Ly) (want : List (List Nat)) (ws ws' : List Nat) : ∀ t, runE l want t (ws ++ ws') = runE l want (runE l want t ws) ws' := by
  induction ws with
  | nil => intro t; rfl
  | cons w ws ih => intro t; exact ih _
theorem runE_snoc (l : Ly) (want : List (List Nat)) (ws : List Nat) (w : Nat) (t : TabE) : runE l want t (ws ++ [w]) = turnE l want w (runE l want t ws) := by
  rw [runE_append]
  rfl
def whosE (n : Nat) (turns : List Nat) : List Nat := turns.map (· % n) ++ (List.range n).flatMap fun k => List.replicate 700 k
def seatE0 : SeatE := ⟨0, false, 0, op0, [], 0, 0, []⟩
/-- What lays the memory in the beginning. -/
def initE (l : Ly) : List Acc := initA l ++ [⟨2, l.era, 0, 1⟩]
/-- Does a seat hold a node that it read? -/
def holdsE (want : List (List Nat)) (who : Nat) (s : SeatE) : Bool :=
  s.busy && (decide (0 < s.next) && (decide ((want.getD who []).getD (s.next - 1) 0 % 2 = 1) && (decide (s.node ≠ 0) && (decide (s.at_ = 1) || (decide (s.at_ = 2) || (decide (s.at_ = 3) && decide (s.log.length = 0)))))))
end Go.Proofs.Ytgjdjgainjedhaa
