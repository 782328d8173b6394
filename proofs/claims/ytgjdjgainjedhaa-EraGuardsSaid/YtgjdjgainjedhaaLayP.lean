/- Confs and layouts, as plain numbers. -/
import Derived.Test.YtgjdjgainjedhaaLib
namespace Go.Proofs.Ytgjdjgainjedhaa
open Go.RowKit

structure Cf where
  seats : Int
  nodes : Int
  buckets : Int
  slots : Int
  tasks : Int
  cells : Int
  maps : Int
  stacks : Int
  chans : Int
abbrev cfV (c : Cf) : Value := .agg #[.int .i64 c.seats, .int .i64 c.nodes, .int .i64 c.buckets, .int .i64 c.slots, .int .i64 c.tasks, .int .i64 c.cells, .int .i64 c.maps, .int .i64 c.stacks, .int .i64 c.chans]
abbrev cfC (c : Cf) : Array Value := #[.int .i64 c.seats, .int .i64 c.nodes, .int .i64 c.buckets, .int .i64 c.slots, .int .i64 c.tasks, .int .i64 c.cells, .int .i64 c.maps, .int .i64 c.stacks, .int .i64 c.chans]
structure Ly where
  c : Cf
  done : Int
  count : Int
  era : Int
  free : Int
  alive : Int
  owner : Int
  resv : Int
  deque : Int
  ring : Int
  task : Int
  cell : Int
  map : Int
  stack : Int
  chan : Int
  node : Int
  size : Int
abbrev lyC (l : Ly) : Array Value := #[.int .i64 l.c.seats, .int .i64 l.c.nodes, .int .i64 l.c.buckets, .int .i64 l.c.slots, .int .i64 l.c.tasks, .int .i64 l.c.cells, .int .i64 l.c.maps, .int .i64 l.c.stacks, .int .i64 l.c.chans, .int .i64 l.done, .int .i64 l.count, .int .i64 l.era, .int .i64 l.free, .int .i64 l.alive, .int .i64 l.owner, .int .i64 l.resv, .int .i64 l.deque, .int .i64 l.ring, .int .i64 l.task, .int .i64 l.cell, .int .i64 l.map, .int .i64 l.stack, .int .i64 l.chan, .int .i64 l.node, .int .i64 l.size]
abbrev lyV (l : Ly) : Value := .agg #[.int .i64 l.c.seats, .int .i64 l.c.nodes, .int .i64 l.c.buckets, .int .i64 l.c.slots, .int .i64 l.c.tasks, .int .i64 l.c.cells, .int .i64 l.c.maps, .int .i64 l.c.stacks, .int .i64 l.c.chans, .int .i64 l.done, .int .i64 l.count, .int .i64 l.era, .int .i64 l.free, .int .i64 l.alive, .int .i64 l.owner, .int .i64 l.resv, .int .i64 l.deque, .int .i64 l.ring, .int .i64 l.task, .int .i64 l.cell, .int .i64 l.map, .int .i64 l.stack, .int .i64 l.chan, .int .i64 l.node, .int .i64 l.size]

/-- How many rings a seat has. -/
def ringsN (t : Int) : Int := if t ≤ 4 then 1 else if t ≤ 8 then 2 else if t ≤ 16 then 3 else if t ≤ 32 then 4 else 5
def IntBelow (n : Int) (w : World) (e : Ending) (w' : World) : Prop := e = .returned (.int .i64 n) ∧ Below w.heap.size w w'
def IntSame (n : Int) (w : World) (e : Ending) (w' : World) : Prop := e = .returned (.int .i64 n) ∧ w' = w
theorem IntSame.of {n : Int} {w : World} : IntSame n w (.returned (.int .i64 n)) w := ⟨rfl, rfl⟩
end Go.Proofs.Ytgjdjgainjedhaa
