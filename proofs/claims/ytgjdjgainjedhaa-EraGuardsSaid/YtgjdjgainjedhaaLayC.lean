/- Words of lay/XLayC that speak of no layout.Of: for seats without it. -/
import Derived.Test.YtgjdjgainjedhaaLayB
import Derived.Outline
import Derived.Deep.RegionWith
import Derived.Deep.Cut
namespace Go.Proofs.Ytgjdjgainjedhaa
open Go.RowKit
attribute [local go_sem ↓] Go.wp_at_zero Go.wp_at_succ

theorem below_setRow {a w : World} (h : Below a.heap.size a w) {g : Nat} (hg : a.heap.size ≤ g) (cs : Array Value) : Below a.heap.size a (w.setRow g cs) :=
  ⟨h.os, h.tape, h.output, by simpa using h.size, fun k hk => (setRow_other w g k cs (by omega)).trans (h.block k hk)⟩
/-- A struct's cells and a slot handed back. -/
theorem results_cell_tmp {P : Program} {fn : Func} {p t : Tmp} {ty : TypeId} (h : fn.results = #[.cell p ty, .tmp t]) (tmps : Array Value) (w : World) (g : Nat) (t' : TypeId) (cs : Array Value) (fr : Nat × Nat) (d : TypeDesc)
    (v : Value) (hp : tmps.getD p undef = .pointer (some ⟨g, 0, none⟩)) (hv : tmps.getD t undef = v) (hg : w.heap[g]? = some (.cells cs t' fr))
    (hu : P.underlying ty = some d) (hd : (match d with | .struct _ | .array _ _ => true | _ => false) = true) (hi : (P.info? ty).map (·.size) = some cs.size) :
    (results fn tmps).run P w = .ok (.tuple #[.agg cs, v]) w := by
  subst hv
  have hp' : tmps[p]?.getD undef = .pointer (some ⟨g, 0, none⟩) := by simpa using hp
  simp [results, h, hp', asAddr, run_loadVar_row w g t' ty cs fr d hg hu hd hi]
/-- w' is w but for block g. -/
structure Upd (g : Nat) (w w' : World) : Prop where
  keep : ∀ g' t cs, g' ≠ g → Bk w g' t cs → Bk w' g' t cs
  below : ∀ a : World, a.heap.size ≤ g → Below a.heap.size a w → Below a.heap.size a w'
  size : w'.heap.size = w.heap.size
theorem Upd.set (w : World) (g i : Nat) (u : Value) : Upd g w (w.setCell ⟨g, i, none⟩ u) :=
  ⟨fun _ _ _ h k => k.other h u, fun _ h hb => hb.setCell h u, by simp⟩

def lyOf (c : Cf) : Ly :=
  let r := 4 + 8 * c.seats + c.seats * aheadN (ringsN c.tasks)
  let ce := r + c.tasks * 4
  let m := ce + c.cells
  let s := m + c.maps * (2 + c.buckets)
  let ch := s + c.stacks * (1 + c.slots)
  let nd := ch + c.chans * 2
  ⟨c, 0, 1, 2, 3, 4, 4 + c.seats, 4 + 2 * c.seats, 4 + 5 * c.seats, 4 + 8 * c.seats, r, ce, m, s, ch, nd, nd + c.nodes * 8⟩
/-- May a layout be made of it? -/
def Cf.can (c : Cf) : Prop := c.may ∧ c.maps + c.chans ≤ c.nodes ∧ c.nodes ≤ 1000
theorem ringsN_bd (t : Int) : 1 ≤ ringsN t ∧ ringsN t ≤ 5 := by
  unfold ringsN
  repeat' split
  all_goals omega
theorem aheadN_bd (t : Int) : 0 ≤ aheadN t ∧ aheadN t ≤ 252 := by
  unfold aheadN
  repeat' split
  all_goals omega
structure LyOk (c : Cf) (l : Ly) : Prop where
  owner : 4 + c.seats * 1 = l.owner
  resv : l.owner + c.seats * 1 = l.resv
  deque : l.resv + c.seats * 3 = l.deque
  ring : l.deque + c.seats * 3 = l.ring
  task : l.ring + c.seats * aheadN (ringsN c.tasks) = l.task
  cell : l.task + c.tasks * 4 = l.cell
  map : l.cell + c.cells * 1 = l.map
  stack : l.map + c.maps * (2 + c.buckets) = l.stack
  chan : l.stack + c.stacks * (1 + c.slots) = l.chan
  node : l.chan + c.chans * 2 = l.node
  size : l.node + c.nodes * 8 = l.size
  b0 : 5 ≤ l.owner ∧ l.owner ≤ l.resv ∧ l.resv ≤ l.deque ∧ l.deque ≤ l.ring ∧ l.ring ≤ l.task ∧ l.task ≤ l.cell ∧ l.cell ≤ l.map ∧ l.map ≤ l.stack ∧ l.stack ≤ l.chan ∧ l.chan ≤ l.node ∧ l.node ≤ l.size ∧ l.size ≤ 1000000
  m0 : 0 ≤ c.seats * aheadN (ringsN c.tasks)
  m1 : 0 ≤ c.maps * (2 + c.buckets)
  m2 : 0 ≤ c.stacks * (1 + c.slots)
theorem mul_bd (a b A B : Int) (h0 : 0 ≤ a) (h1 : a ≤ A) (h2 : 0 ≤ b) (h3 : b ≤ B) : 0 ≤ a * b ∧ a * b ≤ A * B :=
  ⟨Int.mul_nonneg h0 h2, Int.mul_le_mul h1 h3 h2 (by omega)⟩
theorem lyOk_of (c : Cf) (h : c.can) : LyOk c (lyOf c) := by
  obtain ⟨⟨hr, _⟩, h1, h2⟩ := h
  have r0 : 1 ≤ c.seats ∧ c.seats ≤ 8 := hr 0 (by omega)
  have r1 : 1 ≤ c.buckets ∧ c.buckets ≤ 64 := hr 1 (by omega)
  have r2 : 1 ≤ c.slots ∧ c.slots ≤ 8 := hr 2 (by omega)
  have r3 : 1 ≤ c.tasks ∧ c.tasks ≤ 64 := hr 3 (by omega)
  have r4 : 0 ≤ c.cells ∧ c.cells ≤ 16 := hr 4 (by omega)
  have r5 : 0 ≤ c.maps ∧ c.maps ≤ 8 := hr 5 (by omega)
  have r6 : 0 ≤ c.stacks ∧ c.stacks ≤ 8 := hr 6 (by omega)
  have r7 : 0 ≤ c.chans ∧ c.chans ≤ 8 := hr 7 (by omega)
  have q := aheadN_bd (ringsN c.tasks)
  have m0 := mul_bd c.seats (aheadN (ringsN c.tasks)) 8 252 (by omega) (by omega) (by omega) (by omega)
  have m1 := mul_bd c.maps (2 + c.buckets) 8 66 (by omega) (by omega) (by omega) (by omega)
  have m2 := mul_bd c.stacks (1 + c.slots) 8 9 (by omega) (by omega) (by omega) (by omega)
  constructor
  all_goals first
    | exact m0.1
    | exact m1.1
    | exact m2.1
    | (simp only [lyOf]; done)
    | (simp only [lyOf]; omega)
    | (unfold lyOf; dsimp only; omega)

abbrev zeroLy : Ly := ⟨⟨0, 0, 0, 0, 0, 0, 0, 0, 0⟩, 0, 0, 0, 0, 0, 0, 0, 0, 0, 0, 0, 0, 0, 0, 0, 0⟩
def OfPost (l : Ly) (er : Int) (w : World) (e : Ending) (w' : World) : Prop := e = .returned (.tuple #[lyV l, .int .i64 er]) ∧ Below w.heap.size w w'
end Go.Proofs.Ytgjdjgainjedhaa
