/- Are two confs, or two layouts, the same? -/
import Derived.Test.YthaieabhlodajaaLayP
import Derived.Test.YthaieabhlodajaaRows
import Derived.WalkKit
import Derived.Laws.StructEq
import Derived.Laws.Cover2
namespace Go.Proofs.Ythaieabhlodajaa
open Go.RowKit

def cfB (a b : Cf) : Bool := a.seats == b.seats && (a.nodes == b.nodes && (a.buckets == b.buckets && (a.slots == b.slots && (a.tasks == b.tasks && (a.cells == b.cells && (a.maps == b.maps && (a.stacks == b.stacks && (a.chans == b.chans))))))))
def lyB (a b : Ly) : Bool := cfB a.c b.c && (a.done == b.done && (a.count == b.count && (a.era == b.era && (a.free == b.free && (a.alive == b.alive && (a.owner == b.owner && (a.resv == b.resv && (a.deque == b.deque && (a.ring == b.ring && (a.task == b.task && (a.cell == b.cell && (a.map == b.map && (a.stack == b.stack && (a.chan == b.chan && (a.node == b.node && (a.size == b.size))))))))))))))))
theorem cfB_iff (a b : Cf) : cfB a b = true ↔ a = b := by
  obtain ⟨a0, a1, a2, a3, a4, a5, a6, a7, a8⟩ := a
  obtain ⟨b0, b1, b2, b3, b4, b5, b6, b7, b8⟩ := b
  simp [cfB]
theorem lyB_iff (a b : Ly) : lyB a b = true ↔ a = b := by
  obtain ⟨ac, a0, a1, a2, a3, a4, a5, a6, a7, a8, a9, a10, a11, a12, a13, a14, a15⟩ := a
  obtain ⟨bc, b0, b1, b2, b3, b4, b5, b6, b7, b8, b9, b10, b11, b12, b13, b14, b15⟩ := b
  simp [lyB, cfB_iff]

set_option maxHeartbeats 1000000 in
theorem cf_eq (d : Nat) (a b : Cf) (w : World) : (Op.equalIn (d + 2) 23 (.agg (cfC a)) (.agg (cfC b))).run Try.prog w = .ok (cfB a b) w := by
  have u3 := Try.underlying3
  have a3 := Try.isAgg3
  have z3 := Try.sizeOf3
  have hS : Try.prog.underlying 23 = some (.struct (Try.prog.fieldsOf 23)) := by kernel_rfl
  rw [run_equalIn_agg w (d + 1) 23 _ _ hS (by kernel_rfl)]
  simp only [Program.fieldsOf, Try.underlying23]
  go_simp
  unfold cfB
  by_cases h_seats : a.seats = b.seats
  rotate_left
  · simp [h_seats]
  by_cases h_nodes : a.nodes = b.nodes
  rotate_left
  · simp [h_nodes, h_seats]
  by_cases h_buckets : a.buckets = b.buckets
  rotate_left
  · simp [h_buckets, h_seats, h_nodes]
  by_cases h_slots : a.slots = b.slots
  rotate_left
  · simp [h_slots, h_seats, h_nodes, h_buckets]
  by_cases h_tasks : a.tasks = b.tasks
  rotate_left
  · simp [h_tasks, h_seats, h_nodes, h_buckets, h_slots]
  by_cases h_cells : a.cells = b.cells
  rotate_left
  · simp [h_cells, h_seats, h_nodes, h_buckets, h_slots, h_tasks]
  by_cases h_maps : a.maps = b.maps
  rotate_left
  · simp [h_maps, h_seats, h_nodes, h_buckets, h_slots, h_tasks, h_cells]
  by_cases h_stacks : a.stacks = b.stacks
  rotate_left
  · simp [h_stacks, h_seats, h_nodes, h_buckets, h_slots, h_tasks, h_cells, h_maps]
  simp only [h_seats, h_nodes, h_buckets, h_slots, h_tasks, h_cells, h_maps, h_stacks]
  by_cases h : a.chans = b.chans <;> simp [h]
theorem ite_ok (x y : Int) (r : Bool) (w : World) : (if x = y then (Result.ok r w : Result Bool) else .ok false w) = .ok (x == y && r) w := by by_cases h : x = y <;> simp [h]
theorem part_cf (a : Ly) (w : World) : (part 23 (lyC a) 0).run Try.prog w = .ok (.agg (cfC a.c)) w := by kernel_rfl
set_option maxHeartbeats 1000000 in
theorem ly_eq (d : Nat) (a b : Ly) (w : World) : (Op.equalIn (d + 3) 26 (.agg (lyC a)) (.agg (lyC b))).run Try.prog w = .ok (lyB a b) w := by
  have u3 := Try.underlying3
  have a3 := Try.isAgg3
  have z3 := Try.sizeOf3
  have hS : Try.prog.underlying 26 = some (.struct (Try.prog.fieldsOf 26)) := by kernel_rfl
  rw [run_equalIn_agg w (d + 2) 26 _ _ hS (by kernel_rfl)]
  simp only [Program.fieldsOf, Try.underlying26]
  have pa := part_cf a
  have pb := part_cf b
  have ce := fun w => cf_eq d a.c b.c w
  unfold lyB
  generalize cfB a.c b.c = q at *
  simp only [Op.eqFields]
  go_simp
  cases q
  · simp
  · simp only [ite_ok, Bool.and_true, Bool.true_and, Bool.true_eq_false, if_false]
end Go.Proofs.Ythaieabhlodajaa
