/- layout.Of: printed by of_gen.py. -/
import Derived.Test.YtbcgjolcfagboaaLayB
import Derived.Outline
import Derived.Deep.RegionWith
import Derived.Deep.Cut
namespace Go.Proofs.Ytbcgjolcfagboaa
open Go.RowKit
attribute [local go_sem ↓] Go.wp_at_zero Go.wp_at_succ

theorem below_setRow {a w : World} (h : Below a.heap.size a w) {g : Nat} (hg : a.heap.size ≤ g) (cs : Array Value) : Below a.heap.size a (w.setRow g cs) :=
  ⟨h.os, h.tape, h.output, by simpa using h.size, fun k hk => (setRow_other w g k cs (by omega)).trans (h.block k hk)⟩
/-- A struct's cells and a slot handed back. -/
theorem results_cell_tmp {P : Program} {fn : Func} {p t : Tmp} {ty : TypeId} (h : fn.results = #[.cell p ty, .tmp t]) (tmps : Array Value) (w : World) (g : Nat) (t' : TypeId) (cs : Array Value) (fr : Nat × Nat) (d : TypeDesc)
    (v : Value) (hp : tmps.getD p undef = .pointer (some ⟨g, 0, none⟩)) (hv : tmps.getD t undef = v) (hg : w.heap[g]? = some (.cells cs t' fr))
    (hu : P.underlying ty = some d) (hd : (match d with | .struct _ | .array _ _ => true | _ => false) = true) (hi : (P.info? ty).map (·.size) = some cs.size) :
    (results fn tmps).run P w = .ok (.tuple #[.agg cs, v]) w := by
  subst hv
  have hp' : tmps[p]?.getD undef = .pointer (some ⟨g, 0, none⟩) := by simpa using hp
  simp [results, h, hp', asAddr, run_loadVar_row w g t' ty cs fr d hg hu hd hi]
/-- w' is w but for block g. -/
structure Upd (g : Nat) (w w' : World) : Prop where
  keep : ∀ g' t cs, g' ≠ g → Bk w g' t cs → Bk w' g' t cs
  below : ∀ a : World, a.heap.size ≤ g → Below a.heap.size a w → Below a.heap.size a w'
  size : w'.heap.size = w.heap.size
theorem Upd.set (w : World) (g i : Nat) (u : Value) : Upd g w (w.setCell ⟨g, i, none⟩ u) :=
  ⟨fun _ _ _ h k => k.other h u, fun _ h hb => hb.setCell h u, by simp⟩

def PartPost (g : Nat) (a a' : Int) (w : World) (e : Ending) (w' : World) : Prop := e = .returned (.int .i64 a) ∧ Bk w' g 3 #[.int .i64 a'] ∧ Upd g w w'
theorem part_any (m e a a' : Int) (g : Nat) (w : World) (k : Bk w g 3 #[.int .i64 a]) (h : a + m * e = a') (ha : 0 ≤ a) (ha' : a' ≤ 1000000000) (hm : 0 ≤ m * e) :
    Calls Try.prog 24 #[.int .i64 m, .int .i64 e, .pointer (some ⟨g, 0, none⟩)] w (PartPost g a a' w) := by
  have c0 := k.cell 0
  simp at c0
  have f0 := k.free 0
  have s1 := k.stored 0 (.int .i64 a')
  obtain ⟨p, hp⟩ : ∃ p, p = m * e := ⟨_, rfl⟩
  have hmul : IntKind.i64.wrap (m * e) = p := by rw [← hp]; exact IntWalk.i64_in _ (by omega)
  have hp0 : 0 ≤ p := by omega
  have hp1 : p ≤ 1000000000 := by omega
  have hadd : IntKind.i64.wrap (a + p) = a' := by rw [hp, h]; exact IntWalk.i64_in _ (by omega)
  have HK := Lib.hid (And.intro k s1)
  have H1 := Lib.hid (And.intro hp h)
  clear k s1 hp h hm
  go_enter Try.func24, Try.ntmps24
  go_wp2
  go_ret
  refine ⟨rfl, ?_, ?_⟩
  · have := HK.out.2
    simp at this
    first | exact this | (rw [← H1.out.2, ← H1.out.1] at this; exact this)
  · exact Upd.set _ _ _ _

def lyOf (c : Cf) : Ly :=
  let r := 4 + 8 * c.seats + c.seats * aheadN (ringsN c.tasks)
  let ce := r + c.tasks * 4
  let m := ce + c.cells
  let s := m + c.maps * (2 + c.buckets)
  let ch := s + c.stacks * (1 + c.slots)
  let nd := ch + c.chans * 2
  ⟨c, 0, 1, 2, 3, 4, 4 + c.seats, 4 + 2 * c.seats, 4 + 5 * c.seats, 4 + 8 * c.seats, r, ce, m, s, ch, nd, nd + c.nodes * 8⟩
/-- May a layout be made of it? -/
def Cf.can (c : Cf) : Prop := c.may ∧ c.maps + c.chans ≤ c.nodes ∧ c.nodes ≤ 1000
theorem ringsN_bd (t : Int) : 1 ≤ ringsN t ∧ ringsN t ≤ 5 := by
  unfold ringsN
  repeat' split
  all_goals omega
theorem aheadN_bd (t : Int) : 0 ≤ aheadN t ∧ aheadN t ≤ 252 := by
  unfold aheadN
  repeat' split
  all_goals omega
structure LyOk (c : Cf) (l : Ly) : Prop where
  owner : 4 + c.seats * 1 = l.owner
  resv : l.owner + c.seats * 1 = l.resv
  deque : l.resv + c.seats * 3 = l.deque
  ring : l.deque + c.seats * 3 = l.ring
  task : l.ring + c.seats * aheadN (ringsN c.tasks) = l.task
  cell : l.task + c.tasks * 4 = l.cell
  map : l.cell + c.cells * 1 = l.map
  stack : l.map + c.maps * (2 + c.buckets) = l.stack
  chan : l.stack + c.stacks * (1 + c.slots) = l.chan
  node : l.chan + c.chans * 2 = l.node
  size : l.node + c.nodes * 8 = l.size
  b0 : 5 ≤ l.owner ∧ l.owner ≤ l.resv ∧ l.resv ≤ l.deque ∧ l.deque ≤ l.ring ∧ l.ring ≤ l.task ∧ l.task ≤ l.cell ∧ l.cell ≤ l.map ∧ l.map ≤ l.stack ∧ l.stack ≤ l.chan ∧ l.chan ≤ l.node ∧ l.node ≤ l.size ∧ l.size ≤ 1000000
  m0 : 0 ≤ c.seats * aheadN (ringsN c.tasks)
  m1 : 0 ≤ c.maps * (2 + c.buckets)
  m2 : 0 ≤ c.stacks * (1 + c.slots)
theorem mul_bd (a b A B : Int) (h0 : 0 ≤ a) (h1 : a ≤ A) (h2 : 0 ≤ b) (h3 : b ≤ B) : 0 ≤ a * b ∧ a * b ≤ A * B :=
  ⟨Int.mul_nonneg h0 h2, Int.mul_le_mul h1 h3 h2 (by omega)⟩
theorem lyOk_of (c : Cf) (h : c.can) : LyOk c (lyOf c) := by
  obtain ⟨⟨hr, _⟩, h1, h2⟩ := h
  have r0 : 1 ≤ c.seats ∧ c.seats ≤ 8 := hr 0 (by omega)
  have r1 : 1 ≤ c.buckets ∧ c.buckets ≤ 64 := hr 1 (by omega)
  have r2 : 1 ≤ c.slots ∧ c.slots ≤ 8 := hr 2 (by omega)
  have r3 : 1 ≤ c.tasks ∧ c.tasks ≤ 64 := hr 3 (by omega)
  have r4 : 0 ≤ c.cells ∧ c.cells ≤ 16 := hr 4 (by omega)
  have r5 : 0 ≤ c.maps ∧ c.maps ≤ 8 := hr 5 (by omega)
  have r6 : 0 ≤ c.stacks ∧ c.stacks ≤ 8 := hr 6 (by omega)
  have r7 : 0 ≤ c.chans ∧ c.chans ≤ 8 := hr 7 (by omega)
  have q := aheadN_bd (ringsN c.tasks)
  have m0 := mul_bd c.seats (aheadN (ringsN c.tasks)) 8 252 (by omega) (by omega) (by omega) (by omega)
  have m1 := mul_bd c.maps (2 + c.buckets) 8 66 (by omega) (by omega) (by omega) (by omega)
  have m2 := mul_bd c.stacks (1 + c.slots) 8 9 (by omega) (by omega) (by omega) (by omega)
  constructor
  all_goals first
    | exact m0.1
    | exact m1.1
    | exact m2.1
    | (simp only [lyOf]; done)
    | (simp only [lyOf]; omega)
    | (unfold lyOf; dsimp only; omega)

abbrev zeroLy : Ly := ⟨⟨0, 0, 0, 0, 0, 0, 0, 0, 0⟩, 0, 0, 0, 0, 0, 0, 0, 0, 0, 0, 0, 0, 0, 0, 0, 0⟩
def OfPost (l : Ly) (er : Int) (w : World) (e : Ending) (w' : World) : Prop := e = .returned (.tuple #[lyV l, .int .i64 er]) ∧ Below w.heap.size w w'

set_option maxRecDepth 100000 in
set_option maxHeartbeats 8000000 in
theorem of_ok (c : Cf) (w : World) (hc : c.can) : Calls Try.prog 17 #[cfV c] w (OfPost (lyOf c) 0 w) := by
  have hl := lyOk_of c hc
  obtain ⟨l, hle⟩ : ∃ l, l = lyOf c := ⟨_, rfl⟩
  rw [← hle] at hl ⊢
  have HLE := Lib.hid hle
  have HL := Lib.hid hl
  obtain ⟨b0, b1, b2, b3, b4, b5, b6, b7, b8, b9, b10, b11⟩ := hl.b0
  clear hl hle
  obtain ⟨hm, n1, n2⟩ := hc
  have r0 : 1 ≤ c.seats ∧ c.seats ≤ 8 := hm.1 0 (by omega)
  have r1 : 1 ≤ c.buckets ∧ c.buckets ≤ 64 := hm.1 1 (by omega)
  have r2 : 1 ≤ c.slots ∧ c.slots ≤ 8 := hm.1 2 (by omega)
  have r3 : 1 ≤ c.tasks ∧ c.tasks ≤ 64 := hm.1 3 (by omega)
  have r4 : 0 ≤ c.cells ∧ c.cells ≤ 16 := hm.1 4 (by omega)
  have r5 : 0 ≤ c.maps ∧ c.maps ≤ 8 := hm.1 5 (by omega)
  have r6 : 0 ≤ c.stacks ∧ c.stacks ≤ 8 := hm.1 6 (by omega)
  have r7 : 0 ≤ c.chans ∧ c.chans ≤ 8 := hm.1 7 (by omega)
  have HM := Lib.hid hm
  clear hm
  have d1 : decide (c.nodes < c.maps + c.chans) = false := by simp; omega
  have d2 : decide (1000 < c.nodes) = false := by simp; omega
  go_enter Try.func17, Try.ntmps17
  go_wp2_with fail
  (with_reducible refine (bounded_any c _).mono ?_)
  rintro e w1 ⟨bb, rfl, hbb, hb⟩
  obtain rfl : bb = true := hbb.2 HM.out
  clear hbb
  have k0 := ((Bk.made w 29 (cfC c)).alloc (.cells (lyC zeroLy) 31)).keep hb
  have k1 := (Bk.new (w.alloc (.cells (cfC c) 29)) (g := w.heap.size + 1) (by simp) 31 (lyC zeroLy)).keep hb
  have hbl := below_tr (below_al (below_al (Below.refl w.heap.size w) (.cells (cfC c) 29)) (.cells (lyC zeroLy) 31)) hb
  have hg : w.heap.size + 1 < w1.heap.size := k1.lt
  have hg0 : w.heap.size < w1.heap.size := k0.lt
  clear hb
  have q0 := k0.cell 0
  have q1 := k0.cell 1
  have q2 := k0.cell 2
  have q3 := k0.cell 3
  have q4 := k0.cell 4
  have q5 := k0.cell 5
  have q6 := k0.cell 6
  have q7 := k0.cell 7
  have q8 := k0.cell 8
  simp at q0 q1 q2 q3 q4 q5 q6 q7 q8
  go_wp2_with (refine wpList_store_new rfl 31 (.tmp 6) (.tmp 28) rfl rfl (w1.heap.size + 1) _ _ (lyC ⟨c, 0, 0, 0, 0, 0, 0, 0, 0, 0, 0, 0, 0, 0, 0, 0, 0⟩) rfl (by simp) rfl rfl (by kernel_rfl) rfl (by simp [Value.oneCell']) ?_)

  have k2 := (Bk.made w1 3 #[.int .i64 0]).alloc (.cells (lyC ⟨c, 0, 0, 0, 0, 0, 0, 0, 0, 0, 0, 0, 0, 0, 0, 0, 0⟩) 31)
  have k3 := Bk.new (w1.alloc (.cells #[.int .i64 0] 3)) (g := w1.heap.size + 1) (by simp) 31 (lyC ⟨c, 0, 0, 0, 0, 0, 0, 0, 0, 0, 0, 0, 0, 0, 0, 0, 0⟩)
  replace k0 := (k0.alloc (.cells #[.int .i64 0] 3)).alloc (.cells (lyC ⟨c, 0, 0, 0, 0, 0, 0, 0, 0, 0, 0, 0, 0, 0, 0, 0, 0⟩) 31)
  replace k1 := (k1.alloc (.cells #[.int .i64 0] 3)).alloc (.cells (lyC ⟨c, 0, 0, 0, 0, 0, 0, 0, 0, 0, 0, 0, 0, 0, 0, 0, 0⟩) 31)
  replace hbl := below_al (below_al hbl (.cells #[.int .i64 0] 3)) (.cells (lyC ⟨c, 0, 0, 0, 0, 0, 0, 0, 0, 0, 0, 0, 0, 0, 0, 0, 0⟩) 31)
  clear q0 q1 q2 q3 q4 q5 q6 q7 q8
  generalize ((w1.alloc (.cells #[.int .i64 0] 3)).alloc (.cells (lyC ⟨c, 0, 0, 0, 0, 0, 0, 0, 0, 0, 0, 0, 0, 0, 0, 0, 0⟩) 31)) = v at *
  generalize w1.heap.size = g at *
  clear w1
  have q0 := k0.cell 0
  have q1 := k0.cell 1
  have q2 := k0.cell 2
  have q3 := k0.cell 3
  have q4 := k0.cell 4
  have q5 := k0.cell 5
  have q6 := k0.cell 6
  have q7 := k0.cell 7
  have q8 := k0.cell 8
  have t0 := k3.cell 9
  have t1 := k3.free 9
  have t2 := k2.cell 0
  simp at q0 q1 q2 q3 q4 q5 q6 q7 q8 t0 t2
  (with_reducible refine (part_any 1 1 0 1 g _ k2 (by omega) (by omega) (by omega) (by omega)).mono ?_)
  rintro e v' ⟨rfl, k2', up⟩
  replace k0 := up.keep _ _ _ (by omega) k0
  replace k1 := up.keep _ _ _ (by omega) k1
  replace k3 := up.keep _ _ _ (by omega) k3
  replace hbl := up.below _ (by omega) hbl
  replace k2 := k2'
  clear up k2' q0 q1 q2 q3 q4 q5 q6 q7 q8 t0 t1 t2 v
  have q0 := k0.cell 0
  have q1 := k0.cell 1
  have q2 := k0.cell 2
  have q3 := k0.cell 3
  have q4 := k0.cell 4
  have q5 := k0.cell 5
  have q6 := k0.cell 6
  have q7 := k0.cell 7
  have q8 := k0.cell 8
  have t0 := k3.cell 9
  have t1 := k3.free 9
  have t2 := k2.cell 0
  simp at q0 q1 q2 q3 q4 q5 q6 q7 q8 t0 t2

  go_wp2_with fail
  replace k0 := k0.other (p := ⟨g + 1, 9, none⟩) (by simp; omega) (.int .i64 0)
  replace k1 := k1.other (p := ⟨g + 1, 9, none⟩) (by simp; omega) (.int .i64 0)
  replace k2 := k2.other (p := ⟨g + 1, 9, none⟩) (by simp) (.int .i64 0)
  replace k3 := k3.stored 9 (.int .i64 0)
  replace k3 : Bk _ _ _ (lyC ⟨c, 0, 0, 0, 0, 0, 0, 0, 0, 0, 0, 0, 0, 0, 0, 0, 0⟩) := k3
  replace hbl := below_set hbl (p := ⟨g + 1, 9, none⟩) (by simp; omega) (.int .i64 0)
  clear q0 q1 q2 q3 q4 q5 q6 q7 q8 t0 t1 t2
  generalize (v'.setCell ⟨g + 1, 9, none⟩ (.int .i64 0)) = v at *
  clear v'
  have q0 := k0.cell 0
  have q1 := k0.cell 1
  have q2 := k0.cell 2
  have q3 := k0.cell 3
  have q4 := k0.cell 4
  have q5 := k0.cell 5
  have q6 := k0.cell 6
  have q7 := k0.cell 7
  have q8 := k0.cell 8
  have t0 := k3.cell 10
  have t1 := k3.free 10
  have t2 := k2.cell 0
  simp at q0 q1 q2 q3 q4 q5 q6 q7 q8 t0 t2

  (with_reducible refine (part_any 1 1 1 2 g _ k2 (by omega) (by omega) (by omega) (by omega)).mono ?_)
  rintro e v' ⟨rfl, k2', up⟩
  replace k0 := up.keep _ _ _ (by omega) k0
  replace k1 := up.keep _ _ _ (by omega) k1
  replace k3 := up.keep _ _ _ (by omega) k3
  replace hbl := up.below _ (by omega) hbl
  replace k2 := k2'
  clear up k2' q0 q1 q2 q3 q4 q5 q6 q7 q8 t0 t1 t2 v
  have q0 := k0.cell 0
  have q1 := k0.cell 1
  have q2 := k0.cell 2
  have q3 := k0.cell 3
  have q4 := k0.cell 4
  have q5 := k0.cell 5
  have q6 := k0.cell 6
  have q7 := k0.cell 7
  have q8 := k0.cell 8
  have t0 := k3.cell 10
  have t1 := k3.free 10
  have t2 := k2.cell 0
  simp at q0 q1 q2 q3 q4 q5 q6 q7 q8 t0 t2

  go_wp2_with fail
  replace k0 := k0.other (p := ⟨g + 1, 10, none⟩) (by simp; omega) (.int .i64 1)
  replace k1 := k1.other (p := ⟨g + 1, 10, none⟩) (by simp; omega) (.int .i64 1)
  replace k2 := k2.other (p := ⟨g + 1, 10, none⟩) (by simp) (.int .i64 1)
  replace k3 := k3.stored 10 (.int .i64 1)
  replace k3 : Bk _ _ _ (lyC ⟨c, 0, 1, 0, 0, 0, 0, 0, 0, 0, 0, 0, 0, 0, 0, 0, 0⟩) := k3
  replace hbl := below_set hbl (p := ⟨g + 1, 10, none⟩) (by simp; omega) (.int .i64 1)
  clear q0 q1 q2 q3 q4 q5 q6 q7 q8 t0 t1 t2
  generalize (v'.setCell ⟨g + 1, 10, none⟩ (.int .i64 1)) = v at *
  clear v'
  have q0 := k0.cell 0
  have q1 := k0.cell 1
  have q2 := k0.cell 2
  have q3 := k0.cell 3
  have q4 := k0.cell 4
  have q5 := k0.cell 5
  have q6 := k0.cell 6
  have q7 := k0.cell 7
  have q8 := k0.cell 8
  have t0 := k3.cell 11
  have t1 := k3.free 11
  have t2 := k2.cell 0
  simp at q0 q1 q2 q3 q4 q5 q6 q7 q8 t0 t2

  (with_reducible refine (part_any 1 1 2 3 g _ k2 (by omega) (by omega) (by omega) (by omega)).mono ?_)
  rintro e v' ⟨rfl, k2', up⟩
  replace k0 := up.keep _ _ _ (by omega) k0
  replace k1 := up.keep _ _ _ (by omega) k1
  replace k3 := up.keep _ _ _ (by omega) k3
  replace hbl := up.below _ (by omega) hbl
  replace k2 := k2'
  clear up k2' q0 q1 q2 q3 q4 q5 q6 q7 q8 t0 t1 t2 v
  have q0 := k0.cell 0
  have q1 := k0.cell 1
  have q2 := k0.cell 2
  have q3 := k0.cell 3
  have q4 := k0.cell 4
  have q5 := k0.cell 5
  have q6 := k0.cell 6
  have q7 := k0.cell 7
  have q8 := k0.cell 8
  have t0 := k3.cell 11
  have t1 := k3.free 11
  have t2 := k2.cell 0
  simp at q0 q1 q2 q3 q4 q5 q6 q7 q8 t0 t2

  go_wp2_with fail
  replace k0 := k0.other (p := ⟨g + 1, 11, none⟩) (by simp; omega) (.int .i64 2)
  replace k1 := k1.other (p := ⟨g + 1, 11, none⟩) (by simp; omega) (.int .i64 2)
  replace k2 := k2.other (p := ⟨g + 1, 11, none⟩) (by simp) (.int .i64 2)
  replace k3 := k3.stored 11 (.int .i64 2)
  replace k3 : Bk _ _ _ (lyC ⟨c, 0, 1, 2, 0, 0, 0, 0, 0, 0, 0, 0, 0, 0, 0, 0, 0⟩) := k3
  replace hbl := below_set hbl (p := ⟨g + 1, 11, none⟩) (by simp; omega) (.int .i64 2)
  clear q0 q1 q2 q3 q4 q5 q6 q7 q8 t0 t1 t2
  generalize (v'.setCell ⟨g + 1, 11, none⟩ (.int .i64 2)) = v at *
  clear v'
  have q0 := k0.cell 0
  have q1 := k0.cell 1
  have q2 := k0.cell 2
  have q3 := k0.cell 3
  have q4 := k0.cell 4
  have q5 := k0.cell 5
  have q6 := k0.cell 6
  have q7 := k0.cell 7
  have q8 := k0.cell 8
  have t0 := k3.cell 12
  have t1 := k3.free 12
  have t2 := k2.cell 0
  simp at q0 q1 q2 q3 q4 q5 q6 q7 q8 t0 t2

  (with_reducible refine (part_any 1 1 3 4 g _ k2 (by omega) (by omega) (by omega) (by omega)).mono ?_)
  rintro e v' ⟨rfl, k2', up⟩
  replace k0 := up.keep _ _ _ (by omega) k0
  replace k1 := up.keep _ _ _ (by omega) k1
  replace k3 := up.keep _ _ _ (by omega) k3
  replace hbl := up.below _ (by omega) hbl
  replace k2 := k2'
  clear up k2' q0 q1 q2 q3 q4 q5 q6 q7 q8 t0 t1 t2 v
  have q0 := k0.cell 0
  have q1 := k0.cell 1
  have q2 := k0.cell 2
  have q3 := k0.cell 3
  have q4 := k0.cell 4
  have q5 := k0.cell 5
  have q6 := k0.cell 6
  have q7 := k0.cell 7
  have q8 := k0.cell 8
  have t0 := k3.cell 12
  have t1 := k3.free 12
  have t2 := k2.cell 0
  simp at q0 q1 q2 q3 q4 q5 q6 q7 q8 t0 t2

  go_wp2_with fail
  replace k0 := k0.other (p := ⟨g + 1, 12, none⟩) (by simp; omega) (.int .i64 3)
  replace k1 := k1.other (p := ⟨g + 1, 12, none⟩) (by simp; omega) (.int .i64 3)
  replace k2 := k2.other (p := ⟨g + 1, 12, none⟩) (by simp) (.int .i64 3)
  replace k3 := k3.stored 12 (.int .i64 3)
  replace k3 : Bk _ _ _ (lyC ⟨c, 0, 1, 2, 3, 0, 0, 0, 0, 0, 0, 0, 0, 0, 0, 0, 0⟩) := k3
  replace hbl := below_set hbl (p := ⟨g + 1, 12, none⟩) (by simp; omega) (.int .i64 3)
  clear q0 q1 q2 q3 q4 q5 q6 q7 q8 t0 t1 t2
  generalize (v'.setCell ⟨g + 1, 12, none⟩ (.int .i64 3)) = v at *
  clear v'
  have q0 := k0.cell 0
  have q1 := k0.cell 1
  have q2 := k0.cell 2
  have q3 := k0.cell 3
  have q4 := k0.cell 4
  have q5 := k0.cell 5
  have q6 := k0.cell 6
  have q7 := k0.cell 7
  have q8 := k0.cell 8
  have t0 := k3.cell 13
  have t1 := k3.free 13
  have t2 := k2.cell 0
  simp at q0 q1 q2 q3 q4 q5 q6 q7 q8 t0 t2

  (with_reducible refine (part_any c.seats 1 4 l.owner g _ k2 HL.out.owner (by omega) (by omega) (by omega)).mono ?_)
  rintro e v' ⟨rfl, k2', up⟩
  replace k0 := up.keep _ _ _ (by omega) k0
  replace k1 := up.keep _ _ _ (by omega) k1
  replace k3 := up.keep _ _ _ (by omega) k3
  replace hbl := up.below _ (by omega) hbl
  replace k2 := k2'
  clear up k2' q0 q1 q2 q3 q4 q5 q6 q7 q8 t0 t1 t2 v
  have q0 := k0.cell 0
  have q1 := k0.cell 1
  have q2 := k0.cell 2
  have q3 := k0.cell 3
  have q4 := k0.cell 4
  have q5 := k0.cell 5
  have q6 := k0.cell 6
  have q7 := k0.cell 7
  have q8 := k0.cell 8
  have t0 := k3.cell 13
  have t1 := k3.free 13
  have t2 := k2.cell 0
  simp at q0 q1 q2 q3 q4 q5 q6 q7 q8 t0 t2

  go_wp2_with fail
  replace k0 := k0.other (p := ⟨g + 1, 13, none⟩) (by simp; omega) (.int .i64 4)
  replace k1 := k1.other (p := ⟨g + 1, 13, none⟩) (by simp; omega) (.int .i64 4)
  replace k2 := k2.other (p := ⟨g + 1, 13, none⟩) (by simp) (.int .i64 4)
  replace k3 := k3.stored 13 (.int .i64 4)
  replace k3 : Bk _ _ _ (lyC ⟨c, 0, 1, 2, 3, 4, 0, 0, 0, 0, 0, 0, 0, 0, 0, 0, 0⟩) := k3
  replace hbl := below_set hbl (p := ⟨g + 1, 13, none⟩) (by simp; omega) (.int .i64 4)
  clear q0 q1 q2 q3 q4 q5 q6 q7 q8 t0 t1 t2
  generalize (v'.setCell ⟨g + 1, 13, none⟩ (.int .i64 4)) = v at *
  clear v'
  have q0 := k0.cell 0
  have q1 := k0.cell 1
  have q2 := k0.cell 2
  have q3 := k0.cell 3
  have q4 := k0.cell 4
  have q5 := k0.cell 5
  have q6 := k0.cell 6
  have q7 := k0.cell 7
  have q8 := k0.cell 8
  have t0 := k3.cell 14
  have t1 := k3.free 14
  have t2 := k2.cell 0
  simp at q0 q1 q2 q3 q4 q5 q6 q7 q8 t0 t2

  (with_reducible refine (part_any c.seats 1 l.owner l.resv g _ k2 HL.out.resv (by omega) (by omega) (by omega)).mono ?_)
  rintro e v' ⟨rfl, k2', up⟩
  replace k0 := up.keep _ _ _ (by omega) k0
  replace k1 := up.keep _ _ _ (by omega) k1
  replace k3 := up.keep _ _ _ (by omega) k3
  replace hbl := up.below _ (by omega) hbl
  replace k2 := k2'
  clear up k2' q0 q1 q2 q3 q4 q5 q6 q7 q8 t0 t1 t2 v
  have q0 := k0.cell 0
  have q1 := k0.cell 1
  have q2 := k0.cell 2
  have q3 := k0.cell 3
  have q4 := k0.cell 4
  have q5 := k0.cell 5
  have q6 := k0.cell 6
  have q7 := k0.cell 7
  have q8 := k0.cell 8
  have t0 := k3.cell 14
  have t1 := k3.free 14
  have t2 := k2.cell 0
  simp at q0 q1 q2 q3 q4 q5 q6 q7 q8 t0 t2

  go_wp2_with fail
  replace k0 := k0.other (p := ⟨g + 1, 14, none⟩) (by simp; omega) (.int .i64 l.owner)
  replace k1 := k1.other (p := ⟨g + 1, 14, none⟩) (by simp; omega) (.int .i64 l.owner)
  replace k2 := k2.other (p := ⟨g + 1, 14, none⟩) (by simp) (.int .i64 l.owner)
  replace k3 := k3.stored 14 (.int .i64 l.owner)
  replace k3 : Bk _ _ _ (lyC ⟨c, 0, 1, 2, 3, 4, l.owner, 0, 0, 0, 0, 0, 0, 0, 0, 0, 0⟩) := k3
  replace hbl := below_set hbl (p := ⟨g + 1, 14, none⟩) (by simp; omega) (.int .i64 l.owner)
  clear q0 q1 q2 q3 q4 q5 q6 q7 q8 t0 t1 t2
  generalize (v'.setCell ⟨g + 1, 14, none⟩ (.int .i64 l.owner)) = v at *
  clear v'
  have q0 := k0.cell 0
  have q1 := k0.cell 1
  have q2 := k0.cell 2
  have q3 := k0.cell 3
  have q4 := k0.cell 4
  have q5 := k0.cell 5
  have q6 := k0.cell 6
  have q7 := k0.cell 7
  have q8 := k0.cell 8
  have t0 := k3.cell 15
  have t1 := k3.free 15
  have t2 := k2.cell 0
  simp at q0 q1 q2 q3 q4 q5 q6 q7 q8 t0 t2

  (with_reducible refine (part_any c.seats 3 l.resv l.deque g _ k2 HL.out.deque (by omega) (by omega) (by omega)).mono ?_)
  rintro e v' ⟨rfl, k2', up⟩
  replace k0 := up.keep _ _ _ (by omega) k0
  replace k1 := up.keep _ _ _ (by omega) k1
  replace k3 := up.keep _ _ _ (by omega) k3
  replace hbl := up.below _ (by omega) hbl
  replace k2 := k2'
  clear up k2' q0 q1 q2 q3 q4 q5 q6 q7 q8 t0 t1 t2 v
  have q0 := k0.cell 0
  have q1 := k0.cell 1
  have q2 := k0.cell 2
  have q3 := k0.cell 3
  have q4 := k0.cell 4
  have q5 := k0.cell 5
  have q6 := k0.cell 6
  have q7 := k0.cell 7
  have q8 := k0.cell 8
  have t0 := k3.cell 15
  have t1 := k3.free 15
  have t2 := k2.cell 0
  simp at q0 q1 q2 q3 q4 q5 q6 q7 q8 t0 t2

  go_wp2_with fail
  replace k0 := k0.other (p := ⟨g + 1, 15, none⟩) (by simp; omega) (.int .i64 l.resv)
  replace k1 := k1.other (p := ⟨g + 1, 15, none⟩) (by simp; omega) (.int .i64 l.resv)
  replace k2 := k2.other (p := ⟨g + 1, 15, none⟩) (by simp) (.int .i64 l.resv)
  replace k3 := k3.stored 15 (.int .i64 l.resv)
  replace k3 : Bk _ _ _ (lyC ⟨c, 0, 1, 2, 3, 4, l.owner, l.resv, 0, 0, 0, 0, 0, 0, 0, 0, 0⟩) := k3
  replace hbl := below_set hbl (p := ⟨g + 1, 15, none⟩) (by simp; omega) (.int .i64 l.resv)
  clear q0 q1 q2 q3 q4 q5 q6 q7 q8 t0 t1 t2
  generalize (v'.setCell ⟨g + 1, 15, none⟩ (.int .i64 l.resv)) = v at *
  clear v'
  have q0 := k0.cell 0
  have q1 := k0.cell 1
  have q2 := k0.cell 2
  have q3 := k0.cell 3
  have q4 := k0.cell 4
  have q5 := k0.cell 5
  have q6 := k0.cell 6
  have q7 := k0.cell 7
  have q8 := k0.cell 8
  have t0 := k3.cell 16
  have t1 := k3.free 16
  have t2 := k2.cell 0
  simp at q0 q1 q2 q3 q4 q5 q6 q7 q8 t0 t2

  (with_reducible refine (part_any c.seats 3 l.deque l.ring g _ k2 HL.out.ring (by omega) (by omega) (by omega)).mono ?_)
  rintro e v' ⟨rfl, k2', up⟩
  replace k0 := up.keep _ _ _ (by omega) k0
  replace k1 := up.keep _ _ _ (by omega) k1
  replace k3 := up.keep _ _ _ (by omega) k3
  replace hbl := up.below _ (by omega) hbl
  replace k2 := k2'
  clear up k2' q0 q1 q2 q3 q4 q5 q6 q7 q8 t0 t1 t2 v
  have q0 := k0.cell 0
  have q1 := k0.cell 1
  have q2 := k0.cell 2
  have q3 := k0.cell 3
  have q4 := k0.cell 4
  have q5 := k0.cell 5
  have q6 := k0.cell 6
  have q7 := k0.cell 7
  have q8 := k0.cell 8
  have t0 := k3.cell 16
  have t1 := k3.free 16
  have t2 := k2.cell 0
  simp at q0 q1 q2 q3 q4 q5 q6 q7 q8 t0 t2

  go_wp2_with fail
  replace k0 := k0.other (p := ⟨g + 1, 16, none⟩) (by simp; omega) (.int .i64 l.deque)
  replace k1 := k1.other (p := ⟨g + 1, 16, none⟩) (by simp; omega) (.int .i64 l.deque)
  replace k2 := k2.other (p := ⟨g + 1, 16, none⟩) (by simp) (.int .i64 l.deque)
  replace k3 := k3.stored 16 (.int .i64 l.deque)
  replace k3 : Bk _ _ _ (lyC ⟨c, 0, 1, 2, 3, 4, l.owner, l.resv, l.deque, 0, 0, 0, 0, 0, 0, 0, 0⟩) := k3
  replace hbl := below_set hbl (p := ⟨g + 1, 16, none⟩) (by simp; omega) (.int .i64 l.deque)
  clear q0 q1 q2 q3 q4 q5 q6 q7 q8 t0 t1 t2
  generalize (v'.setCell ⟨g + 1, 16, none⟩ (.int .i64 l.deque)) = v at *
  clear v'
  refine wp_region_held_drew (S := fun w' => Bk w' w.heap.size 29 (cfC c)) (by kernel_rfl) k0.drew (fun hHeld => ?_)
  replace k0 := k0.drew
  replace k1 := k1.drew
  replace k2 := k2.drew
  replace k3 := k3.drew
  replace hbl := hbl.drew
  generalize v.drew = v2 at *
  clear v
  refine wpAnyH_take (i := 0) (oi := _) (v := .func (.func 24) #[] #[.pointer (some ⟨g, 0, none⟩)]) rfl (by kernel_rfl) (by kernel_rfl) (by kernel_rfl) (fun _ _ _ h => h) (Or.inl ⟨by rfl, ?_⟩) k0 ?_
  · intro w' hSw
    go_simp
  simp only [List.getElem_toArray, List.getElem_cons_zero, Act.put, List.setIfInBounds_toArray, List.set_cons_zero, List.set_cons_succ]
  refine wpAnyH_take (i := 1) (oi := _) (v := .pointer (some ⟨w.heap.size, 0, none⟩)) rfl (by kernel_rfl) (by kernel_rfl) (by kernel_rfl) (fun _ _ _ h => h) (Or.inl ⟨by rfl, ?_⟩) k0 ?_
  · intro w' hSw
    go_simp
  simp only [List.getElem_toArray, List.getElem_cons_succ, List.getElem_cons_zero, Act.put, List.setIfInBounds_toArray, List.set_cons_zero, List.set_cons_succ]
  refine wpAnyH_take (i := 2) (oi := _) (v := .int .i64 c.seats) rfl (by kernel_rfl) (by kernel_rfl) (by kernel_rfl) (fun _ _ _ h => h) (Or.inl ⟨by rfl, ?_⟩) k0 ?_
  · intro w' hSw
    have q0 := hSw.cell 0
    simp at q0
    go_simp
  simp only [List.getElem_toArray, List.getElem_cons_succ, List.getElem_cons_zero, Act.put, List.setIfInBounds_toArray, List.set_cons_zero, List.set_cons_succ]
  refine wpAnyH_ready (rs := [3]) (by kernel_rfl) (by simp) ?_
  refine AllReadyH.cons (o := _) rfl (fun K hK => ?_) AllReadyH.nil
  rw [if_pos (by rfl)]
  refine wp_load_row 31 (.tmp 6) rfl (g + 1) rfl 31 (lyC ⟨c, 0, 1, 2, 3, 4, l.owner, l.resv, l.deque, 0, 0, 0, 0, 0, 0, 0, 0⟩) (0, 0) _ k3 Try.underlying31 rfl (by kernel_rfl) ?_
  refine hK.out _ _ k0 (fun hS' => ?_)
  clear hS' hK K
  (try simp only [List.getElem_toArray, List.getElem_cons_succ, List.getElem_cons_zero, Act.put, List.setIfInBounds_toArray, List.set_cons_zero, List.set_cons_succ])
  refine wpAnyH_ready (rs := [4]) (by kernel_rfl) (by simp) ?_
  refine AllReadyH.cons (o := _) rfl (fun K hK => ?_) AllReadyH.nil
  (try simp only [List.getElem_toArray, List.getElem_cons_succ, List.getElem_cons_zero])
  go_simp
  (with_reducible refine (rings_any ⟨c, 0, 1, 2, 3, 4, l.owner, l.resv, l.deque, 0, 0, 0, 0, 0, 0, 0, 0⟩ _ r3.1 r3.2).mono ?_)
  rintro e v3 ⟨rfl, hb⟩
  replace k0 := k0.keep hb
  replace k1 := k1.keep hb
  replace k2 := k2.keep hb
  replace k3 := k3.keep hb
  replace hbl := below_tr hbl hb
  refine hK.out _ _ k0 (fun hS' => ?_)
  clear hS' hK K hb hHeld
  (try simp only [])
  refine wpAnyH_ready (rs := [5]) (by kernel_rfl) (by simp) ?_
  refine AllReadyH.cons (o := _) rfl (fun K hK => ?_) AllReadyH.nil
  (try simp only [List.getElem_toArray, List.getElem_cons_succ, List.getElem_cons_zero])
  go_simp
  (with_reducible refine (ahead_any (ringsN c.tasks) _ (by have := ringsN_bd c.tasks; omega) (by have := ringsN_bd c.tasks; omega)).mono ?_)
  rintro e v4 ⟨rfl, rfl⟩
  refine hK.out _ _ k0 (fun hS' => ?_)
  clear hS' hK K
  (try simp only [List.getElem_toArray, List.getElem_cons_succ, List.getElem_cons_zero, Act.put, List.setIfInBounds_toArray, List.set_cons_zero, List.set_cons_succ])
  refine wpAnyH_ready (rs := [6]) (by kernel_rfl) (by simp) ?_
  refine AllReadyH.cons (o := _) rfl (fun K hK => ?_) AllReadyH.nil
  (try simp only [List.getElem_toArray, List.getElem_cons_succ, List.getElem_cons_zero])
  go_simp
  (with_reducible refine (part_any c.seats (aheadN (ringsN c.tasks)) l.ring l.task g _ k2 HL.out.task (by omega) (by omega) HL.out.m0).mono ?_)
  rintro e v' ⟨rfl, k2', up⟩
  replace k0 := up.keep _ _ _ (by omega) k0
  replace k1 := up.keep _ _ _ (by omega) k1
  replace k3 := up.keep _ _ _ (by omega) k3
  replace hbl := up.below _ (by omega) hbl
  replace k2 := k2'
  refine hK.out _ _ k0 (fun hS' => ?_)
  clear hS' hK K up k2'
  (try simp only [List.getElem_toArray, List.getElem_cons_succ, List.getElem_cons_zero, Act.put, List.setIfInBounds_toArray, List.set_cons_zero, List.set_cons_succ])
  refine wpAnyH_ready (rs := [7]) (by kernel_rfl) (by simp) ?_
  refine AllReadyH.cons (o := _) rfl (fun K hK => ?_) AllReadyH.nil
  (try simp only [List.getElem_toArray, List.getElem_cons_succ, List.getElem_cons_zero])
  go_simp
  refine hK.out _ _ k0 (fun hS' => ?_)
  clear hS' hK K
  (try simp only [List.getElem_toArray, List.getElem_cons_succ, List.getElem_cons_zero, Act.put, List.setIfInBounds_toArray, List.set_cons_zero, List.set_cons_succ])
  have q0 := k0.cell 0
  have q1 := k0.cell 1
  have q2 := k0.cell 2
  have q3 := k0.cell 3
  have q4 := k0.cell 4
  have q5 := k0.cell 5
  have q6 := k0.cell 6
  have q7 := k0.cell 7
  have q8 := k0.cell 8
  have t0 := k3.cell 17
  have t1 := k3.free 17
  have t2 := k2.cell 0
  simp at q0 q1 q2 q3 q4 q5 q6 q7 q8 t0 t2
  refine wpAnyH_ready (rs := [8]) (by kernel_rfl) (by simp) ?_
  refine AllReadyH.cons (o := _) rfl (fun K hK => ?_) AllReadyH.nil
  (try simp only [List.getElem_toArray, List.getElem_cons_succ, List.getElem_cons_zero])
  go_simp
  refine hK.out _ _ (k0.other (p := ⟨g + 1, 17, none⟩) (by simp; omega) _) (fun hS' => ?_)
  clear hS' hK K
  (try simp only [List.getElem_toArray, List.getElem_cons_succ, List.getElem_cons_zero, Act.put, List.setIfInBounds_toArray, List.set_cons_zero, List.set_cons_succ])
  refine wpAnyH_done (by kernel_rfl) ?_ _

  go_wp2_with fail
  replace k0 := k0.other (p := ⟨g + 1, 17, none⟩) (by simp; omega) (.int .i64 l.ring)
  replace k1 := k1.other (p := ⟨g + 1, 17, none⟩) (by simp; omega) (.int .i64 l.ring)
  replace k2 := k2.other (p := ⟨g + 1, 17, none⟩) (by simp) (.int .i64 l.ring)
  replace k3 := k3.stored 17 (.int .i64 l.ring)
  replace k3 : Bk _ _ _ (lyC ⟨c, 0, 1, 2, 3, 4, l.owner, l.resv, l.deque, l.ring, 0, 0, 0, 0, 0, 0, 0⟩) := k3
  replace hbl := below_set hbl (p := ⟨g + 1, 17, none⟩) (by simp; omega) (.int .i64 l.ring)
  clear q0 q1 q2 q3 q4 q5 q6 q7 q8 t0 t1 t2
  generalize (v'.setCell ⟨g + 1, 17, none⟩ (.int .i64 l.ring)) = v at *
  clear v'
  have q0 := k0.cell 0
  have q1 := k0.cell 1
  have q2 := k0.cell 2
  have q3 := k0.cell 3
  have q4 := k0.cell 4
  have q5 := k0.cell 5
  have q6 := k0.cell 6
  have q7 := k0.cell 7
  have q8 := k0.cell 8
  have t0 := k3.cell 18
  have t1 := k3.free 18
  have t2 := k2.cell 0
  simp at q0 q1 q2 q3 q4 q5 q6 q7 q8 t0 t2

  (with_reducible refine (part_any c.tasks 4 l.task l.cell g _ k2 HL.out.cell (by omega) (by omega) (by omega)).mono ?_)
  rintro e v' ⟨rfl, k2', up⟩
  replace k0 := up.keep _ _ _ (by omega) k0
  replace k1 := up.keep _ _ _ (by omega) k1
  replace k3 := up.keep _ _ _ (by omega) k3
  replace hbl := up.below _ (by omega) hbl
  replace k2 := k2'
  clear up k2' q0 q1 q2 q3 q4 q5 q6 q7 q8 t0 t1 t2 v
  have q0 := k0.cell 0
  have q1 := k0.cell 1
  have q2 := k0.cell 2
  have q3 := k0.cell 3
  have q4 := k0.cell 4
  have q5 := k0.cell 5
  have q6 := k0.cell 6
  have q7 := k0.cell 7
  have q8 := k0.cell 8
  have t0 := k3.cell 18
  have t1 := k3.free 18
  have t2 := k2.cell 0
  simp at q0 q1 q2 q3 q4 q5 q6 q7 q8 t0 t2

  go_wp2_with fail
  replace k0 := k0.other (p := ⟨g + 1, 18, none⟩) (by simp; omega) (.int .i64 l.task)
  replace k1 := k1.other (p := ⟨g + 1, 18, none⟩) (by simp; omega) (.int .i64 l.task)
  replace k2 := k2.other (p := ⟨g + 1, 18, none⟩) (by simp) (.int .i64 l.task)
  replace k3 := k3.stored 18 (.int .i64 l.task)
  replace k3 : Bk _ _ _ (lyC ⟨c, 0, 1, 2, 3, 4, l.owner, l.resv, l.deque, l.ring, l.task, 0, 0, 0, 0, 0, 0⟩) := k3
  replace hbl := below_set hbl (p := ⟨g + 1, 18, none⟩) (by simp; omega) (.int .i64 l.task)
  clear q0 q1 q2 q3 q4 q5 q6 q7 q8 t0 t1 t2
  generalize (v'.setCell ⟨g + 1, 18, none⟩ (.int .i64 l.task)) = v at *
  clear v'
  have q0 := k0.cell 0
  have q1 := k0.cell 1
  have q2 := k0.cell 2
  have q3 := k0.cell 3
  have q4 := k0.cell 4
  have q5 := k0.cell 5
  have q6 := k0.cell 6
  have q7 := k0.cell 7
  have q8 := k0.cell 8
  have t0 := k3.cell 19
  have t1 := k3.free 19
  have t2 := k2.cell 0
  simp at q0 q1 q2 q3 q4 q5 q6 q7 q8 t0 t2

  (with_reducible refine (part_any c.cells 1 l.cell l.map g _ k2 HL.out.map (by omega) (by omega) (by omega)).mono ?_)
  rintro e v' ⟨rfl, k2', up⟩
  replace k0 := up.keep _ _ _ (by omega) k0
  replace k1 := up.keep _ _ _ (by omega) k1
  replace k3 := up.keep _ _ _ (by omega) k3
  replace hbl := up.below _ (by omega) hbl
  replace k2 := k2'
  clear up k2' q0 q1 q2 q3 q4 q5 q6 q7 q8 t0 t1 t2 v
  have q0 := k0.cell 0
  have q1 := k0.cell 1
  have q2 := k0.cell 2
  have q3 := k0.cell 3
  have q4 := k0.cell 4
  have q5 := k0.cell 5
  have q6 := k0.cell 6
  have q7 := k0.cell 7
  have q8 := k0.cell 8
  have t0 := k3.cell 19
  have t1 := k3.free 19
  have t2 := k2.cell 0
  simp at q0 q1 q2 q3 q4 q5 q6 q7 q8 t0 t2

  go_wp2_with fail
  replace k0 := k0.other (p := ⟨g + 1, 19, none⟩) (by simp; omega) (.int .i64 l.cell)
  replace k1 := k1.other (p := ⟨g + 1, 19, none⟩) (by simp; omega) (.int .i64 l.cell)
  replace k2 := k2.other (p := ⟨g + 1, 19, none⟩) (by simp) (.int .i64 l.cell)
  replace k3 := k3.stored 19 (.int .i64 l.cell)
  replace k3 : Bk _ _ _ (lyC ⟨c, 0, 1, 2, 3, 4, l.owner, l.resv, l.deque, l.ring, l.task, l.cell, 0, 0, 0, 0, 0⟩) := k3
  replace hbl := below_set hbl (p := ⟨g + 1, 19, none⟩) (by simp; omega) (.int .i64 l.cell)
  clear q0 q1 q2 q3 q4 q5 q6 q7 q8 t0 t1 t2
  generalize (v'.setCell ⟨g + 1, 19, none⟩ (.int .i64 l.cell)) = v at *
  clear v'
  have q0 := k0.cell 0
  have q1 := k0.cell 1
  have q2 := k0.cell 2
  have q3 := k0.cell 3
  have q4 := k0.cell 4
  have q5 := k0.cell 5
  have q6 := k0.cell 6
  have q7 := k0.cell 7
  have q8 := k0.cell 8
  have t0 := k3.cell 20
  have t1 := k3.free 20
  have t2 := k2.cell 0
  simp at q0 q1 q2 q3 q4 q5 q6 q7 q8 t0 t2

  (with_reducible refine (part_any c.maps (2 + c.buckets) l.map l.stack g _ k2 HL.out.stack (by omega) (by omega) HL.out.m1).mono ?_)
  rintro e v' ⟨rfl, k2', up⟩
  replace k0 := up.keep _ _ _ (by omega) k0
  replace k1 := up.keep _ _ _ (by omega) k1
  replace k3 := up.keep _ _ _ (by omega) k3
  replace hbl := up.below _ (by omega) hbl
  replace k2 := k2'
  clear up k2' q0 q1 q2 q3 q4 q5 q6 q7 q8 t0 t1 t2 v
  have q0 := k0.cell 0
  have q1 := k0.cell 1
  have q2 := k0.cell 2
  have q3 := k0.cell 3
  have q4 := k0.cell 4
  have q5 := k0.cell 5
  have q6 := k0.cell 6
  have q7 := k0.cell 7
  have q8 := k0.cell 8
  have t0 := k3.cell 20
  have t1 := k3.free 20
  have t2 := k2.cell 0
  simp at q0 q1 q2 q3 q4 q5 q6 q7 q8 t0 t2

  go_wp2_with fail
  replace k0 := k0.other (p := ⟨g + 1, 20, none⟩) (by simp; omega) (.int .i64 l.map)
  replace k1 := k1.other (p := ⟨g + 1, 20, none⟩) (by simp; omega) (.int .i64 l.map)
  replace k2 := k2.other (p := ⟨g + 1, 20, none⟩) (by simp) (.int .i64 l.map)
  replace k3 := k3.stored 20 (.int .i64 l.map)
  replace k3 : Bk _ _ _ (lyC ⟨c, 0, 1, 2, 3, 4, l.owner, l.resv, l.deque, l.ring, l.task, l.cell, l.map, 0, 0, 0, 0⟩) := k3
  replace hbl := below_set hbl (p := ⟨g + 1, 20, none⟩) (by simp; omega) (.int .i64 l.map)
  clear q0 q1 q2 q3 q4 q5 q6 q7 q8 t0 t1 t2
  generalize (v'.setCell ⟨g + 1, 20, none⟩ (.int .i64 l.map)) = v at *
  clear v'
  have q0 := k0.cell 0
  have q1 := k0.cell 1
  have q2 := k0.cell 2
  have q3 := k0.cell 3
  have q4 := k0.cell 4
  have q5 := k0.cell 5
  have q6 := k0.cell 6
  have q7 := k0.cell 7
  have q8 := k0.cell 8
  have t0 := k3.cell 21
  have t1 := k3.free 21
  have t2 := k2.cell 0
  simp at q0 q1 q2 q3 q4 q5 q6 q7 q8 t0 t2

  (with_reducible refine (part_any c.stacks (1 + c.slots) l.stack l.chan g _ k2 HL.out.chan (by omega) (by omega) HL.out.m2).mono ?_)
  rintro e v' ⟨rfl, k2', up⟩
  replace k0 := up.keep _ _ _ (by omega) k0
  replace k1 := up.keep _ _ _ (by omega) k1
  replace k3 := up.keep _ _ _ (by omega) k3
  replace hbl := up.below _ (by omega) hbl
  replace k2 := k2'
  clear up k2' q0 q1 q2 q3 q4 q5 q6 q7 q8 t0 t1 t2 v
  have q0 := k0.cell 0
  have q1 := k0.cell 1
  have q2 := k0.cell 2
  have q3 := k0.cell 3
  have q4 := k0.cell 4
  have q5 := k0.cell 5
  have q6 := k0.cell 6
  have q7 := k0.cell 7
  have q8 := k0.cell 8
  have t0 := k3.cell 21
  have t1 := k3.free 21
  have t2 := k2.cell 0
  simp at q0 q1 q2 q3 q4 q5 q6 q7 q8 t0 t2

  go_wp2_with fail
  replace k0 := k0.other (p := ⟨g + 1, 21, none⟩) (by simp; omega) (.int .i64 l.stack)
  replace k1 := k1.other (p := ⟨g + 1, 21, none⟩) (by simp; omega) (.int .i64 l.stack)
  replace k2 := k2.other (p := ⟨g + 1, 21, none⟩) (by simp) (.int .i64 l.stack)
  replace k3 := k3.stored 21 (.int .i64 l.stack)
  replace k3 : Bk _ _ _ (lyC ⟨c, 0, 1, 2, 3, 4, l.owner, l.resv, l.deque, l.ring, l.task, l.cell, l.map, l.stack, 0, 0, 0⟩) := k3
  replace hbl := below_set hbl (p := ⟨g + 1, 21, none⟩) (by simp; omega) (.int .i64 l.stack)
  clear q0 q1 q2 q3 q4 q5 q6 q7 q8 t0 t1 t2
  generalize (v'.setCell ⟨g + 1, 21, none⟩ (.int .i64 l.stack)) = v at *
  clear v'
  have q0 := k0.cell 0
  have q1 := k0.cell 1
  have q2 := k0.cell 2
  have q3 := k0.cell 3
  have q4 := k0.cell 4
  have q5 := k0.cell 5
  have q6 := k0.cell 6
  have q7 := k0.cell 7
  have q8 := k0.cell 8
  have t0 := k3.cell 22
  have t1 := k3.free 22
  have t2 := k2.cell 0
  simp at q0 q1 q2 q3 q4 q5 q6 q7 q8 t0 t2

  (with_reducible refine (part_any c.chans 2 l.chan l.node g _ k2 HL.out.node (by omega) (by omega) (by omega)).mono ?_)
  rintro e v' ⟨rfl, k2', up⟩
  replace k0 := up.keep _ _ _ (by omega) k0
  replace k1 := up.keep _ _ _ (by omega) k1
  replace k3 := up.keep _ _ _ (by omega) k3
  replace hbl := up.below _ (by omega) hbl
  replace k2 := k2'
  clear up k2' q0 q1 q2 q3 q4 q5 q6 q7 q8 t0 t1 t2 v
  have q0 := k0.cell 0
  have q1 := k0.cell 1
  have q2 := k0.cell 2
  have q3 := k0.cell 3
  have q4 := k0.cell 4
  have q5 := k0.cell 5
  have q6 := k0.cell 6
  have q7 := k0.cell 7
  have q8 := k0.cell 8
  have t0 := k3.cell 22
  have t1 := k3.free 22
  have t2 := k2.cell 0
  simp at q0 q1 q2 q3 q4 q5 q6 q7 q8 t0 t2

  go_wp2_with fail
  replace k0 := k0.other (p := ⟨g + 1, 22, none⟩) (by simp; omega) (.int .i64 l.chan)
  replace k1 := k1.other (p := ⟨g + 1, 22, none⟩) (by simp; omega) (.int .i64 l.chan)
  replace k2 := k2.other (p := ⟨g + 1, 22, none⟩) (by simp) (.int .i64 l.chan)
  replace k3 := k3.stored 22 (.int .i64 l.chan)
  replace k3 : Bk _ _ _ (lyC ⟨c, 0, 1, 2, 3, 4, l.owner, l.resv, l.deque, l.ring, l.task, l.cell, l.map, l.stack, l.chan, 0, 0⟩) := k3
  replace hbl := below_set hbl (p := ⟨g + 1, 22, none⟩) (by simp; omega) (.int .i64 l.chan)
  clear q0 q1 q2 q3 q4 q5 q6 q7 q8 t0 t1 t2
  generalize (v'.setCell ⟨g + 1, 22, none⟩ (.int .i64 l.chan)) = v at *
  clear v'
  have q0 := k0.cell 0
  have q1 := k0.cell 1
  have q2 := k0.cell 2
  have q3 := k0.cell 3
  have q4 := k0.cell 4
  have q5 := k0.cell 5
  have q6 := k0.cell 6
  have q7 := k0.cell 7
  have q8 := k0.cell 8
  have t0 := k3.cell 23
  have t1 := k3.free 23
  have t2 := k2.cell 0
  simp at q0 q1 q2 q3 q4 q5 q6 q7 q8 t0 t2

  (with_reducible refine (part_any c.nodes 8 l.node l.size g _ k2 HL.out.size (by omega) (by omega) (by omega)).mono ?_)
  rintro e v' ⟨rfl, k2', up⟩
  replace k0 := up.keep _ _ _ (by omega) k0
  replace k1 := up.keep _ _ _ (by omega) k1
  replace k3 := up.keep _ _ _ (by omega) k3
  replace hbl := up.below _ (by omega) hbl
  replace k2 := k2'
  clear up k2' q0 q1 q2 q3 q4 q5 q6 q7 q8 t0 t1 t2 v
  have q0 := k0.cell 0
  have q1 := k0.cell 1
  have q2 := k0.cell 2
  have q3 := k0.cell 3
  have q4 := k0.cell 4
  have q5 := k0.cell 5
  have q6 := k0.cell 6
  have q7 := k0.cell 7
  have q8 := k0.cell 8
  have t0 := k3.cell 23
  have t1 := k3.free 23
  have t2 := k2.cell 0
  simp at q0 q1 q2 q3 q4 q5 q6 q7 q8 t0 t2

  have t3 := k3.free 24
  have t4 := k3.cell 24
  simp at t4
  have HK3 := Lib.hid ((k3.stored 23 (.int .i64 l.node)).stored 24 (.int .i64 l.size))
  replace HK3 : Hid (Bk ((v'.setCell ⟨g + 1, 23, none⟩ (.int .i64 l.node)).setCell ⟨g + 1, 24, none⟩ (.int .i64 l.size)) (g + 1) 31 (lyC ⟨c, 0, 1, 2, 3, 4, l.owner, l.resv, l.deque, l.ring, l.task, l.cell, l.map, l.stack, l.chan, l.node, l.size⟩)) := HK3
  have HK1 := Lib.hid ((k1.other (p := ⟨g + 1, 23, none⟩) (by simp; omega) (.int .i64 l.node)).other (p := ⟨g + 1, 24, none⟩) (by simp; omega) (.int .i64 l.size))
  have HBL := Lib.hid (below_set (below_set hbl (p := ⟨g + 1, 23, none⟩) (by simp; omega) (.int .i64 l.node)) (p := ⟨g + 1, 24, none⟩) (by simp; omega) (.int .i64 l.size))
  have hLL : ⟨c, 0, 1, 2, 3, 4, l.owner, l.resv, l.deque, l.ring, l.task, l.cell, l.map, l.stack, l.chan, l.node, l.size⟩ = l := by rw [HLE.out]; rfl
  have HLL := Lib.hid hLL
  clear k3 k1 hbl hLL
  go_wp2_with (first
    | (refine wpList_load_row rfl 31 (.tmp 6) rfl (g + 1) rfl 31 (lyC ⟨c, 0, 1, 2, 3, 4, l.owner, l.resv, l.deque, l.ring, l.task, l.cell, l.map, l.stack, l.chan, l.node, l.size⟩) (0, 0) _ HK3.out Try.underlying31 rfl (by kernel_rfl) ?_)
    | (refine wpList_store_rowTo rfl 31 (.tmp 2) (.tmp 107) rfl rfl (w.heap.size + 1) (lyC ⟨c, 0, 1, 2, 3, 4, l.owner, l.resv, l.deque, l.ring, l.task, l.cell, l.map, l.stack, l.chan, l.node, l.size⟩) rfl rfl 31 (lyC zeroLy) HK1.out (by kernel_rfl) rfl (by simp [Value.oneCell']) ?_))
  refine bodyPost_ret (v := .tuple #[lyV ⟨c, 0, 1, 2, 3, 4, l.owner, l.resv, l.deque, l.ring, l.task, l.cell, l.map, l.stack, l.chan, l.node, l.size⟩, .int .i64 0]) (results_cell_tmp (p := 2) (t := 3) (ty := 31) rfl _ _ (w.heap.size + 1) 31 (lyC ⟨c, 0, 1, 2, 3, 4, l.owner, l.resv, l.deque, l.ring, l.task, l.cell, l.map, l.stack, l.chan, l.node, l.size⟩) (0, 0) _ _ rfl rfl (setRow_heap _ _ _ _ _ _ HK1.out) Try.underlying31 rfl (by kernel_rfl)) rfl ⟨by rw [HLL.out], below_setRow HBL.out (by omega) _⟩
end Go.Proofs.Ytbcgjolcfagboaa
