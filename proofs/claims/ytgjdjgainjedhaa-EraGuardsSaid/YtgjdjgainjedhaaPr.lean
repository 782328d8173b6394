/- arena.program: do, load, store, cas. Printed by prog_gen.py. -/
import Derived.Test.YtgjdjgainjedhaaArM
import Derived.Test.YtgjdjgainjedhaaReg
import Derived.Test.YtgjdjgainjedhaaMemD
import Derived.IntWalk
import Derived.Deep.CutRange
import Derived.Deep.DeepMust
import Derived.Laws.Rows
namespace Go.Proofs.Ytgjdjgainjedhaa
open Go.RowKit
set_option linter.unusedVariables false
attribute [local go_sem ↓] Go.wp_at_zero Go.wp_at_succ

/-- A slice of results. -/
def SlRes (w : World) (B : Nat) (A : Option Addr) (l : List (Int × Bool)) : Prop :=
  0 < l.length → ∃ b o, A = some ⟨b, o, none⟩ ∧ b < B ∧ ∀ k r, l[k]? = some r → w.cell? ⟨b, o + k * 2, none⟩ = some (.int .i64 r.1) ∧ w.cell? ⟨b, o + k * 2 + 1, none⟩ = some (.bool r.2)
theorem SlRes.below {w w' : World} {B : Nat} {A : Option Addr} {l : List (Int × Bool)} (h : SlRes w B A l) (hb : Below B w w') : SlRes w' B A l := by
  intro hl
  obtain ⟨b, o, e, hbb, hc⟩ := h hl
  refine ⟨b, o, e, hbb, fun k a ha => ?_⟩
  obtain ⟨h1, h2⟩ := hc k a ha
  exact ⟨(hb.cell (p := ⟨b, _, none⟩) hbb).trans h1, (hb.cell (p := ⟨b, _, none⟩) hbb).trans h2⟩
theorem SlRes.more {w : World} {B B' : Nat} {A : Option Addr} {l : List (Int × Bool)} (h : SlRes w B A l) (hB : B ≤ B') : SlRes w B' A l := by
  intro hl
  obtain ⟨b, o, e, hbb, hc⟩ := h hl
  exact ⟨b, o, e, Nat.lt_of_lt_of_le hbb hB, hc⟩
/-- w' is w grown, but for block gm. -/
structure Stp (gm : Nat) (w w' : World) : Prop where
  os : w'.os = w.os
  tape : w'.tape = w.tape
  output : w'.output = w.output
  size : w.heap.size ≤ w'.heap.size
  block : ∀ b, b < w.heap.size → b ≠ gm → w'.heap[b]? = w.heap[b]?
section
variable {gm : Nat} {w w' w2 : World}
theorem Stp.refl (gm : Nat) (w : World) : Stp gm w w := ⟨rfl, rfl, rfl, Nat.le_refl _, fun _ _ _ => rfl⟩
theorem Stp.trans (h : Stp gm w w') (k : Stp gm w' w2) : Stp gm w w2 :=
  ⟨k.os.trans h.os, k.tape.trans h.tape, k.output.trans h.output, Nat.le_trans h.size k.size, fun b hb hn => (k.block b (Nat.lt_of_lt_of_le hb h.size) hn).trans (h.block b hb hn)⟩
theorem Stp.of_below (gm : Nat) (h : Below w.heap.size w w') : Stp gm w w' := ⟨h.os, h.tape, h.output, h.size, fun b hb _ => h.block b hb⟩
theorem Stp.set (w : World) (gm i : Nat) (u : Value) : Stp gm w (w.setCell ⟨gm, i, none⟩ u) :=
  ⟨rfl, rfl, rfl, by simp, fun b _ hn => Below.heap_setCell w _ u b hn⟩
theorem Stp.alloc (h : Stp gm w w') (o : Obj) : Stp gm w (w'.alloc o) := h.trans (.of_below gm (below_al (Below.refl _ _) o))
theorem Stp.keep (h : Stp gm w w') {g : Nat} {t : TypeId} {cs : Array Value} (k : Bk w g t cs) (hn : g ≠ gm) : Bk w' g t cs := (h.block g k.lt hn).trans k
theorem Stp.below (h : Stp gm w w') {a : World} (ha : a.heap.size ≤ gm) (k : Below a.heap.size a w) : Below a.heap.size a w' :=
  ⟨h.os.trans k.os, h.tape.trans k.tape, h.output.trans k.output, Nat.le_trans k.size h.size, fun b hb => (h.block b (Nat.lt_of_lt_of_le hb k.size) (by omega)).trans (k.block b hb)⟩
theorem Stp.part (h : Stp gm w w') {B : Nat} (hB : B ≤ gm) (hs : B ≤ w.heap.size) : Below B w w' :=
  ⟨h.os, h.tape, h.output, h.size, fun b hb => h.block b (by omega) (by omega)⟩
end
abbrev ptr (g : Nat) : Value := .pointer (some ⟨g, 0, none⟩)
abbrev accC (k c o v : Int) : Array Value := #[.int .i64 k, .int .i64 c, .int .i64 o, .int .i64 v]
abbrev progC (l : Ly) (A : Option Addr) (n cap i : Nat) : Array Value := #[.int .i64 l.c.seats, .int .i64 l.c.nodes, .int .i64 l.c.buckets, .int .i64 l.c.slots, .int .i64 l.c.tasks, .int .i64 l.c.cells, .int .i64 l.c.maps, .int .i64 l.c.stacks, .int .i64 l.c.chans, .int .i64 l.done, .int .i64 l.count, .int .i64 l.era, .int .i64 l.free, .int .i64 l.alive, .int .i64 l.owner, .int .i64 l.resv, .int .i64 l.deque, .int .i64 l.ring, .int .i64 l.task, .int .i64 l.cell, .int .i64 l.map, .int .i64 l.stack, .int .i64 l.chan, .int .i64 l.node, .int .i64 l.size, .slice A n cap, .int .i64 (i : Nat)]
theorem below_drew' {w w' : World} {B : Nat} (h : Below B w w') : Below B w w'.drew := h.drew
/-- A program that has made i accesses. -/
structure PrSt (w : World) (B gp : Nat) (l : Ly) (A : Option Addr) (cap i : Nat) (log : Log) : Prop where
  kp : Bk w gp 133 (progC l A log.length cap i)
  sl : SlRes w B A log
  bp : B ≤ gp
  le : log.length ≤ 1000
theorem PrSt.step {w w' : World} {B gp : Nat} {l : Ly} {A : Option Addr} {cap i i' : Nat} {log : Log} (h : PrSt w B gp l A cap i log) (s : Stp gp w w') (k : Bk w' gp 133 (progC l A log.length cap i')) : PrSt w' B gp l A cap i' log :=
  ⟨k, h.sl.below (s.part h.bp (by have := h.kp.lt; have := h.bp; omega)), h.bp, h.le⟩
theorem PrSt.keep {w w' : World} {B gp : Nat} {l : Ly} {A : Option Addr} {cap i : Nat} {log : Log} (h : PrSt w B gp l A cap i log) (hb : Below w.heap.size w w') : PrSt w' B gp l A cap i log := h.step (.of_below gp hb) (h.kp.keep hb)
theorem PrSt.drew {w : World} {B gp : Nat} {l : Ly} {A : Option Addr} {cap i : Nat} {log : Log} (h : PrSt w B gp l A cap i log) : PrSt w.drew B gp l A cap i log := ⟨h.kp, h.sl, h.bp, h.le⟩
def askV (k c o v : Int) : Value := .iface 129 (.agg #[.int .i64 k, .int .i64 c, .int .i64 o, .int .i64 v])
/-- An access: asked for, or told. -/
def DoPost (B gp : Nat) (l : Ly) (A : Option Addr) (cap i : Nat) (log : Log) (k c o v : Int) (f : Int × Bool → Value) (w : World) (e : Ending) (w' : World) : Prop :=
  match log[i]? with
  | none => e = .panicked [{ v := askV k c o v, recovered := false }] ∧ Below w.heap.size w w'
  | some x => e = .returned (f x) ∧ PrSt w' B gp l A cap (i + 1) log ∧ Stp gp w w'
def DoAsks (k c o v : Int) (w : World) (e : Ending) (w' : World) : Prop := e = .panicked [{ v := askV k c o v, recovered := false }] ∧ Below w.heap.size w w'
def DoTold (B gp : Nat) (l : Ly) (A : Option Addr) (cap i : Nat) (log : Log) (v : Value) (w : World) (e : Ending) (w' : World) : Prop := e = .returned v ∧ PrSt w' B gp l A cap (i + 1) log ∧ Stp gp w w'
set_option maxRecDepth 100000 in
set_option maxHeartbeats 2000000 in
theorem do_asks (k c o v : Int) {w : World} {B gp : Nat} {l : Ly} {A : Option Addr} {cap i : Nat} {log : Log} (h : PrSt w B gp l A cap i log) (hx : i = log.length) : Calls Try.prog 71 #[ptr gp, .agg (accC k c o v)] w (DoAsks k c o v w) := by
  subst hx
  have kp := (h.kp.alloc (.cells (accC k c o v) 61)).alloc (.cells #[.int .i64 0, .bool false] 67)
  have ka := (Bk.made w 61 (accC k c o v)).alloc (.cells #[.int .i64 0, .bool false] 67)
  have hbl := below_al (below_al (Below.refl w.heap.size w) (.cells (accC k c o v) 61)) (.cells #[.int .i64 0, .bool false] 67)
  clear h
  go_enter Try.func71, Try.ntmps71
  go_upto_region 1 with fail
  generalize (w.alloc (.cells (accC k c o v) 61)).alloc (.cells #[.int .i64 0, .bool false] 67) = w1 at *
  refine wp_region_E (S := fun w' => Below w1.drew.heap.size w1.drew w') (E := fun _ => false) (by kernel_rfl) ?_
  replace kp := kp.drew
  replace ka := ka.drew
  replace hbl := hbl.drew
  generalize w1.drew = w2 at *
  refine wpAnyE_take (i := 0) (oi := _) (v := .pointer (some ⟨gp, 0, none⟩)) rfl (by kernel_rfl) (by kernel_rfl) (by kernel_rfl) (by kernel_rfl) (fun _ _ _ h => h) (Or.inl ⟨by rfl, ?_⟩) (Below.refl _ _) ?_
  · intro w' hSw
    (try simp only [List.getElem_toArray, List.getElem_cons_zero])
    go_simp
  (try simp only [List.getElem_toArray, List.getElem_cons_zero, Act.put, List.setIfInBounds_toArray, List.set_cons_zero, List.set_cons_succ])
  refine wpAnyE_take (i := 1) (oi := _) (v := .pointer (some ⟨gp, 0, none⟩)) rfl (by kernel_rfl) (by kernel_rfl) (by kernel_rfl) (by kernel_rfl) (fun _ _ _ h => h) (Or.inl ⟨by rfl, ?_⟩) (Below.refl _ _) ?_
  · intro w' hSw
    (try simp only [List.getElem_toArray, List.getElem_cons_succ, List.getElem_cons_zero])
    go_simp
  (try simp only [List.getElem_toArray, List.getElem_cons_succ, List.getElem_cons_zero, Act.put, List.setIfInBounds_toArray, List.set_cons_zero, List.set_cons_succ])
  refine wpAnyE_take (i := 2) (oi := _) (v := .pointer (some ⟨gp, 26, none⟩)) rfl (by kernel_rfl) (by kernel_rfl) (by kernel_rfl) (by kernel_rfl) (fun _ _ _ h => h) (Or.inl ⟨by rfl, ?_⟩) (Below.refl _ _) ?_
  · intro w' hSw
    (try simp only [List.getElem_toArray, List.getElem_cons_succ, List.getElem_cons_zero])
    go_simp
  (try simp only [List.getElem_toArray, List.getElem_cons_succ, List.getElem_cons_zero, Act.put, List.setIfInBounds_toArray, List.set_cons_zero, List.set_cons_succ])
  refine wpAnyE_take (i := 3) (oi := _) (v := .int .i64 (log.length : Nat)) rfl (by kernel_rfl) (by kernel_rfl) (by kernel_rfl) (by kernel_rfl) (fun _ _ _ h => h) (Or.inl ⟨by rfl, ?_⟩) (Below.refl _ _) ?_
  · intro w' hSw
    have s1 := (kp.keep hSw).cell 26
    (try simp at s1)
    (try simp only [List.getElem_toArray, List.getElem_cons_succ, List.getElem_cons_zero])
    go_simp
  (try simp only [List.getElem_toArray, List.getElem_cons_succ, List.getElem_cons_zero, Act.put, List.setIfInBounds_toArray, List.set_cons_zero, List.set_cons_succ])
  refine wpAnyE_take (i := 4) (oi := _) (v := .pointer (some ⟨gp, 0, none⟩)) rfl (by kernel_rfl) (by kernel_rfl) (by kernel_rfl) (by kernel_rfl) (fun _ _ _ h => h) (Or.inl ⟨by rfl, ?_⟩) (Below.refl _ _) ?_
  · intro w' hSw
    (try simp only [List.getElem_toArray, List.getElem_cons_succ, List.getElem_cons_zero])
    go_simp
  (try simp only [List.getElem_toArray, List.getElem_cons_succ, List.getElem_cons_zero, Act.put, List.setIfInBounds_toArray, List.set_cons_zero, List.set_cons_succ])
  refine wpAnyE_take (i := 5) (oi := _) (v := .pointer (some ⟨gp, 0, none⟩)) rfl (by kernel_rfl) (by kernel_rfl) (by kernel_rfl) (by kernel_rfl) (fun _ _ _ h => h) (Or.inl ⟨by rfl, ?_⟩) (Below.refl _ _) ?_
  · intro w' hSw
    (try simp only [List.getElem_toArray, List.getElem_cons_succ, List.getElem_cons_zero])
    go_simp
  (try simp only [List.getElem_toArray, List.getElem_cons_succ, List.getElem_cons_zero, Act.put, List.setIfInBounds_toArray, List.set_cons_zero, List.set_cons_succ])
  refine wpAnyE_take (i := 6) (oi := _) (v := .pointer (some ⟨gp, 25, none⟩)) rfl (by kernel_rfl) (by kernel_rfl) (by kernel_rfl) (by kernel_rfl) (fun _ _ _ h => h) (Or.inl ⟨by rfl, ?_⟩) (Below.refl _ _) ?_
  · intro w' hSw
    (try simp only [List.getElem_toArray, List.getElem_cons_succ, List.getElem_cons_zero])
    go_simp
  (try simp only [List.getElem_toArray, List.getElem_cons_succ, List.getElem_cons_zero, Act.put, List.setIfInBounds_toArray, List.set_cons_zero, List.set_cons_succ])
  refine wpAnyE_take (i := 7) (oi := _) (v := .slice A log.length cap) rfl (by kernel_rfl) (by kernel_rfl) (by kernel_rfl) (by kernel_rfl) (fun _ _ _ h => h) (Or.inl ⟨by rfl, ?_⟩) (Below.refl _ _) ?_
  · intro w' hSw
    have s1 := (kp.keep hSw).cell 25
    (try simp at s1)
    (try simp only [List.getElem_toArray, List.getElem_cons_succ, List.getElem_cons_zero])
    go_simp
  (try simp only [List.getElem_toArray, List.getElem_cons_succ, List.getElem_cons_zero, Act.put, List.setIfInBounds_toArray, List.set_cons_zero, List.set_cons_succ])
  refine wpAnyE_take (i := 8) (oi := _) (v := .int .i64 (log.length : Nat)) rfl (by kernel_rfl) (by kernel_rfl) (by kernel_rfl) (by kernel_rfl) (fun _ _ _ h => h) (Or.inl ⟨by rfl, ?_⟩) (Below.refl _ _) ?_
  · intro w' hSw
    (try simp only [List.getElem_toArray, List.getElem_cons_succ, List.getElem_cons_zero])
    go_simp
  (try simp only [List.getElem_toArray, List.getElem_cons_succ, List.getElem_cons_zero, Act.put, List.setIfInBounds_toArray, List.set_cons_zero, List.set_cons_succ])
  refine wpAnyE_take (i := 9) (oi := _) (v := .bool true) rfl (by kernel_rfl) (by kernel_rfl) (by kernel_rfl) (by kernel_rfl) (fun _ _ _ h => h) (Or.inl ⟨by rfl, ?_⟩) (Below.refl _ _) ?_
  · intro w' hSw
    (try simp only [List.getElem_toArray, List.getElem_cons_succ, List.getElem_cons_zero])
    go_simp
  (try simp only [List.getElem_toArray, List.getElem_cons_succ, List.getElem_cons_zero, Act.put, List.setIfInBounds_toArray, List.set_cons_zero, List.set_cons_succ])
  refine wpAnyE_done (by kernel_rfl) ?_ _
  have c0 := ka.cell 0
  have c1 := ka.cell 1
  have c2 := ka.cell 2
  have c3 := ka.cell 3
  have la := ka.lt
  simp at c0 c1 c2 c3
  go_wp2_with fail
  exact ⟨rfl, rfl, hbl⟩
set_option maxRecDepth 100000 in
set_option maxHeartbeats 2000000 in
theorem do_told (k c o v : Int) {w : World} {B gp : Nat} {l : Ly} {A : Option Addr} {cap i : Nat} {log : Log} {x1 : Int} {x2 : Bool} (h : PrSt w B gp l A cap i log) (hx : log[i]? = some (x1, x2)) : Calls Try.prog 71 #[ptr gp, .agg (accC k c o v)] w (DoTold B gp l A cap i log (resV x1 x2) w) := by
  have hlt : i < log.length := (List.getElem?_eq_some_iff.1 hx).1
  have hle := h.le
  have kp := (h.kp.alloc (.cells (accC k c o v) 61)).alloc (.cells #[.int .i64 0, .bool false] 67)
  have kr := Bk.new (w.alloc (.cells (accC k c o v) 61)) (g := w.heap.size + 1) (by simp) 67 #[.int .i64 0, .bool false]
  have hst : Stp gp w ((w.alloc (.cells (accC k c o v) 61)).alloc (.cells #[.int .i64 0, .bool false] 67)) := ((Stp.refl gp w).alloc _).alloc _
  have zp : gp < w.heap.size := h.kp.lt
  have HS := Lib.hid h
  clear h
  go_enter Try.func71, Try.ntmps71
  go_upto_region 1 with fail
  generalize (w.alloc (.cells (accC k c o v) 61)).alloc (.cells #[.int .i64 0, .bool false] 67) = w1 at *
  obtain ⟨gr, hgr⟩ : ∃ g, w.heap.size + 1 = g := ⟨_, rfl⟩
  rw [hgr] at kr ⊢
  have zr : w.heap.size < gr := by omega
  clear hgr
  refine wp_region_E (S := fun w' => Below w1.drew.heap.size w1.drew w') (E := fun _ => false) (by kernel_rfl) ?_
  replace kp := kp.drew
  replace kr := kr.drew
  replace hst := hst.trans (Stp.of_below gp (below_drew' (Below.refl w1.heap.size w1)))
  generalize w1.drew = w2 at *
  refine wpAnyE_take (i := 0) (oi := _) (v := .pointer (some ⟨gp, 0, none⟩)) rfl (by kernel_rfl) (by kernel_rfl) (by kernel_rfl) (by kernel_rfl) (fun _ _ _ h => h) (Or.inl ⟨by rfl, ?_⟩) (Below.refl _ _) ?_
  · intro w' hSw
    (try simp only [List.getElem_toArray, List.getElem_cons_zero])
    go_simp
  (try simp only [List.getElem_toArray, List.getElem_cons_zero, Act.put, List.setIfInBounds_toArray, List.set_cons_zero, List.set_cons_succ])
  refine wpAnyE_take (i := 1) (oi := _) (v := .pointer (some ⟨gp, 0, none⟩)) rfl (by kernel_rfl) (by kernel_rfl) (by kernel_rfl) (by kernel_rfl) (fun _ _ _ h => h) (Or.inl ⟨by rfl, ?_⟩) (Below.refl _ _) ?_
  · intro w' hSw
    (try simp only [List.getElem_toArray, List.getElem_cons_succ, List.getElem_cons_zero])
    go_simp
  (try simp only [List.getElem_toArray, List.getElem_cons_succ, List.getElem_cons_zero, Act.put, List.setIfInBounds_toArray, List.set_cons_zero, List.set_cons_succ])
  refine wpAnyE_take (i := 2) (oi := _) (v := .pointer (some ⟨gp, 26, none⟩)) rfl (by kernel_rfl) (by kernel_rfl) (by kernel_rfl) (by kernel_rfl) (fun _ _ _ h => h) (Or.inl ⟨by rfl, ?_⟩) (Below.refl _ _) ?_
  · intro w' hSw
    (try simp only [List.getElem_toArray, List.getElem_cons_succ, List.getElem_cons_zero])
    go_simp
  (try simp only [List.getElem_toArray, List.getElem_cons_succ, List.getElem_cons_zero, Act.put, List.setIfInBounds_toArray, List.set_cons_zero, List.set_cons_succ])
  refine wpAnyE_take (i := 3) (oi := _) (v := .int .i64 (i : Nat)) rfl (by kernel_rfl) (by kernel_rfl) (by kernel_rfl) (by kernel_rfl) (fun _ _ _ h => h) (Or.inl ⟨by rfl, ?_⟩) (Below.refl _ _) ?_
  · intro w' hSw
    have s1 := (kp.keep hSw).cell 26
    (try simp at s1)
    (try simp only [List.getElem_toArray, List.getElem_cons_succ, List.getElem_cons_zero])
    go_simp
  (try simp only [List.getElem_toArray, List.getElem_cons_succ, List.getElem_cons_zero, Act.put, List.setIfInBounds_toArray, List.set_cons_zero, List.set_cons_succ])
  refine wpAnyE_take (i := 4) (oi := _) (v := .pointer (some ⟨gp, 0, none⟩)) rfl (by kernel_rfl) (by kernel_rfl) (by kernel_rfl) (by kernel_rfl) (fun _ _ _ h => h) (Or.inl ⟨by rfl, ?_⟩) (Below.refl _ _) ?_
  · intro w' hSw
    (try simp only [List.getElem_toArray, List.getElem_cons_succ, List.getElem_cons_zero])
    go_simp
  (try simp only [List.getElem_toArray, List.getElem_cons_succ, List.getElem_cons_zero, Act.put, List.setIfInBounds_toArray, List.set_cons_zero, List.set_cons_succ])
  refine wpAnyE_take (i := 5) (oi := _) (v := .pointer (some ⟨gp, 0, none⟩)) rfl (by kernel_rfl) (by kernel_rfl) (by kernel_rfl) (by kernel_rfl) (fun _ _ _ h => h) (Or.inl ⟨by rfl, ?_⟩) (Below.refl _ _) ?_
  · intro w' hSw
    (try simp only [List.getElem_toArray, List.getElem_cons_succ, List.getElem_cons_zero])
    go_simp
  (try simp only [List.getElem_toArray, List.getElem_cons_succ, List.getElem_cons_zero, Act.put, List.setIfInBounds_toArray, List.set_cons_zero, List.set_cons_succ])
  refine wpAnyE_take (i := 6) (oi := _) (v := .pointer (some ⟨gp, 25, none⟩)) rfl (by kernel_rfl) (by kernel_rfl) (by kernel_rfl) (by kernel_rfl) (fun _ _ _ h => h) (Or.inl ⟨by rfl, ?_⟩) (Below.refl _ _) ?_
  · intro w' hSw
    (try simp only [List.getElem_toArray, List.getElem_cons_succ, List.getElem_cons_zero])
    go_simp
  (try simp only [List.getElem_toArray, List.getElem_cons_succ, List.getElem_cons_zero, Act.put, List.setIfInBounds_toArray, List.set_cons_zero, List.set_cons_succ])
  refine wpAnyE_take (i := 7) (oi := _) (v := .slice A log.length cap) rfl (by kernel_rfl) (by kernel_rfl) (by kernel_rfl) (by kernel_rfl) (fun _ _ _ h => h) (Or.inl ⟨by rfl, ?_⟩) (Below.refl _ _) ?_
  · intro w' hSw
    have s1 := (kp.keep hSw).cell 25
    (try simp at s1)
    (try simp only [List.getElem_toArray, List.getElem_cons_succ, List.getElem_cons_zero])
    go_simp
  (try simp only [List.getElem_toArray, List.getElem_cons_succ, List.getElem_cons_zero, Act.put, List.setIfInBounds_toArray, List.set_cons_zero, List.set_cons_succ])
  refine wpAnyE_take (i := 8) (oi := _) (v := .int .i64 (log.length : Nat)) rfl (by kernel_rfl) (by kernel_rfl) (by kernel_rfl) (by kernel_rfl) (fun _ _ _ h => h) (Or.inl ⟨by rfl, ?_⟩) (Below.refl _ _) ?_
  · intro w' hSw
    (try simp only [List.getElem_toArray, List.getElem_cons_succ, List.getElem_cons_zero])
    go_simp
  (try simp only [List.getElem_toArray, List.getElem_cons_succ, List.getElem_cons_zero, Act.put, List.setIfInBounds_toArray, List.set_cons_zero, List.set_cons_succ])
  refine wpAnyE_take (i := 9) (oi := _) (v := .bool false) rfl (by kernel_rfl) (by kernel_rfl) (by kernel_rfl) (by kernel_rfl) (fun _ _ _ h => h) (Or.inl ⟨by rfl, ?_⟩) (Below.refl _ _) ?_
  · intro w' hSw
    have hne : ((i : Int) == log.length) = false := by simp; omega
    (try simp only [List.getElem_toArray, List.getElem_cons_succ, List.getElem_cons_zero])
    go_simp
  (try simp only [List.getElem_toArray, List.getElem_cons_succ, List.getElem_cons_zero, Act.put, List.setIfInBounds_toArray, List.set_cons_zero, List.set_cons_succ])
  refine wpAnyE_done (by kernel_rfl) ?_ _
  have q26 := kp.cell 26
  have f26 := kp.free 26
  have l26 := kp.lt
  simp at q26
  have hs1 : (i : Int) + 1 ≤ 1001 := by omega
  go_upto_region 4 with fail
  clear q26 f26 l26
  replace hst := hst.trans (Stp.set w2 gp 26 (.int .i64 ((i + 1 : Nat) : Int)))
  replace kr := kr.other (p := ⟨gp, 26, none⟩) (by dsimp only; omega) (.int .i64 ((i + 1 : Nat) : Int))
  replace kp : Bk (w2.setCell ⟨gp, 26, none⟩ (.int .i64 ((i + 1 : Nat) : Int))) gp 133 (progC l A log.length cap (i + 1)) := kp.stored 26 (.int .i64 ((i + 1 : Nat) : Int))
  rw [show ((i : Int) + 1) = ((i + 1 : Nat) : Int) from rfl]
  generalize w2.setCell ⟨gp, 26, none⟩ (.int .i64 ((i + 1 : Nat) : Int)) = w3 at *
  have hsl := (HS.out.step hst kp).sl
  obtain ⟨b, oo, hA, hbb, hc⟩ := hsl (by omega)
  obtain ⟨d1, d2⟩ := hc i _ hx
  subst hA
  dsimp only at d1 d2
  clear hc hsl
  refine wp_region_E (S := fun w' => Below w3.drew.heap.size w3.drew w') (E := fun i => i == 11) (by kernel_rfl) ?_
  replace kp := kp.drew
  replace kr := kr.drew
  replace d1 : w3.drew.cell? ⟨b, oo + i * 2, none⟩ = some (.int .i64 x1) := d1
  replace d2 : w3.drew.cell? ⟨b, oo + i * 2 + 1, none⟩ = some (.bool x2) := d2
  replace hst := hst.trans (Stp.of_below gp (below_drew' (Below.refl w3.heap.size w3)))
  generalize w3.drew = w4 at *
  have HD := Lib.hid (And.intro d1 d2)
  clear d1 d2 hx
  refine wpAnyE_take (i := 0) (oi := _) (v := .pointer (some ⟨gp, 0, none⟩)) rfl (by kernel_rfl) (by kernel_rfl) (by kernel_rfl) (by kernel_rfl) (fun _ _ _ h => h) (Or.inl ⟨by rfl, ?_⟩) (Below.refl _ _) ?_
  · intro w' hSw
    (try simp only [List.getElem_toArray, List.getElem_cons_zero])
    go_simp
  (try simp only [List.getElem_toArray, List.getElem_cons_zero, Act.put, List.setIfInBounds_toArray, List.set_cons_zero, List.set_cons_succ])
  refine wpAnyE_take (i := 1) (oi := _) (v := .pointer (some ⟨gp, 0, none⟩)) rfl (by kernel_rfl) (by kernel_rfl) (by kernel_rfl) (by kernel_rfl) (fun _ _ _ h => h) (Or.inl ⟨by rfl, ?_⟩) (Below.refl _ _) ?_
  · intro w' hSw
    (try simp only [List.getElem_toArray, List.getElem_cons_succ, List.getElem_cons_zero])
    go_simp
  (try simp only [List.getElem_toArray, List.getElem_cons_succ, List.getElem_cons_zero, Act.put, List.setIfInBounds_toArray, List.set_cons_zero, List.set_cons_succ])
  refine wpAnyE_take (i := 2) (oi := _) (v := .pointer (some ⟨gp, 25, none⟩)) rfl (by kernel_rfl) (by kernel_rfl) (by kernel_rfl) (by kernel_rfl) (fun _ _ _ h => h) (Or.inl ⟨by rfl, ?_⟩) (Below.refl _ _) ?_
  · intro w' hSw
    (try simp only [List.getElem_toArray, List.getElem_cons_succ, List.getElem_cons_zero])
    go_simp
  (try simp only [List.getElem_toArray, List.getElem_cons_succ, List.getElem_cons_zero, Act.put, List.setIfInBounds_toArray, List.set_cons_zero, List.set_cons_succ])
  refine wpAnyE_take (i := 3) (oi := _) (v := .slice (some ⟨b, oo, none⟩) log.length cap) rfl (by kernel_rfl) (by kernel_rfl) (by kernel_rfl) (by kernel_rfl) (fun _ _ _ h => h) (Or.inl ⟨by rfl, ?_⟩) (Below.refl _ _) ?_
  · intro w' hSw
    have s1 := (kp.keep hSw).cell 25
    (try simp at s1)
    (try simp only [List.getElem_toArray, List.getElem_cons_succ, List.getElem_cons_zero])
    go_simp
  (try simp only [List.getElem_toArray, List.getElem_cons_succ, List.getElem_cons_zero, Act.put, List.setIfInBounds_toArray, List.set_cons_zero, List.set_cons_succ])
  refine wpAnyE_take (i := 4) (oi := _) (v := .pointer (some ⟨gp, 0, none⟩)) rfl (by kernel_rfl) (by kernel_rfl) (by kernel_rfl) (by kernel_rfl) (fun _ _ _ h => h) (Or.inl ⟨by rfl, ?_⟩) (Below.refl _ _) ?_
  · intro w' hSw
    (try simp only [List.getElem_toArray, List.getElem_cons_succ, List.getElem_cons_zero])
    go_simp
  (try simp only [List.getElem_toArray, List.getElem_cons_succ, List.getElem_cons_zero, Act.put, List.setIfInBounds_toArray, List.set_cons_zero, List.set_cons_succ])
  refine wpAnyE_take (i := 5) (oi := _) (v := .pointer (some ⟨gp, 0, none⟩)) rfl (by kernel_rfl) (by kernel_rfl) (by kernel_rfl) (by kernel_rfl) (fun _ _ _ h => h) (Or.inl ⟨by rfl, ?_⟩) (Below.refl _ _) ?_
  · intro w' hSw
    (try simp only [List.getElem_toArray, List.getElem_cons_succ, List.getElem_cons_zero])
    go_simp
  (try simp only [List.getElem_toArray, List.getElem_cons_succ, List.getElem_cons_zero, Act.put, List.setIfInBounds_toArray, List.set_cons_zero, List.set_cons_succ])
  refine wpAnyE_take (i := 6) (oi := _) (v := .pointer (some ⟨gp, 26, none⟩)) rfl (by kernel_rfl) (by kernel_rfl) (by kernel_rfl) (by kernel_rfl) (fun _ _ _ h => h) (Or.inl ⟨by rfl, ?_⟩) (Below.refl _ _) ?_
  · intro w' hSw
    (try simp only [List.getElem_toArray, List.getElem_cons_succ, List.getElem_cons_zero])
    go_simp
  (try simp only [List.getElem_toArray, List.getElem_cons_succ, List.getElem_cons_zero, Act.put, List.setIfInBounds_toArray, List.set_cons_zero, List.set_cons_succ])
  refine wpAnyE_take (i := 7) (oi := _) (v := .int .i64 ((i + 1 : Nat) : Int)) rfl (by kernel_rfl) (by kernel_rfl) (by kernel_rfl) (by kernel_rfl) (fun _ _ _ h => h) (Or.inl ⟨by rfl, ?_⟩) (Below.refl _ _) ?_
  · intro w' hSw
    have s1 := (kp.keep hSw).cell 26
    (try simp at s1)
    (try simp only [List.getElem_toArray, List.getElem_cons_succ, List.getElem_cons_zero])
    go_simp
  (try simp only [List.getElem_toArray, List.getElem_cons_succ, List.getElem_cons_zero, Act.put, List.setIfInBounds_toArray, List.set_cons_zero, List.set_cons_succ])
  refine wpAnyE_take (i := 8) (oi := _) (v := .int .i64 (i : Nat)) rfl (by kernel_rfl) (by kernel_rfl) (by kernel_rfl) (by kernel_rfl) (fun _ _ _ h => h) (Or.inl ⟨by rfl, ?_⟩) (Below.refl _ _) ?_
  · intro w' hSw
    have hw1 : IntKind.i64.wrap (i : Int) = i := IntWalk.i64_in _ (by omega)
    (try simp only [List.getElem_toArray, List.getElem_cons_succ, List.getElem_cons_zero])
    go_simp
  (try simp only [List.getElem_toArray, List.getElem_cons_succ, List.getElem_cons_zero, Act.put, List.setIfInBounds_toArray, List.set_cons_zero, List.set_cons_succ])
  refine wpAnyE_take (i := 9) (oi := _) (v := .pointer (some ⟨b, oo + i * 2, none⟩)) rfl (by kernel_rfl) (by kernel_rfl) (by kernel_rfl) (by kernel_rfl) (fun _ _ _ h => h) (Or.inl ⟨by rfl, ?_⟩) (Below.refl _ _) ?_
  · intro w' hSw
    have g3 : (i : Int) < log.length := by omega
    (try simp only [List.getElem_toArray, List.getElem_cons_succ, List.getElem_cons_zero])
    go_simp
  (try simp only [List.getElem_toArray, List.getElem_cons_succ, List.getElem_cons_zero, Act.put, List.setIfInBounds_toArray, List.set_cons_zero, List.set_cons_succ])
  refine wpAnyE_take (i := 10) (oi := _) (v := .agg #[.int .i64 x1, .bool x2]) rfl (by kernel_rfl) (by kernel_rfl) (by kernel_rfl) (by kernel_rfl) (fun _ _ _ h => h) (Or.inl ⟨by rfl, ?_⟩) (Below.refl _ _) ?_
  · intro w' hSw
    have s1 := cell_keep hSw HD.out.1
    have s2 := cell_keep hSw HD.out.2
    (try simp at s1 s2)
    (try simp only [List.getElem_toArray, List.getElem_cons_succ, List.getElem_cons_zero])
    go_simp
  (try simp only [List.getElem_toArray, List.getElem_cons_succ, List.getElem_cons_zero, Act.put, List.setIfInBounds_toArray, List.set_cons_zero, List.set_cons_succ])
  refine wpAnyE_one (i := 11) (o := _) (by kernel_rfl) rfl (fun K hK => ?_)
  rw [if_pos (by rfl)]
  refine wp_store_row 67 (.tmp 4) (.tmp 35) rfl gr #[.int .i64 x1, .bool x2] rfl rfl 67 #[.int .i64 0, .bool false] kr (by kernel_rfl) rfl (by simp [Value.oneCell']) ?_
  refine hK.out _ _ (fun h => absurd h (by decide)) ?_
  clear hK K
  refine wpAnyE_done (by kernel_rfl) ?_ _
  have kp5 : Bk (w4.setRow gr #[.int .i64 x1, .bool x2]) gp 133 (progC l (some ⟨b, oo, none⟩) log.length cap (i + 1)) := (setRow_other _ _ _ _ (by omega)).trans kp
  have kr5 := setRow_heap _ _ #[.int .i64 0, .bool false] #[.int .i64 x1, .bool x2] 67 (0, 0) kr
  have hst5 : Stp gp w (w4.setRow gr #[.int .i64 x1, .bool x2]) := ⟨hst.os, hst.tape, hst.output, by have := hst.size; simpa [World.setRow] using this, fun b' hb' hn' => (setRow_other _ gr b' _ (by omega)).trans (hst.block b' hb' hn')⟩
  clear kp kr hst
  generalize w4.setRow gr #[.int .i64 x1, .bool x2] = w6 at *
  go_wp2_with fail
  exact bodyPost_ret (v := resV x1 x2) (results_cell_row (p := 4) (ty := 67) rfl _ _ gr 67 #[.int .i64 x1, .bool x2] (0, 0) _ rfl kr5 Try.underlying67 rfl (by kernel_rfl)) rfl ⟨rfl, HS.out.step hst5 kp5, hst5⟩
theorem res_field0 (a : Int) (b : Bool) (w : World) : (Instr.field 67 (.agg #[.int .i64 a, .bool b]) 0).run Try.prog w = .ok (.int .i64 a) w := by kernel_rfl
theorem res_field1 (a : Int) (b : Bool) (w : World) : (Instr.field 67 (.agg #[.int .i64 a, .bool b]) 1).run Try.prog w = .ok (.bool b) w := by kernel_rfl
set_option maxHeartbeats 1000000 in
theorem load_asks (c : Int) {w : World} {B gp : Nat} {l : Ly} {A : Option Addr} {cap i : Nat} {log : Log} (h : PrSt w B gp l A cap i log) (hx : i = log.length) : Calls Try.prog 66 #[ptr gp, .int .i64 c] w (DoAsks 1 c 0 0 w) := by
  go_enter Try.func66, Try.ntmps66
  go_wp2_with fail
  (with_reducible refine (do_asks 1 c 0 0 h hx).mono ?_)
  rintro e w1 ⟨rfl, hb⟩
  exact ⟨rfl, rfl, hb⟩
set_option maxHeartbeats 1000000 in
theorem load_told (c : Int) {w : World} {B gp : Nat} {l : Ly} {A : Option Addr} {cap i : Nat} {log : Log} {x1 : Int} {x2 : Bool} (h : PrSt w B gp l A cap i log) (hx : log[i]? = some (x1, x2)) : Calls Try.prog 66 #[ptr gp, .int .i64 c] w (DoTold B gp l A cap i log (.int .i64 x1) w) := by
  have hf0 := res_field0
  have hf1 := res_field1
  go_enter Try.func66, Try.ntmps66
  go_wp2_with fail
  (with_reducible refine (do_told 1 c 0 0 h hx).mono ?_)
  rintro e w1 ⟨rfl, hs, hst⟩
  clear h hx
  go_wp2
  go_ret
  exact ⟨rfl, hs, hst⟩
set_option maxHeartbeats 1000000 in
theorem store_asks (c v : Int) {w : World} {B gp : Nat} {l : Ly} {A : Option Addr} {cap i : Nat} {log : Log} (h : PrSt w B gp l A cap i log) (hx : i = log.length) : Calls Try.prog 70 #[ptr gp, .int .i64 c, .int .i64 v] w (DoAsks 2 c 0 v w) := by
  go_enter Try.func70, Try.ntmps70
  go_wp2_with fail
  (with_reducible refine (do_asks 2 c 0 v h hx).mono ?_)
  rintro e w1 ⟨rfl, hb⟩
  exact ⟨rfl, rfl, hb⟩
set_option maxHeartbeats 1000000 in
theorem store_told (c v : Int) {w : World} {B gp : Nat} {l : Ly} {A : Option Addr} {cap i : Nat} {log : Log} {x1 : Int} {x2 : Bool} (h : PrSt w B gp l A cap i log) (hx : log[i]? = some (x1, x2)) : Calls Try.prog 70 #[ptr gp, .int .i64 c, .int .i64 v] w (DoTold B gp l A cap i log (.tuple #[]) w) := by
  have hf0 := res_field0
  have hf1 := res_field1
  go_enter Try.func70, Try.ntmps70
  go_wp2_with fail
  (with_reducible refine (do_told 2 c 0 v h hx).mono ?_)
  rintro e w1 ⟨rfl, hs, hst⟩
  clear h hx
  go_wp2
  skip
  exact bodyPost_ret (v := .tuple #[]) (results_none rfl _ _ _) rfl ⟨rfl, hs, hst⟩
set_option maxHeartbeats 1000000 in
theorem cas_asks (c o v : Int) {w : World} {B gp : Nat} {l : Ly} {A : Option Addr} {cap i : Nat} {log : Log} (h : PrSt w B gp l A cap i log) (hx : i = log.length) : Calls Try.prog 67 #[ptr gp, .int .i64 c, .int .i64 o, .int .i64 v] w (DoAsks 3 c o v w) := by
  go_enter Try.func67, Try.ntmps67
  go_wp2_with fail
  (with_reducible refine (do_asks 3 c o v h hx).mono ?_)
  rintro e w1 ⟨rfl, hb⟩
  exact ⟨rfl, rfl, hb⟩
set_option maxHeartbeats 1000000 in
theorem cas_told (c o v : Int) {w : World} {B gp : Nat} {l : Ly} {A : Option Addr} {cap i : Nat} {log : Log} {x1 : Int} {x2 : Bool} (h : PrSt w B gp l A cap i log) (hx : log[i]? = some (x1, x2)) : Calls Try.prog 67 #[ptr gp, .int .i64 c, .int .i64 o, .int .i64 v] w (DoTold B gp l A cap i log (.bool x2) w) := by
  have hf0 := res_field0
  have hf1 := res_field1
  go_enter Try.func67, Try.ntmps67
  go_wp2_with fail
  (with_reducible refine (do_told 3 c o v h hx).mono ?_)
  rintro e w1 ⟨rfl, hs, hst⟩
  clear h hx
  go_wp2
  go_ret
  exact ⟨rfl, hs, hst⟩
end Go.Proofs.Ytgjdjgainjedhaa
