/- era.program: do, load, store. Printed by pr_gen.py. -/
import Derived.Test.YtgjdjgainjedhaaPr
import Derived.Test.YtgjdjgainjedhaaEaM
namespace Go.Proofs.Ytgjdjgainjedhaa
open Go.RowKit
set_option linter.unusedVariables false
attribute [local go_sem ↓] Go.wp_at_zero Go.wp_at_succ

/-- What a program has that stays. -/
structure Pg where
  l : Ly
  me : Int
  cap : Nat
abbrev progE (p : Pg) (A : Option Addr) (gv : Value) (n i : Nat) : Array Value := #[.int .i64 p.l.c.seats, .int .i64 p.l.c.nodes, .int .i64 p.l.c.buckets, .int .i64 p.l.c.slots, .int .i64 p.l.c.tasks, .int .i64 p.l.c.cells, .int .i64 p.l.c.maps, .int .i64 p.l.c.stacks, .int .i64 p.l.c.chans, .int .i64 p.l.done, .int .i64 p.l.count, .int .i64 p.l.era, .int .i64 p.l.free, .int .i64 p.l.alive, .int .i64 p.l.owner, .int .i64 p.l.resv, .int .i64 p.l.deque, .int .i64 p.l.ring, .int .i64 p.l.task, .int .i64 p.l.cell, .int .i64 p.l.map, .int .i64 p.l.stack, .int .i64 p.l.chan, .int .i64 p.l.node, .int .i64 p.l.size, .int .i64 p.me, gv, .slice A n p.cap, .int .i64 (i : Nat)]
/-- A program that has made i accesses. -/
structure PeSt (w : World) (B gp : Nat) (p : Pg) (A : Option Addr) (gv : Value) (i : Nat) (log : Log) : Prop where
  kp : Bk w gp 94 (progE p A gv log.length i)
  sl : SlRes w B A log
  bp : B ≤ gp
  le : log.length ≤ 1000
theorem PeSt.step {w w' : World} {B gp : Nat} {p : Pg} {A : Option Addr} {gv gv' : Value} {i i' : Nat} {log : Log} (h : PeSt w B gp p A gv i log) (s : Stp gp w w') (k : Bk w' gp 94 (progE p A gv' log.length i')) : PeSt w' B gp p A gv' i' log :=
  ⟨k, h.sl.below (s.part h.bp (by have := h.kp.lt; have := h.bp; omega)), h.bp, h.le⟩
theorem PeSt.keep {w w' : World} {B gp : Nat} {p : Pg} {A : Option Addr} {gv : Value} {i : Nat} {log : Log} (h : PeSt w B gp p A gv i log) (hb : Below w.heap.size w w') : PeSt w' B gp p A gv i log := h.step (.of_below gp hb) (h.kp.keep hb)
theorem PeSt.drew {w : World} {B gp : Nat} {p : Pg} {A : Option Addr} {gv : Value} {i : Nat} {log : Log} (h : PeSt w B gp p A gv i log) : PeSt w.drew B gp p A gv i log := ⟨h.kp, h.sl, h.bp, h.le⟩
def askE (k c o v : Int) : Value := .iface 89 (.agg #[.int .i64 k, .int .i64 c, .int .i64 o, .int .i64 v])
def EDoAsks (k c o v : Int) (w : World) (e : Ending) (w' : World) : Prop := e = .panicked [{ v := askE k c o v, recovered := false }] ∧ Below w.heap.size w w'
def EDoTold (B gp : Nat) (p : Pg) (A : Option Addr) (gv : Value) (i : Nat) (log : Log) (v : Value) (w : World) (e : Ending) (w' : World) : Prop := e = .returned v ∧ PeSt w' B gp p A gv (i + 1) log ∧ Stp gp w w'
set_option maxRecDepth 100000 in
set_option maxHeartbeats 2000000 in
theorem edo_asks (k c o v : Int) {w : World} {B gp : Nat} {p : Pg} {A : Option Addr} {gv : Value} {i : Nat} {log : Log} (h : PeSt w B gp p A gv i log) (hx : i = log.length) : Calls Try.prog 51 #[ptr gp, .agg (accC k c o v)] w (EDoAsks k c o v w) := by
  subst hx
  have kp := (h.kp.alloc (.cells (accC k c o v) 61)).alloc (.cells #[.int .i64 0, .bool false] 67)
  have ka := (Bk.made w 61 (accC k c o v)).alloc (.cells #[.int .i64 0, .bool false] 67)
  have hbl := below_al (below_al (Below.refl w.heap.size w) (.cells (accC k c o v) 61)) (.cells #[.int .i64 0, .bool false] 67)
  clear h
  go_enter Try.func51, Try.ntmps51
  go_upto_region 1 with fail
  generalize (w.alloc (.cells (accC k c o v) 61)).alloc (.cells #[.int .i64 0, .bool false] 67) = w1 at *
  refine wp_region_E (S := fun w' => Below w1.drew.heap.size w1.drew w') (E := fun _ => false) (by kernel_rfl) ?_
  replace kp := kp.drew
  replace ka := ka.drew
  replace hbl := hbl.drew
  generalize w1.drew = w2 at *
  refine wpAnyE_take (i := 0) (oi := _) (v := .pointer (some ⟨gp, 0, none⟩)) rfl (by kernel_rfl) (by kernel_rfl) (by kernel_rfl) (by kernel_rfl) (fun _ _ _ h => h) (Or.inl ⟨by rfl, ?_⟩) (Below.refl _ _) ?_
  · intro w' hSw
    (try simp only [List.getElem_toArray, List.getElem_cons_zero])
    go_simp
  (try simp only [List.getElem_toArray, List.getElem_cons_zero, Act.put, List.setIfInBounds_toArray, List.set_cons_zero, List.set_cons_succ])
  refine wpAnyE_take (i := 1) (oi := _) (v := .pointer (some ⟨gp, 0, none⟩)) rfl (by kernel_rfl) (by kernel_rfl) (by kernel_rfl) (by kernel_rfl) (fun _ _ _ h => h) (Or.inl ⟨by rfl, ?_⟩) (Below.refl _ _) ?_
  · intro w' hSw
    (try simp only [List.getElem_toArray, List.getElem_cons_succ, List.getElem_cons_zero])
    go_simp
  (try simp only [List.getElem_toArray, List.getElem_cons_succ, List.getElem_cons_zero, Act.put, List.setIfInBounds_toArray, List.set_cons_zero, List.set_cons_succ])
  refine wpAnyE_take (i := 2) (oi := _) (v := .pointer (some ⟨gp, 28, none⟩)) rfl (by kernel_rfl) (by kernel_rfl) (by kernel_rfl) (by kernel_rfl) (fun _ _ _ h => h) (Or.inl ⟨by rfl, ?_⟩) (Below.refl _ _) ?_
  · intro w' hSw
    (try simp only [List.getElem_toArray, List.getElem_cons_succ, List.getElem_cons_zero])
    go_simp
  (try simp only [List.getElem_toArray, List.getElem_cons_succ, List.getElem_cons_zero, Act.put, List.setIfInBounds_toArray, List.set_cons_zero, List.set_cons_succ])
  refine wpAnyE_take (i := 3) (oi := _) (v := .int .i64 (log.length : Nat)) rfl (by kernel_rfl) (by kernel_rfl) (by kernel_rfl) (by kernel_rfl) (fun _ _ _ h => h) (Or.inl ⟨by rfl, ?_⟩) (Below.refl _ _) ?_
  · intro w' hSw
    have s1 := (kp.keep hSw).cell 28
    (try simp at s1)
    (try simp only [List.getElem_toArray, List.getElem_cons_succ, List.getElem_cons_zero])
    go_simp
  (try simp only [List.getElem_toArray, List.getElem_cons_succ, List.getElem_cons_zero, Act.put, List.setIfInBounds_toArray, List.set_cons_zero, List.set_cons_succ])
  refine wpAnyE_take (i := 4) (oi := _) (v := .pointer (some ⟨gp, 0, none⟩)) rfl (by kernel_rfl) (by kernel_rfl) (by kernel_rfl) (by kernel_rfl) (fun _ _ _ h => h) (Or.inl ⟨by rfl, ?_⟩) (Below.refl _ _) ?_
  · intro w' hSw
    (try simp only [List.getElem_toArray, List.getElem_cons_succ, List.getElem_cons_zero])
    go_simp
  (try simp only [List.getElem_toArray, List.getElem_cons_succ, List.getElem_cons_zero, Act.put, List.setIfInBounds_toArray, List.set_cons_zero, List.set_cons_succ])
  refine wpAnyE_take (i := 5) (oi := _) (v := .pointer (some ⟨gp, 0, none⟩)) rfl (by kernel_rfl) (by kernel_rfl) (by kernel_rfl) (by kernel_rfl) (fun _ _ _ h => h) (Or.inl ⟨by rfl, ?_⟩) (Below.refl _ _) ?_
  · intro w' hSw
    (try simp only [List.getElem_toArray, List.getElem_cons_succ, List.getElem_cons_zero])
    go_simp
  (try simp only [List.getElem_toArray, List.getElem_cons_succ, List.getElem_cons_zero, Act.put, List.setIfInBounds_toArray, List.set_cons_zero, List.set_cons_succ])
  refine wpAnyE_take (i := 6) (oi := _) (v := .pointer (some ⟨gp, 27, none⟩)) rfl (by kernel_rfl) (by kernel_rfl) (by kernel_rfl) (by kernel_rfl) (fun _ _ _ h => h) (Or.inl ⟨by rfl, ?_⟩) (Below.refl _ _) ?_
  · intro w' hSw
    (try simp only [List.getElem_toArray, List.getElem_cons_succ, List.getElem_cons_zero])
    go_simp
  (try simp only [List.getElem_toArray, List.getElem_cons_succ, List.getElem_cons_zero, Act.put, List.setIfInBounds_toArray, List.set_cons_zero, List.set_cons_succ])
  refine wpAnyE_take (i := 7) (oi := _) (v := .slice A log.length p.cap) rfl (by kernel_rfl) (by kernel_rfl) (by kernel_rfl) (by kernel_rfl) (fun _ _ _ h => h) (Or.inl ⟨by rfl, ?_⟩) (Below.refl _ _) ?_
  · intro w' hSw
    have s1 := (kp.keep hSw).cell 27
    (try simp at s1)
    (try simp only [List.getElem_toArray, List.getElem_cons_succ, List.getElem_cons_zero])
    go_simp
  (try simp only [List.getElem_toArray, List.getElem_cons_succ, List.getElem_cons_zero, Act.put, List.setIfInBounds_toArray, List.set_cons_zero, List.set_cons_succ])
  refine wpAnyE_take (i := 8) (oi := _) (v := .int .i64 (log.length : Nat)) rfl (by kernel_rfl) (by kernel_rfl) (by kernel_rfl) (by kernel_rfl) (fun _ _ _ h => h) (Or.inl ⟨by rfl, ?_⟩) (Below.refl _ _) ?_
  · intro w' hSw
    (try simp only [List.getElem_toArray, List.getElem_cons_succ, List.getElem_cons_zero])
    go_simp
  (try simp only [List.getElem_toArray, List.getElem_cons_succ, List.getElem_cons_zero, Act.put, List.setIfInBounds_toArray, List.set_cons_zero, List.set_cons_succ])
  refine wpAnyE_take (i := 9) (oi := _) (v := .bool true) rfl (by kernel_rfl) (by kernel_rfl) (by kernel_rfl) (by kernel_rfl) (fun _ _ _ h => h) (Or.inl ⟨by rfl, ?_⟩) (Below.refl _ _) ?_
  · intro w' hSw
    (try simp only [List.getElem_toArray, List.getElem_cons_succ, List.getElem_cons_zero])
    go_simp
  (try simp only [List.getElem_toArray, List.getElem_cons_succ, List.getElem_cons_zero, Act.put, List.setIfInBounds_toArray, List.set_cons_zero, List.set_cons_succ])
  refine wpAnyE_done (by kernel_rfl) ?_ _
  have c0 := ka.cell 0
  have c1 := ka.cell 1
  have c2 := ka.cell 2
  have c3 := ka.cell 3
  have la := ka.lt
  simp at c0 c1 c2 c3
  go_wp2_with fail
  exact ⟨rfl, rfl, hbl⟩
set_option maxRecDepth 100000 in
set_option maxHeartbeats 2000000 in
theorem edo_told (k c o v : Int) {w : World} {B gp : Nat} {p : Pg} {A : Option Addr} {gv : Value} {i : Nat} {log : Log} {x1 : Int} {x2 : Bool} (h : PeSt w B gp p A gv i log) (hx : log[i]? = some (x1, x2)) : Calls Try.prog 51 #[ptr gp, .agg (accC k c o v)] w (EDoTold B gp p A gv i log (resV x1 x2) w) := by
  have hlt : i < log.length := (List.getElem?_eq_some_iff.1 hx).1
  have hle := h.le
  have kp := (h.kp.alloc (.cells (accC k c o v) 61)).alloc (.cells #[.int .i64 0, .bool false] 67)
  have kr := Bk.new (w.alloc (.cells (accC k c o v) 61)) (g := w.heap.size + 1) (by simp) 67 #[.int .i64 0, .bool false]
  have hst : Stp gp w ((w.alloc (.cells (accC k c o v) 61)).alloc (.cells #[.int .i64 0, .bool false] 67)) := ((Stp.refl gp w).alloc _).alloc _
  have zp : gp < w.heap.size := h.kp.lt
  have HS := Lib.hid h
  clear h
  go_enter Try.func51, Try.ntmps51
  go_upto_region 1 with fail
  generalize (w.alloc (.cells (accC k c o v) 61)).alloc (.cells #[.int .i64 0, .bool false] 67) = w1 at *
  obtain ⟨gr, hgr⟩ : ∃ g, w.heap.size + 1 = g := ⟨_, rfl⟩
  rw [hgr] at kr ⊢
  have zr : w.heap.size < gr := by omega
  clear hgr
  refine wp_region_E (S := fun w' => Below w1.drew.heap.size w1.drew w') (E := fun _ => false) (by kernel_rfl) ?_
  replace kp := kp.drew
  replace kr := kr.drew
  replace hst := hst.trans (Stp.of_below gp (below_drew' (Below.refl w1.heap.size w1)))
  generalize w1.drew = w2 at *
  refine wpAnyE_take (i := 0) (oi := _) (v := .pointer (some ⟨gp, 0, none⟩)) rfl (by kernel_rfl) (by kernel_rfl) (by kernel_rfl) (by kernel_rfl) (fun _ _ _ h => h) (Or.inl ⟨by rfl, ?_⟩) (Below.refl _ _) ?_
  · intro w' hSw
    (try simp only [List.getElem_toArray, List.getElem_cons_zero])
    go_simp
  (try simp only [List.getElem_toArray, List.getElem_cons_zero, Act.put, List.setIfInBounds_toArray, List.set_cons_zero, List.set_cons_succ])
  refine wpAnyE_take (i := 1) (oi := _) (v := .pointer (some ⟨gp, 0, none⟩)) rfl (by kernel_rfl) (by kernel_rfl) (by kernel_rfl) (by kernel_rfl) (fun _ _ _ h => h) (Or.inl ⟨by rfl, ?_⟩) (Below.refl _ _) ?_
  · intro w' hSw
    (try simp only [List.getElem_toArray, List.getElem_cons_succ, List.getElem_cons_zero])
    go_simp
  (try simp only [List.getElem_toArray, List.getElem_cons_succ, List.getElem_cons_zero, Act.put, List.setIfInBounds_toArray, List.set_cons_zero, List.set_cons_succ])
  refine wpAnyE_take (i := 2) (oi := _) (v := .pointer (some ⟨gp, 28, none⟩)) rfl (by kernel_rfl) (by kernel_rfl) (by kernel_rfl) (by kernel_rfl) (fun _ _ _ h => h) (Or.inl ⟨by rfl, ?_⟩) (Below.refl _ _) ?_
  · intro w' hSw
    (try simp only [List.getElem_toArray, List.getElem_cons_succ, List.getElem_cons_zero])
    go_simp
  (try simp only [List.getElem_toArray, List.getElem_cons_succ, List.getElem_cons_zero, Act.put, List.setIfInBounds_toArray, List.set_cons_zero, List.set_cons_succ])
  refine wpAnyE_take (i := 3) (oi := _) (v := .int .i64 (i : Nat)) rfl (by kernel_rfl) (by kernel_rfl) (by kernel_rfl) (by kernel_rfl) (fun _ _ _ h => h) (Or.inl ⟨by rfl, ?_⟩) (Below.refl _ _) ?_
  · intro w' hSw
    have s1 := (kp.keep hSw).cell 28
    (try simp at s1)
    (try simp only [List.getElem_toArray, List.getElem_cons_succ, List.getElem_cons_zero])
    go_simp
  (try simp only [List.getElem_toArray, List.getElem_cons_succ, List.getElem_cons_zero, Act.put, List.setIfInBounds_toArray, List.set_cons_zero, List.set_cons_succ])
  refine wpAnyE_take (i := 4) (oi := _) (v := .pointer (some ⟨gp, 0, none⟩)) rfl (by kernel_rfl) (by kernel_rfl) (by kernel_rfl) (by kernel_rfl) (fun _ _ _ h => h) (Or.inl ⟨by rfl, ?_⟩) (Below.refl _ _) ?_
  · intro w' hSw
    (try simp only [List.getElem_toArray, List.getElem_cons_succ, List.getElem_cons_zero])
    go_simp
  (try simp only [List.getElem_toArray, List.getElem_cons_succ, List.getElem_cons_zero, Act.put, List.setIfInBounds_toArray, List.set_cons_zero, List.set_cons_succ])
  refine wpAnyE_take (i := 5) (oi := _) (v := .pointer (some ⟨gp, 0, none⟩)) rfl (by kernel_rfl) (by kernel_rfl) (by kernel_rfl) (by kernel_rfl) (fun _ _ _ h => h) (Or.inl ⟨by rfl, ?_⟩) (Below.refl _ _) ?_
  · intro w' hSw
    (try simp only [List.getElem_toArray, List.getElem_cons_succ, List.getElem_cons_zero])
    go_simp
  (try simp only [List.getElem_toArray, List.getElem_cons_succ, List.getElem_cons_zero, Act.put, List.setIfInBounds_toArray, List.set_cons_zero, List.set_cons_succ])
  refine wpAnyE_take (i := 6) (oi := _) (v := .pointer (some ⟨gp, 27, none⟩)) rfl (by kernel_rfl) (by kernel_rfl) (by kernel_rfl) (by kernel_rfl) (fun _ _ _ h => h) (Or.inl ⟨by rfl, ?_⟩) (Below.refl _ _) ?_
  · intro w' hSw
    (try simp only [List.getElem_toArray, List.getElem_cons_succ, List.getElem_cons_zero])
    go_simp
  (try simp only [List.getElem_toArray, List.getElem_cons_succ, List.getElem_cons_zero, Act.put, List.setIfInBounds_toArray, List.set_cons_zero, List.set_cons_succ])
  refine wpAnyE_take (i := 7) (oi := _) (v := .slice A log.length p.cap) rfl (by kernel_rfl) (by kernel_rfl) (by kernel_rfl) (by kernel_rfl) (fun _ _ _ h => h) (Or.inl ⟨by rfl, ?_⟩) (Below.refl _ _) ?_
  · intro w' hSw
    have s1 := (kp.keep hSw).cell 27
    (try simp at s1)
    (try simp only [List.getElem_toArray, List.getElem_cons_succ, List.getElem_cons_zero])
    go_simp
  (try simp only [List.getElem_toArray, List.getElem_cons_succ, List.getElem_cons_zero, Act.put, List.setIfInBounds_toArray, List.set_cons_zero, List.set_cons_succ])
  refine wpAnyE_take (i := 8) (oi := _) (v := .int .i64 (log.length : Nat)) rfl (by kernel_rfl) (by kernel_rfl) (by kernel_rfl) (by kernel_rfl) (fun _ _ _ h => h) (Or.inl ⟨by rfl, ?_⟩) (Below.refl _ _) ?_
  · intro w' hSw
    (try simp only [List.getElem_toArray, List.getElem_cons_succ, List.getElem_cons_zero])
    go_simp
  (try simp only [List.getElem_toArray, List.getElem_cons_succ, List.getElem_cons_zero, Act.put, List.setIfInBounds_toArray, List.set_cons_zero, List.set_cons_succ])
  refine wpAnyE_take (i := 9) (oi := _) (v := .bool false) rfl (by kernel_rfl) (by kernel_rfl) (by kernel_rfl) (by kernel_rfl) (fun _ _ _ h => h) (Or.inl ⟨by rfl, ?_⟩) (Below.refl _ _) ?_
  · intro w' hSw
    have hne : ((i : Int) == log.length) = false := by simp; omega
    (try simp only [List.getElem_toArray, List.getElem_cons_succ, List.getElem_cons_zero])
    go_simp
  (try simp only [List.getElem_toArray, List.getElem_cons_succ, List.getElem_cons_zero, Act.put, List.setIfInBounds_toArray, List.set_cons_zero, List.set_cons_succ])
  refine wpAnyE_done (by kernel_rfl) ?_ _
  have q28 := kp.cell 28
  have f28 := kp.free 28
  have l28 := kp.lt
  simp at q28
  have hs1 : (i : Int) + 1 ≤ 1001 := by omega
  go_upto_region 4 with fail
  clear q28 f28 l28
  replace hst := hst.trans (Stp.set w2 gp 28 (.int .i64 ((i + 1 : Nat) : Int)))
  replace kr := kr.other (p := ⟨gp, 28, none⟩) (by dsimp only; omega) (.int .i64 ((i + 1 : Nat) : Int))
  replace kp : Bk (w2.setCell ⟨gp, 28, none⟩ (.int .i64 ((i + 1 : Nat) : Int))) gp 94 (progE p A gv log.length (i + 1)) := kp.stored 28 (.int .i64 ((i + 1 : Nat) : Int))
  rw [show ((i : Int) + 1) = ((i + 1 : Nat) : Int) from rfl]
  generalize w2.setCell ⟨gp, 28, none⟩ (.int .i64 ((i + 1 : Nat) : Int)) = w3 at *
  have hsl := (HS.out.step hst kp).sl
  obtain ⟨b, oo, hA, hbb, hc⟩ := hsl (by omega)
  obtain ⟨d1, d2⟩ := hc i _ hx
  subst hA
  dsimp only at d1 d2
  clear hc hsl
  refine wp_region_E (S := fun w' => Below w3.drew.heap.size w3.drew w') (E := fun i => i == 11) (by kernel_rfl) ?_
  replace kp := kp.drew
  replace kr := kr.drew
  replace d1 : w3.drew.cell? ⟨b, oo + i * 2, none⟩ = some (.int .i64 x1) := d1
  replace d2 : w3.drew.cell? ⟨b, oo + i * 2 + 1, none⟩ = some (.bool x2) := d2
  replace hst := hst.trans (Stp.of_below gp (below_drew' (Below.refl w3.heap.size w3)))
  generalize w3.drew = w4 at *
  have HD := Lib.hid (And.intro d1 d2)
  clear d1 d2 hx
  refine wpAnyE_take (i := 0) (oi := _) (v := .pointer (some ⟨gp, 0, none⟩)) rfl (by kernel_rfl) (by kernel_rfl) (by kernel_rfl) (by kernel_rfl) (fun _ _ _ h => h) (Or.inl ⟨by rfl, ?_⟩) (Below.refl _ _) ?_
  · intro w' hSw
    (try simp only [List.getElem_toArray, List.getElem_cons_zero])
    go_simp
  (try simp only [List.getElem_toArray, List.getElem_cons_zero, Act.put, List.setIfInBounds_toArray, List.set_cons_zero, List.set_cons_succ])
  refine wpAnyE_take (i := 1) (oi := _) (v := .pointer (some ⟨gp, 0, none⟩)) rfl (by kernel_rfl) (by kernel_rfl) (by kernel_rfl) (by kernel_rfl) (fun _ _ _ h => h) (Or.inl ⟨by rfl, ?_⟩) (Below.refl _ _) ?_
  · intro w' hSw
    (try simp only [List.getElem_toArray, List.getElem_cons_succ, List.getElem_cons_zero])
    go_simp
  (try simp only [List.getElem_toArray, List.getElem_cons_succ, List.getElem_cons_zero, Act.put, List.setIfInBounds_toArray, List.set_cons_zero, List.set_cons_succ])
  refine wpAnyE_take (i := 2) (oi := _) (v := .pointer (some ⟨gp, 27, none⟩)) rfl (by kernel_rfl) (by kernel_rfl) (by kernel_rfl) (by kernel_rfl) (fun _ _ _ h => h) (Or.inl ⟨by rfl, ?_⟩) (Below.refl _ _) ?_
  · intro w' hSw
    (try simp only [List.getElem_toArray, List.getElem_cons_succ, List.getElem_cons_zero])
    go_simp
  (try simp only [List.getElem_toArray, List.getElem_cons_succ, List.getElem_cons_zero, Act.put, List.setIfInBounds_toArray, List.set_cons_zero, List.set_cons_succ])
  refine wpAnyE_take (i := 3) (oi := _) (v := .slice (some ⟨b, oo, none⟩) log.length p.cap) rfl (by kernel_rfl) (by kernel_rfl) (by kernel_rfl) (by kernel_rfl) (fun _ _ _ h => h) (Or.inl ⟨by rfl, ?_⟩) (Below.refl _ _) ?_
  · intro w' hSw
    have s1 := (kp.keep hSw).cell 27
    (try simp at s1)
    (try simp only [List.getElem_toArray, List.getElem_cons_succ, List.getElem_cons_zero])
    go_simp
  (try simp only [List.getElem_toArray, List.getElem_cons_succ, List.getElem_cons_zero, Act.put, List.setIfInBounds_toArray, List.set_cons_zero, List.set_cons_succ])
  refine wpAnyE_take (i := 4) (oi := _) (v := .pointer (some ⟨gp, 0, none⟩)) rfl (by kernel_rfl) (by kernel_rfl) (by kernel_rfl) (by kernel_rfl) (fun _ _ _ h => h) (Or.inl ⟨by rfl, ?_⟩) (Below.refl _ _) ?_
  · intro w' hSw
    (try simp only [List.getElem_toArray, List.getElem_cons_succ, List.getElem_cons_zero])
    go_simp
  (try simp only [List.getElem_toArray, List.getElem_cons_succ, List.getElem_cons_zero, Act.put, List.setIfInBounds_toArray, List.set_cons_zero, List.set_cons_succ])
  refine wpAnyE_take (i := 5) (oi := _) (v := .pointer (some ⟨gp, 0, none⟩)) rfl (by kernel_rfl) (by kernel_rfl) (by kernel_rfl) (by kernel_rfl) (fun _ _ _ h => h) (Or.inl ⟨by rfl, ?_⟩) (Below.refl _ _) ?_
  · intro w' hSw
    (try simp only [List.getElem_toArray, List.getElem_cons_succ, List.getElem_cons_zero])
    go_simp
  (try simp only [List.getElem_toArray, List.getElem_cons_succ, List.getElem_cons_zero, Act.put, List.setIfInBounds_toArray, List.set_cons_zero, List.set_cons_succ])
  refine wpAnyE_take (i := 6) (oi := _) (v := .pointer (some ⟨gp, 28, none⟩)) rfl (by kernel_rfl) (by kernel_rfl) (by kernel_rfl) (by kernel_rfl) (fun _ _ _ h => h) (Or.inl ⟨by rfl, ?_⟩) (Below.refl _ _) ?_
  · intro w' hSw
    (try simp only [List.getElem_toArray, List.getElem_cons_succ, List.getElem_cons_zero])
    go_simp
  (try simp only [List.getElem_toArray, List.getElem_cons_succ, List.getElem_cons_zero, Act.put, List.setIfInBounds_toArray, List.set_cons_zero, List.set_cons_succ])
  refine wpAnyE_take (i := 7) (oi := _) (v := .int .i64 ((i + 1 : Nat) : Int)) rfl (by kernel_rfl) (by kernel_rfl) (by kernel_rfl) (by kernel_rfl) (fun _ _ _ h => h) (Or.inl ⟨by rfl, ?_⟩) (Below.refl _ _) ?_
  · intro w' hSw
    have s1 := (kp.keep hSw).cell 28
    (try simp at s1)
    (try simp only [List.getElem_toArray, List.getElem_cons_succ, List.getElem_cons_zero])
    go_simp
  (try simp only [List.getElem_toArray, List.getElem_cons_succ, List.getElem_cons_zero, Act.put, List.setIfInBounds_toArray, List.set_cons_zero, List.set_cons_succ])
  refine wpAnyE_take (i := 8) (oi := _) (v := .int .i64 (i : Nat)) rfl (by kernel_rfl) (by kernel_rfl) (by kernel_rfl) (by kernel_rfl) (fun _ _ _ h => h) (Or.inl ⟨by rfl, ?_⟩) (Below.refl _ _) ?_
  · intro w' hSw
    have hw1 : IntKind.i64.wrap (i : Int) = i := IntWalk.i64_in _ (by omega)
    (try simp only [List.getElem_toArray, List.getElem_cons_succ, List.getElem_cons_zero])
    go_simp
  (try simp only [List.getElem_toArray, List.getElem_cons_succ, List.getElem_cons_zero, Act.put, List.setIfInBounds_toArray, List.set_cons_zero, List.set_cons_succ])
  refine wpAnyE_take (i := 9) (oi := _) (v := .pointer (some ⟨b, oo + i * 2, none⟩)) rfl (by kernel_rfl) (by kernel_rfl) (by kernel_rfl) (by kernel_rfl) (fun _ _ _ h => h) (Or.inl ⟨by rfl, ?_⟩) (Below.refl _ _) ?_
  · intro w' hSw
    have g3 : (i : Int) < log.length := by omega
    (try simp only [List.getElem_toArray, List.getElem_cons_succ, List.getElem_cons_zero])
    go_simp
  (try simp only [List.getElem_toArray, List.getElem_cons_succ, List.getElem_cons_zero, Act.put, List.setIfInBounds_toArray, List.set_cons_zero, List.set_cons_succ])
  refine wpAnyE_take (i := 10) (oi := _) (v := .agg #[.int .i64 x1, .bool x2]) rfl (by kernel_rfl) (by kernel_rfl) (by kernel_rfl) (by kernel_rfl) (fun _ _ _ h => h) (Or.inl ⟨by rfl, ?_⟩) (Below.refl _ _) ?_
  · intro w' hSw
    have s1 := cell_keep hSw HD.out.1
    have s2 := cell_keep hSw HD.out.2
    (try simp at s1 s2)
    (try simp only [List.getElem_toArray, List.getElem_cons_succ, List.getElem_cons_zero])
    go_simp
  (try simp only [List.getElem_toArray, List.getElem_cons_succ, List.getElem_cons_zero, Act.put, List.setIfInBounds_toArray, List.set_cons_zero, List.set_cons_succ])
  refine wpAnyE_one (i := 11) (o := _) (by kernel_rfl) rfl (fun K hK => ?_)
  rw [if_pos (by rfl)]
  refine wp_store_row 67 (.tmp 4) (.tmp 35) rfl gr #[.int .i64 x1, .bool x2] rfl rfl 67 #[.int .i64 0, .bool false] kr (by kernel_rfl) rfl (by simp [Value.oneCell']) ?_
  refine hK.out _ _ (fun h => absurd h (by decide)) ?_
  clear hK K
  refine wpAnyE_done (by kernel_rfl) ?_ _
  have kp5 : Bk (w4.setRow gr #[.int .i64 x1, .bool x2]) gp 94 (progE p (some ⟨b, oo, none⟩) gv log.length (i + 1)) := (setRow_other _ _ _ _ (by omega)).trans kp
  have kr5 := setRow_heap _ _ #[.int .i64 0, .bool false] #[.int .i64 x1, .bool x2] 67 (0, 0) kr
  have hst5 : Stp gp w (w4.setRow gr #[.int .i64 x1, .bool x2]) := ⟨hst.os, hst.tape, hst.output, by have := hst.size; simpa [World.setRow] using this, fun b' hb' hn' => (setRow_other _ gr b' _ (by omega)).trans (hst.block b' hb' hn')⟩
  clear kp kr hst
  generalize w4.setRow gr #[.int .i64 x1, .bool x2] = w6 at *
  go_wp2_with fail
  exact bodyPost_ret (v := resV x1 x2) (results_cell_row (p := 4) (ty := 67) rfl _ _ gr 67 #[.int .i64 x1, .bool x2] (0, 0) _ rfl kr5 Try.underlying67 rfl (by kernel_rfl)) rfl ⟨rfl, HS.out.step hst5 kp5, hst5⟩
set_option maxHeartbeats 1000000 in
theorem eload_asks (c : Int) {w : World} {B gp : Nat} {p : Pg} {A : Option Addr} {gv : Value} {i : Nat} {log : Log} (h : PeSt w B gp p A gv i log) (hx : i = log.length) : Calls Try.prog 48 #[ptr gp, .int .i64 c] w (EDoAsks 1 c 0 0 w) := by
  go_enter Try.func48, Try.ntmps48
  go_wp2_with fail
  (with_reducible refine (edo_asks 1 c 0 0 h hx).mono ?_)
  rintro e w1 ⟨rfl, hb⟩
  exact ⟨rfl, rfl, hb⟩
set_option maxHeartbeats 1000000 in
theorem eload_told (c : Int) {w : World} {B gp : Nat} {p : Pg} {A : Option Addr} {gv : Value} {i : Nat} {log : Log} {x1 : Int} {x2 : Bool} (h : PeSt w B gp p A gv i log) (hx : log[i]? = some (x1, x2)) : Calls Try.prog 48 #[ptr gp, .int .i64 c] w (EDoTold B gp p A gv i log (.int .i64 x1) w) := by
  have hf0 := res_field0
  have hf1 := res_field1
  go_enter Try.func48, Try.ntmps48
  go_wp2_with fail
  (with_reducible refine (edo_told 1 c 0 0 h hx).mono ?_)
  rintro e w1 ⟨rfl, hs, hst⟩
  clear h hx
  go_wp2
  go_ret
  exact ⟨rfl, hs, hst⟩
set_option maxHeartbeats 1000000 in
theorem estore_asks (c v : Int) {w : World} {B gp : Nat} {p : Pg} {A : Option Addr} {gv : Value} {i : Nat} {log : Log} (h : PeSt w B gp p A gv i log) (hx : i = log.length) : Calls Try.prog 49 #[ptr gp, .int .i64 c, .int .i64 v] w (EDoAsks 2 c 0 v w) := by
  go_enter Try.func49, Try.ntmps49
  go_wp2_with fail
  (with_reducible refine (edo_asks 2 c 0 v h hx).mono ?_)
  rintro e w1 ⟨rfl, hb⟩
  exact ⟨rfl, rfl, hb⟩
set_option maxHeartbeats 1000000 in
theorem estore_told (c v : Int) {w : World} {B gp : Nat} {p : Pg} {A : Option Addr} {gv : Value} {i : Nat} {log : Log} {x1 : Int} {x2 : Bool} (h : PeSt w B gp p A gv i log) (hx : log[i]? = some (x1, x2)) : Calls Try.prog 49 #[ptr gp, .int .i64 c, .int .i64 v] w (EDoTold B gp p A gv i log (.tuple #[]) w) := by
  have hf0 := res_field0
  have hf1 := res_field1
  go_enter Try.func49, Try.ntmps49
  go_wp2_with fail
  (with_reducible refine (edo_told 2 c 0 v h hx).mono ?_)
  rintro e w1 ⟨rfl, hs, hst⟩
  clear h hx
  go_wp2
  skip
  exact bodyPost_ret (v := .tuple #[]) (results_none rfl _ _ _) rfl ⟨rfl, hs, hst⟩
end Go.Proofs.Ytgjdjgainjedhaa
