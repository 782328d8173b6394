/- task.Next's own do: what it tells, or that it asks. -/
import Derived.Test.YtcjaomiihajjbaaMemP
import Derived.Test.YtcjaomiihajjbaaLayC
import Derived.WalkKit
import Derived.WalkSpells
import Derived.WalkLawsBesides
import Derived.Deep.RegionHeld3
import Derived.Deep.DrawnRows
import Derived.Deep.DeepMust
namespace Go.Proofs.Ytcjaomiihajjbaa
open Go.RowKit
attribute [local go_sem ↓] Go.wp_at_zero Go.wp_at_succ

/-- A slice of results. -/
def SlRes (w : World) (B : Nat) (A : Option Addr) (l : List (Int × Bool)) : Prop :=
  0 < l.length → ∃ b o, A = some ⟨b, o, none⟩ ∧ b < B ∧ ∀ k r, l[k]? = some r → w.cell? ⟨b, o + k * 2, none⟩ = some (.int .i64 r.1) ∧ w.cell? ⟨b, o + k * 2 + 1, none⟩ = some (.bool r.2)
theorem SlRes.below {w w' : World} {B : Nat} {A : Option Addr} {l : List (Int × Bool)} (h : SlRes w B A l) (hb : Below B w w') : SlRes w' B A l := by
  intro hl
  obtain ⟨b, o, e, hbb, hc⟩ := h hl
  refine ⟨b, o, e, hbb, fun k a ha => ?_⟩
  obtain ⟨h1, h2⟩ := hc k a ha
  exact ⟨(hb.cell (p := ⟨b, _, none⟩) hbb).trans h1, (hb.cell (p := ⟨b, _, none⟩) hbb).trans h2⟩
theorem SlRes.more {w : World} {B B' : Nat} {A : Option Addr} {l : List (Int × Bool)} (h : SlRes w B A l) (hB : B ≤ B') : SlRes w B' A l := by
  intro hl
  obtain ⟨b, o, e, hbb, hc⟩ := h hl
  exact ⟨b, o, e, Nat.lt_of_lt_of_le hbb hB, hc⟩
/-- What do keeps: its counter in block gm, the log's slice in block gl, the log below both. -/
structure DoSt (w : World) (B gm gl : Nat) (A : Option Addr) (cap m : Nat) (log : List (Int × Bool)) : Prop where
  km : Bk w gm 3 #[.int .i64 m]
  kl : Bk w gl 61 #[.slice A log.length cap]
  sl : SlRes w B A log
  bm : B ≤ gm
  ne : gl ≠ gm
  le : log.length ≤ 1000
/-- w' is w grown, but for block gm. -/
structure Stp (gm : Nat) (w w' : World) : Prop where
  os : w'.os = w.os
  tape : w'.tape = w.tape
  output : w'.output = w.output
  size : w.heap.size ≤ w'.heap.size
  block : ∀ b, b < w.heap.size → b ≠ gm → w'.heap[b]? = w.heap[b]?
section
variable {gm : Nat} {w w' w2 : World}
theorem Stp.refl (gm : Nat) (w : World) : Stp gm w w := ⟨rfl, rfl, rfl, Nat.le_refl _, fun _ _ _ => rfl⟩
theorem Stp.trans (h : Stp gm w w') (k : Stp gm w' w2) : Stp gm w w2 :=
  ⟨k.os.trans h.os, k.tape.trans h.tape, k.output.trans h.output, Nat.le_trans h.size k.size, fun b hb hn => (k.block b (Nat.lt_of_lt_of_le hb h.size) hn).trans (h.block b hb hn)⟩
theorem Stp.of_below (gm : Nat) (h : Below w.heap.size w w') : Stp gm w w' := ⟨h.os, h.tape, h.output, h.size, fun b hb _ => h.block b hb⟩
theorem Stp.set (w : World) (gm i : Nat) (u : Value) : Stp gm w (w.setCell ⟨gm, i, none⟩ u) :=
  ⟨rfl, rfl, rfl, by simp, fun b _ hn => Below.heap_setCell w _ u b hn⟩
theorem Stp.alloc (h : Stp gm w w') (o : Obj) : Stp gm w (w'.alloc o) := h.trans (.of_below gm (below_al (Below.refl _ _) o))
theorem Stp.keep (h : Stp gm w w') {g : Nat} {t : TypeId} {cs : Array Value} (k : Bk w g t cs) (hn : g ≠ gm) : Bk w' g t cs := (h.block g k.lt hn).trans k
theorem Stp.below (h : Stp gm w w') {a : World} (ha : a.heap.size ≤ gm) (k : Below a.heap.size a w) : Below a.heap.size a w' :=
  ⟨h.os.trans k.os, h.tape.trans k.tape, h.output.trans k.output, Nat.le_trans k.size h.size, fun b hb => (h.block b (Nat.lt_of_lt_of_le hb k.size) (by omega)).trans (k.block b hb)⟩
theorem Stp.part (h : Stp gm w w') {B : Nat} (hB : B ≤ gm) (hs : B ≤ w.heap.size) : Below B w w' :=
  ⟨h.os, h.tape, h.output, h.size, fun b hb => h.block b (by omega) (by omega)⟩
end
theorem DoSt.step {w w' : World} {B gm gl : Nat} {A : Option Addr} {cap m m' : Nat} {log : List (Int × Bool)} (h : DoSt w B gm gl A cap m log) (s : Stp gm w w') (k : Bk w' gm 3 #[.int .i64 m']) : DoSt w' B gm gl A cap m' log :=
  ⟨k, s.keep h.kl h.ne, h.sl.below (s.part h.bm (by have := h.km.lt; have := h.bm; omega)), h.bm, h.ne, h.le⟩
theorem DoSt.keep {w w' : World} {B gm gl : Nat} {A : Option Addr} {cap m : Nat} {log : List (Int × Bool)} (h : DoSt w B gm gl A cap m log) (hb : Below w.heap.size w w') : DoSt w' B gm gl A cap m log :=
  h.step (.of_below gm hb) (h.km.keep hb)
def askV (k c o v : Int) : Value := .iface 82 (.agg #[.int .i64 k, .int .i64 c, .int .i64 o, .int .i64 v])
def Asks (k c o v : Int) (w : World) (e : Ending) (w' : World) : Prop := e = .panicked [{ v := askV k c o v, recovered := false }] ∧ Below w.heap.size w w'
def Told (B gm gl : Nat) (A : Option Addr) (cap m : Nat) (log : List (Int × Bool)) (x : Int × Bool) (w : World) (e : Ending) (w' : World) : Prop := e = .returned (resV x.1 x.2) ∧ DoSt w' B gm gl A cap (m + 1) log ∧ Stp gm w w'
set_option maxHeartbeats 1000000 in
theorem do_told (k c o v : Int) {w : World} {B gm gl : Nat} {A : Option Addr} {cap m : Nat} {log : List (Int × Bool)} {x : Int × Bool} (h : DoSt w B gm gl A cap m log) (hx : log[m]? = some x) :
    Calls Try.prog 25 #[.int .i64 k, .int .i64 c, .int .i64 o, .int .i64 v, .pointer (some ⟨gm, 0, none⟩), .pointer (some ⟨gl, 0, none⟩)] w (Told B gm gl A cap m log x w) := by
  have hlt : m < log.length := (List.getElem?_eq_some_iff.1 hx).1
  have c1 := h.km.cell 0
  have c2 := h.kl.cell 0
  simp at c1 c2
  have f1 := h.km.free 0
  have l1 := h.km.lt
  have l2 := h.kl.lt
  obtain ⟨b, oo, hA, hbb, hc⟩ := h.sl (by omega)
  obtain ⟨d1, d2⟩ := hc m x hx
  subst hA
  have hne : ((m : Int) == log.length) = false := by simp; omega
  have hle := h.le
  have nbm : ¬ b = gm := by have := h.bm; omega
  have ngl := h.ne
  have lb : b < w.heap.size := by have := h.bm; omega
  have i1 : (m : Int) < log.length := by omega
  have HS := Lib.hid h
  clear h hc hx
  obtain ⟨x1, x2⟩ := x
  dsimp only at d1 d2
  go_enter Try.func25, Try.ntmps25
  go_wp2
  have hst := (Stp.set w gm 0 (.int .i64 ((m : Int) + 1))).alloc (.cells #[.int .i64 x1, .bool x2] 46)
  have hk := (HS.out.km.stored 0 (.int .i64 ((m : Int) + 1))).alloc (.cells #[.int .i64 x1, .bool x2] 46)
  exact bodyPost_ret (v := resV x1 x2) (results_cell_row (p := 10) (ty := 46) rfl _ _ w.heap.size 46 #[.int .i64 x1, .bool x2] (0, 0) _ rfl (Bk.new _ (by simp) _ _) Try.underlying46 rfl (by kernel_rfl)) rfl ⟨rfl, HS.out.step hst hk, hst⟩
set_option maxHeartbeats 1000000 in
theorem do_asks (k c o v : Int) {w : World} {B gm gl : Nat} {A : Option Addr} {cap m : Nat} {log : List (Int × Bool)} (h : DoSt w B gm gl A cap m log) (hm : m = log.length) :
    Calls Try.prog 25 #[.int .i64 k, .int .i64 c, .int .i64 o, .int .i64 v, .pointer (some ⟨gm, 0, none⟩), .pointer (some ⟨gl, 0, none⟩)] w (Asks k c o v w) := by
  subst hm
  have c1 := h.km.cell 0
  have c2 := h.kl.cell 0
  simp at c1 c2
  have l1 := h.km.lt
  have l2 := h.kl.lt
  clear h
  go_enter Try.func25, Try.ntmps25
  go_wp2
  exact ⟨rfl, rfl, below_al (Below.refl _ _) _⟩
end Go.Proofs.Ytcjaomiihajjbaa
