/- A row of counts: which cells were hit how often. And make of a row of numbers. -/
import Derived.Test.YthaieabhlodajaaApartQ
import Derived.Laws.MakeOwn
namespace Go.Proofs.Ythaieabhlodajaa
open Go.RowKit

abbrev memC (mem : List Int) : Array Value := (mem.map (Value.int .i64)).toArray
theorem memC_get {mem : List Int} {k : Nat} {x : Int} (h : mem[k]? = some x) : (memC mem)[k]? = some (.int .i64 x) := by simp [h]
theorem memC_set (mem : List Int) (k : Nat) (x : Int) : (memC mem).setIfInBounds k (.int .i64 x) = memC (mem.set k x) := by simp [List.map_set]
theorem made_ints (N : Nat) : madeCells #[Value.int .i64 0] N = memC (List.replicate N 0) := by
  apply Array.ext
  · simp [madeCells]
  · intro i h1 h2
    simp [madeCells, Nat.mod_one]
theorem int_info : (Try.prog.info? 3).map (fun i => (i.zero, i.size, i.bytes)) = some (some (.int .i64 0), 1, 8) := by kernel_rfl
theorem run_make_ints (w : World) (N : Nat) (h : N ≤ 1000000) :
    (Instr.makeSlice 33 (.int .i64 N) (.int .i64 N)).run Try.prog w = .ok (.slice (some ⟨w.heap.size, 0, none⟩) N N) (w.alloc (.cells (memC (List.replicate N 0)) 3)) := by
  have hinf := int_info
  cases hi : Try.prog.info? 3 with
  | none => rw [hi] at hinf; cases hinf
  | some i =>
    rw [hi] at hinf
    simp only [Option.map_some, Option.some.injEq, Prod.mk.injEq] at hinf
    obtain ⟨hz0, hz1, hz2⟩ := hinf
    have hr := run_make (P := Try.prog) w 33 3 i _ Try.underlying33 hi hz0 .i64 .i64 N N (by omega) (by omega) (by rw [hz2]; omega) (by omega)
    rw [hz1, Nat.mul_one, Int.toNat_natCast] at hr
    rw [hr]
    show Result.ok _ (w.alloc (.cells (madeCells #[Value.int .i64 0] N) 3)) = _
    rw [made_ints]
theorem wpList_make_ints {ops : Array Oper} {rest : List Oper} {o : Oper} {a : Act} {w : World} {Q : Exit → Act → World → Prop} (hg : o.guard = none) (x y : Operand) (ho : o.op = .makeSlice 33 x y) (N : Nat) (hx : a.eval x = .int .i64 N) (hy : a.eval y = .int .i64 N) (h1 : N ≤ 1000000)
    (h : wpList Try.prog ops Q rest (a.put o.dst (.slice (some ⟨w.heap.size, 0, none⟩) N N)) (w.alloc (.cells (memC (List.replicate N 0)) 3))) : wpList Try.prog ops Q (o :: rest) a w :=
  wpList_plain hg fun _ hK => by
    unfold Oper.wp execOp
    simp only [ho, hx, hy, Sem.run_bind, run_make_ints w N h1, Result.andThen_ok]
    exact hK _ _ h

/-- Each cell's number is how often it was hit. -/
structure HadIs (mem : List Int) (N : Nat) (L : List Nat) : Prop where
  len : mem.length = N
  at_ : ∀ x, x < N → mem[x]? = some ((L.count x : Nat) : Int)
theorem HadIs.none (N : Nat) : HadIs (List.replicate N 0) N [] := ⟨by simp, fun x hx => by simp [hx]⟩
theorem HadIs.hit {mem : List Int} {N : Nat} {L : List Nat} (h : HadIs mem N L) {c : Nat} (hc : c < N) : HadIs (mem.set c ((L.count c : Nat) + 1 : Int)) N (L ++ [c]) := by
  refine ⟨by simp [h.len], fun x hx => ?_⟩
  rw [List.count_append]
  by_cases e : x = c
  · subst e
    rw [List.getElem?_set_self (by rw [h.len]; exact hx)]
    simp
  · rw [List.getElem?_set_ne (fun e' => e e'.symm), h.at_ x hx]
    have : [c].count x = 0 := List.count_eq_zero.2 (by simpa using e)
    rw [this, Nat.add_zero]
theorem flat_prefix (f : Nat → List Nat) (n : Nat) : ∀ d, (List.range n).flatMap f <+: (List.range (n + d)).flatMap f := by
  intro d
  induction d with
  | zero => exact List.prefix_refl _
  | succ d ih =>
    rw [show n + (d + 1) = n + d + 1 by omega, List.range_succ, List.flatMap_append]
    exact ih.trans (List.prefix_append _ _)
def LB (l : Ly) (a b : Nat) : List Nat := hits l a ++ hitB l a b
def LK (l : Ly) (a b k : Nat) : List Nat := LB l a b ++ hitK l a b k
def LI (l : Ly) (a b k i : Nat) : List Nat := LK l a b k ++ (List.range i).map fun i => (plN l a b k).toNat + i
theorem LB_zero (l : Ly) (a : Nat) : LB l a 0 = hits l a := by simp [LB, hitB]
theorem LB_end (l : Ly) (a : Nat) : LB l a 16 = hits l (a + 1) := by simp [LB, hits, hitA, List.range_succ, List.flatMap_append]
theorem LK_zero (l : Ly) (a b : Nat) : LK l a b 0 = LB l a b := by simp [LK, hitK]
theorem LK_end (l : Ly) (a b : Nat) : LK l a b 14 = LB l a (b + 1) := by
  unfold LK LB
  have : hitB l a (b + 1) = hitB l a b ++ hitK l a b 14 := by
    unfold hitB
    rw [List.range_succ, List.flatMap_append]
    simp
  rw [this, List.append_assoc]
theorem LK_skip (l : Ly) (a b k : Nat) (h : skipN l a b k) : LK l a b (k + 1) = LK l a b k := by
  unfold LK hitK
  rw [List.range_succ, List.flatMap_append]
  have : ekN l a b k = [] := by unfold ekN; rw [if_pos h]
  simp [this]
theorem LI_zero (l : Ly) (a b k : Nat) : LI l a b k 0 = LK l a b k := by simp [LI]
theorem LI_next (l : Ly) (a b k i : Nat) : LI l a b k (i + 1) = LI l a b k i ++ [(plN l a b k).toNat + i] := by simp [LI, List.range_succ]
theorem LI_end (l : Ly) (a b k : Nat) (h : ¬ skipN l a b k) : LI l a b k (manyN k b) = LK l a b (k + 1) := by
  unfold LI LK hitK
  rw [List.range_succ, List.flatMap_append]
  have : ekN l a b k = (List.range (manyN k b)).map fun i => (plN l a b k).toNat + i := by unfold ekN; rw [if_neg h]
  simp [this]
theorem map_prefix (f : Nat → Nat) (n : Nat) : ∀ d, (List.range n).map f <+: (List.range (n + d)).map f := by
  intro d
  induction d with
  | zero => exact List.prefix_refl _
  | succ d ih =>
    rw [show n + (d + 1) = n + d + 1 by omega, List.range_succ, List.map_append]
    exact ih.trans (List.prefix_append _ _)
theorem LI_prefix (l : Ly) {a b k i : Nat} (ha : a < 64) (hb : b < 16) (hk : k < 14) (hi : i ≤ manyN k b) (h : ¬ skipN l a b k) : LI l a b k i <+: hits l 64 := by
  have p1 : LI l a b k i <+: LI l a b k (manyN k b) := by
    unfold LI
    have := map_prefix (fun i => (plN l a b k).toNat + i) i (manyN k b - i)
    rw [show i + (manyN k b - i) = manyN k b by omega] at this
    exact (List.prefix_append_right_inj _).2 this
  have p2 : LK l a b (k + 1) <+: LK l a b 14 := by
    unfold LK hitK
    have := flat_prefix (ekN l a b) (k + 1) (14 - (k + 1))
    rw [show k + 1 + (14 - (k + 1)) = 14 by omega] at this
    exact (List.prefix_append_right_inj _).2 this
  have p3 : LB l a (b + 1) <+: LB l a 16 := by
    unfold LB hitB
    have := flat_prefix (fun b => hitK l a b 14) (b + 1) (16 - (b + 1))
    rw [show b + 1 + (16 - (b + 1)) = 16 by omega] at this
    exact (List.prefix_append_right_inj _).2 this
  have p4 : hits l (a + 1) <+: hits l 64 := by
    unfold hits hitA
    have := flat_prefix (fun a => hitB l a 16) (a + 1) (64 - (a + 1))
    rw [show a + 1 + (64 - (a + 1)) = 64 by omega] at this
    exact (List.prefix_append_right_inj _).2 this
  rw [LI_end l a b k h] at p1
  rw [LK_end] at p2
  rw [LB_end] at p3
  exact p1.trans (p2.trans (p3.trans p4))
theorem LI_count {l : Ly} (hc : Chain l) (s : Small l) {a b k i x : Nat} (ha : a < 64) (hb : b < 16) (hk : k < 14) (hi : i ≤ manyN k b) (h : ¬ skipN l a b k) (hx : (x : Int) < l.size) : (LI l a b k i).count x ≤ 1 := by
  have := (LI_prefix l ha hb hk hi h).sublist.count_le x
  rw [hit_one hc s hx] at this
  exact this
theorem pl_lt {l : Ly} (hc : Chain l) {a b k i : Nat} (hk : k < 14) (hi : i < manyN k b) (h : ¬ skipN l a b k) : plN l a b k + i < l.size := by
  have hp : 0 ≤ plN l a b k := by unfold skipN at h; omega
  have hm : (plN l a b k).toNat + i ∈ ekN l a b k := ek_mem.2 ⟨h, i, hi, by omega⟩
  obtain ⟨c, a', j, ic, _⟩ := ek_in hk hm
  have b1 := (ic.bounds hc).2
  have b2 := hc.mono (c + 1) (10 - c) (by have := ic.lt; omega)
  rw [show c + 1 + (10 - c) = 11 by have := ic.lt; omega] at b2
  have e : fN l 11 = l.size := rfl
  omega
theorem ring_lt {l : Ly} {a b : Nat} (h : ¬ skipN l a b 4) : (b : Int) < ringsN l.c.tasks := by
  have hp : 0 ≤ plN l a b 4 := by unfold skipN at h; omega
  have e : plN l a b 4 = ringAt l a b := rfl
  rw [e] at hp
  exact (ringAt_of l a b (by omega)).2.1
theorem row_get (l : Ly) (a b k : Nat) (hk : k < 14) : (rowAt l a b)[k]? = some (plN l a b k) := by
  have hl : (rowAt l a b).length = 14 := rfl
  unfold plN
  rw [List.getElem?_eq_getElem (by omega)]
  rfl
end Go.Proofs.Ythaieabhlodajaa
