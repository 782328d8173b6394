/- The statements' head: the document's example of layer 2. -/
import Derived.Test.YtdajnmmjmfhihaaMemB
import Derived.Test.YtdajnmmjmfhihaaMemT
namespace Go.Proofs.Ytdajnmmjmfhihaa
open Go.RowKit

def exAcc : List Acc := [⟨3, 0, 5, 7⟩, ⟨3, 0, 5, 7⟩, ⟨4, 0, 0, 3⟩, ⟨5, 0, 0, 1⟩, ⟨1, 0, 0, 0⟩]
def exTold : List (Int × Bool) := [(5, true), (7, false), (7, true), (10, true), (1, true)]
theorem ex_err : allErr [5] exAcc = 0 := by decide +kernel
theorem ex_cells : allCells [5] exAcc = [1] := by decide +kernel
theorem ex_told : allTold [5] exAcc = exTold := by decide +kernel

def ShownAll (B : Nat) (w : World) (e : Ending) (w' : World) : Prop :=
  ∃ A c g d, e = .returned (.tuple #[memV A 1 c, .slice (some ⟨g, 0, none⟩) 5 d, .int .i64 0]) ∧ MemAt w' B A 1 c [1] ∧ OwnRes w' w.heap.size (.slice (some ⟨g, 0, none⟩) 5 d) exTold ∧ g < w'.heap.size ∧ w.heap.size ≤ g ∧ Below w.heap.size w w'
theorem shown_all (b b' : Nat) (w : World) (k0 : Bk w b 3 #[.int .i64 5])
    (k1 : Bk w b' 26 #[.int .i64 3, .int .i64 0, .int .i64 5, .int .i64 7, .int .i64 3, .int .i64 0, .int .i64 5, .int .i64 7, .int .i64 4, .int .i64 0, .int .i64 0, .int .i64 3, .int .i64 5, .int .i64 0, .int .i64 0, .int .i64 1, .int .i64 1, .int .i64 0, .int .i64 0, .int .i64 0]) :
    Calls Try.prog 17 #[memV (some ⟨b, 0, none⟩) 1 1, .slice (some ⟨b', 0, none⟩) 5 5] w (ShownAll w.heap.size w) := by
  have hsl : Sl w w.heap.size (some ⟨b, 0, none⟩) 1 (ints [5]) := ⟨rfl, fun _ => ⟨b, 0, rfl, k0.lt, fun j u hu => by
    rw [Nat.zero_add, k0.cell j]
    simpa [ints] using hu⟩⟩
  have hacc : SlAcc w w.heap.size (some ⟨b', 0, none⟩) exAcc := fun _ => ⟨b', 0, rfl, k1.lt, fun k a ha => by
    simp only [Nat.zero_add]
    rw [k1.cell, k1.cell, k1.cell, k1.cell]
    match k, ha with
    | 0, ha => simp [exAcc] at ha; subst ha; simp
    | 1, ha => simp [exAcc] at ha; subst ha; simp
    | 2, ha => simp [exAcc] at ha; subst ha; simp
    | 3, ha => simp [exAcc] at ha; subst ha; simp
    | 4, ha => simp [exAcc] at ha; subst ha; simp
    | k + 5, ha => simp [exAcc] at ha⟩
  refine (all_any (some ⟨b, 0, none⟩) (some ⟨b', 0, none⟩) w.heap.size 1 5 [5] exAcc w (Nat.le_refl _) (MemAt.of_sl hsl) hacc (by decide) (by decide)).mono ?_
  rintro e w' ⟨A, c, R, d, rfl, hM, hR, hb⟩
  have e1 : allToldOut [5] exAcc = exTold := by simp only [allToldOut, ex_err, if_true, ex_told]
  have e2 : allCellsOut [5] exAcc = [1] := by simp only [allCellsOut, ex_err, if_true, ex_cells]
  rw [e1] at hR ⊢
  rw [e2] at hM
  obtain ⟨g, cap, hv, hg1, hg2⟩ := World.ownsRow.form hR (by decide)
  injection hv with h1 h2 h3
  subst h1 h3
  exact ⟨A, c, g, d, by rw [ex_err]; rfl, hM, hR, hg2, hg1, hb⟩

theorem shown_facts {w : World} {base g d : Nat} (h : OwnRes w base (.slice (some ⟨g, 0, none⟩) 5 d) exTold) :
    w.cell? ⟨g, 0, none⟩ = some (.int .i64 5) ∧ w.cell? ⟨g, 1, none⟩ = some (.bool true) ∧ w.cell? ⟨g, 2, none⟩ = some (.int .i64 7) ∧ w.cell? ⟨g, 3, none⟩ = some (.bool false) ∧ w.cell? ⟨g, 4, none⟩ = some (.int .i64 7) ∧ w.cell? ⟨g, 5, none⟩ = some (.bool true) ∧ w.cell? ⟨g, 6, none⟩ = some (.int .i64 10) ∧ w.cell? ⟨g, 8, none⟩ = some (.int .i64 1) := by
  have hc : ∀ j, j < 10 → w.cell? ⟨g, j, none⟩ = (resCells exTold)[j]? := fun j hj => World.ownsRow.cellAt (n := 5) h j (by omega)
  exact ⟨hc 0 (by omega), hc 1 (by omega), hc 2 (by omega), hc 3 (by omega), hc 4 (by omega), hc 5 (by omega), hc 6 (by omega), hc 8 (by omega)⟩

theorem shown_do1 (A : Option Addr) (w : World) : Calls Try.prog 11 #[memV A 1 1, .agg #[.int .i64 1, .int .i64 1, .int .i64 0, .int .i64 0]] w fun e w' => e = .returned (.tuple #[memV A 1 1, resV 0 false, .int .i64 12]) ∧ Below w.heap.size w w' := do_bad A 1 1 ⟨1, 1, 0, 0⟩ w (by decide)
theorem shown_do2 (A : Option Addr) (w : World) : Calls Try.prog 11 #[memV A 1 1, .agg #[.int .i64 1, .int .i64 0, .int .i64 0, .int .i64 1]] w fun e w' => e = .returned (.tuple #[memV A 1 1, resV 0 false, .int .i64 1]) ∧ Below w.heap.size w w' := do_bad A 1 1 ⟨1, 0, 0, 1⟩ w (by decide)
theorem shown_same (A : Option Addr) (c g : Nat) (w : World) (h : Sl w w.heap.size A 1 (ints [1])) (k : Bk w g 3 #[.int .i64 1]) : Calls Try.prog 15 #[memV A 1 c, memV (some ⟨g, 0, none⟩) 1 1] w (BoolBelow true w) :=
  same_any A (some ⟨g, 0, none⟩) c 1 [1] [1] w h ⟨rfl, fun _ => ⟨g, 0, rfl, k.lt, fun j u hu => by rw [Nat.zero_add, k.cell j]; simpa [ints] using hu⟩⟩ (by decide) (by decide)
theorem shown_other (A : Option Addr) (c g : Nat) (w : World) (h : Sl w w.heap.size A 1 (ints [1])) (k : Bk w g 3 #[.int .i64 5]) : Calls Try.prog 15 #[memV (some ⟨g, 0, none⟩) 1 1, memV A 1 c] w (BoolBelow false w) :=
  same_any (some ⟨g, 0, none⟩) A 1 c [5] [1] w ⟨rfl, fun _ => ⟨g, 0, rfl, k.lt, fun j u hu => by rw [Nat.zero_add, k.cell j]; simpa [ints] using hu⟩⟩ h (by decide) (by decide)
theorem shown_right (w : World) : Calls Try.prog 13 #[.agg #[.int .i64 3, .int .i64 0, .int .i64 5, .int .i64 7]] w (BoolBelow true w) := right_any ⟨3, 0, 5, 7⟩ w

set_option maxRecDepth 100000 in
set_option maxHeartbeats 8000000 in
theorem shown_any (w : World) : Calls Try.prog 10 #[] w (BoolBelow true w) := by
  go_enter Try.func10, Try.ntmps10
  go_wp2_with fail
  have j0 := ((Bk.made w 3 #[.int .i64 5]).alloc (.cells #[.slice (some ⟨w.heap.size, 0, none⟩) 1 1] 24)).alloc (.cells #[.int .i64 3, .int .i64 0, .int .i64 5, .int .i64 7, .int .i64 3, .int .i64 0, .int .i64 5, .int .i64 7, .int .i64 4, .int .i64 0, .int .i64 0, .int .i64 3, .int .i64 5, .int .i64 0, .int .i64 0, .int .i64 1, .int .i64 1, .int .i64 0, .int .i64 0, .int .i64 0] 26)
  have j1 := (Bk.new (w.alloc (.cells #[.int .i64 5] 3)) (g := w.heap.size + 1) (by simp) 24 #[.slice (some ⟨w.heap.size, 0, none⟩) 1 1]).alloc (.cells #[.int .i64 3, .int .i64 0, .int .i64 5, .int .i64 7, .int .i64 3, .int .i64 0, .int .i64 5, .int .i64 7, .int .i64 4, .int .i64 0, .int .i64 0, .int .i64 3, .int .i64 5, .int .i64 0, .int .i64 0, .int .i64 1, .int .i64 1, .int .i64 0, .int .i64 0, .int .i64 0] 26)
  have j2 := Bk.new ((w.alloc (.cells #[.int .i64 5] 3)).alloc (.cells #[.slice (some ⟨w.heap.size, 0, none⟩) 1 1] 24)) (g := w.heap.size + 1 + 1) (by simp) 26 #[.int .i64 3, .int .i64 0, .int .i64 5, .int .i64 7, .int .i64 3, .int .i64 0, .int .i64 5, .int .i64 7, .int .i64 4, .int .i64 0, .int .i64 0, .int .i64 3, .int .i64 5, .int .i64 0, .int .i64 0, .int .i64 1, .int .i64 1, .int .i64 0, .int .i64 0, .int .i64 0]
  have hbl := below_al (below_al (below_al (Below.refl w.heap.size w) (.cells #[.int .i64 5] 3)) (.cells #[.slice (some ⟨w.heap.size, 0, none⟩) 1 1] 24)) (.cells #[.int .i64 3, .int .i64 0, .int .i64 5, .int .i64 7, .int .i64 3, .int .i64 0, .int .i64 5, .int .i64 7, .int .i64 4, .int .i64 0, .int .i64 0, .int .i64 3, .int .i64 5, .int .i64 0, .int .i64 0, .int .i64 1, .int .i64 1, .int .i64 0, .int .i64 0, .int .i64 0] 26)
  refine (shown_all w.heap.size (w.heap.size + 1 + 1) _ j0 j2).mono ?_
  rintro e w1 ⟨A, c, g, d, rfl, hM, hR, hg2, hg1, hb⟩
  replace j0 := j0.keep hb
  replace j1 := j1.keep hb
  replace j2 := j2.keep hb
  replace hbl := below_tr hbl hb
  simp only [World.size_alloc] at hM
  have hgs := hg1
  simp only [World.size_alloc] at hgs
  clear hb hg1
  have c1 := j1.cell 0
  simp at c1
  have l1 := j1.lt
  have l0 := j0.lt
  replace hR := own_lower hR (B' := w.heap.size) (by simp; omega)
  go_wp2_with fail
  refine (shown_do1 _ _).mono ?_
  rintro e w2 ⟨rfl, hb⟩
  have hb' := below_tr (below_al (Below.refl w1.heap.size w1) (.cells #[.slice A 1 c] 24)) hb
  have j3 := (Bk.made w1 24 #[.slice A 1 c]).keep hb
  replace hM := hM.keep (by have := j2.lt; omega) hb'
  replace hR := own_keepb hR hb'
  replace j0 := j0.keep hb'
  replace j1 := j1.keep hb'
  replace j2 := j2.keep hb'
  replace hbl := below_tr hbl hb'
  have hg3 : g < w2.heap.size := Nat.lt_of_lt_of_le hg2 hb'.size
  clear hb hb' c1 l1 l0 hg2
  have c1 := j1.cell 0
  simp at c1
  have l1 := j1.lt
  have l0 := j0.lt
  go_wp2_with fail
  refine (shown_do2 _ _).mono ?_
  rintro e w3 ⟨rfl, hb⟩
  have hb' := below_tr (below_al (below_al (Below.refl w2.heap.size w2) (.cells #[.slice (some ⟨w.heap.size, 0, none⟩) 1 1] 24)) (.cells #[.int .i64 0, .bool false] 29)) hb
  replace j3 := j3.keep hb'
  replace hM := hM.keep (by have := j2.lt; omega) hb'
  replace hR := own_keepb hR hb'
  replace j0 := j0.keep hb'
  replace j1 := j1.keep hb'
  replace j2 := j2.keep hb'
  replace hbl := below_tr hbl hb'
  have hg4 : g < w3.heap.size := Nat.lt_of_lt_of_le hg3 hb'.size
  clear hb hb' c1 l1 l0 hg3
  obtain ⟨q0, q1, q2, q3, q4, q5, q6, q8⟩ := shown_facts hR
  have c1 := j1.cell 0
  have c3 := j3.cell 0
  have a0 := j2.cell 0
  have a1 := j2.cell 1
  have a2 := j2.cell 2
  have a3 := j2.cell 3
  simp at c1 c3 a0 a1 a2 a3
  have l1 := j1.lt
  have l0 := j0.lt
  have l2 := j2.lt
  have l3 := j3.lt
  have m0 : w.heap.size < w3.heap.size + 1 := by omega
  have m1 : g < w3.heap.size + 1 := by omega
  have m3 : w1.heap.size < w3.heap.size + 1 := by omega
  go_wp2_with fail
  have hbW := below_al (below_al (below_al (Below.refl w3.heap.size w3) (.cells #[.slice (some ⟨w.heap.size, 0, none⟩) 1 1] 24)) (.cells #[.int .i64 0, .bool false] 29)) (.cells #[.int .i64 1] 3)
  have hMs := hM.sl (by omega)
  (with_reducible refine (shown_same A c (w3.heap.size + 1 + 1) _ (hMs.keepb hbW) (Bk.new _ (by simp) _ _)).mono ?_)
  rintro e w4 ⟨rfl, hb⟩
  have hb' := below_tr hbW hb
  replace j3 := j3.keep hb'
  replace hMs := hMs.keepb hb'
  replace j0 := j0.keep hb'
  replace j1 := j1.keep hb'
  replace j2 := j2.keep hb'
  replace hbl := below_tr hbl hb'
  clear hb hb' hbW c1 c3 a0 a1 a2 a3 l0 l1 l2 l3 m0 m1 m3 q0 q1 q2 q3 q4 q5 q6 q8 hM hR hg4
  have a0 := j2.cell 0
  have a1 := j2.cell 1
  have a2 := j2.cell 2
  have a3 := j2.cell 3
  simp at a0 a1 a2 a3
  go_wp2_with fail
  (with_reducible refine (shown_right _).mono ?_)
  rintro e w5 ⟨rfl, hb⟩
  replace j3 := j3.keep hb
  replace hMs := hMs.keepb hb
  replace j0 := j0.keep hb
  replace j1 := j1.keep hb
  replace hbl := below_tr hbl hb
  clear hb a0 a1 a2 a3 j2
  have c1 := j1.cell 0
  have c3 := j3.cell 0
  simp at c1 c3
  go_wp2_with fail
  (with_reducible refine (shown_other A c w.heap.size _ hMs j0).mono ?_)
  rintro e w6 ⟨rfl, hb⟩
  replace hbl := below_tr hbl hb
  clear hb c1 c3 j0 j1 j3 hMs
  go_wp2
  go_ret
  exact ⟨rfl, hbl⟩
end Go.Proofs.Ytdajnmmjmfhihaa
