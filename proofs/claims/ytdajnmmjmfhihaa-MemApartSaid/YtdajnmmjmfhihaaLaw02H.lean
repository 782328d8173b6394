/- The walk of MemApart. -/
import Derived.Test.YtdajnmmjmfhihaaLaw02E
namespace Go.Proofs.Ytdajnmmjmfhihaa
open Go.RowKit
attribute [local go_sem ↓] Go.wp_at_zero Go.wp_at_succ

set_option maxRecDepth 100000 in
set_option maxHeartbeats 16000000 in
theorem apart_early (A : Option Addr) (c : Nat) (zs : List Int) (a b : Acc) (w : World) (k1 k2 k3 k4 : Bool) (q1 : (a.kind == b.kind) = k1) (q2 : (a.kind == 1) = k2) (q3 : (a.kind == 4) = k3) (q4 : (a.cell == b.cell) = k4)
    (h : 100 < zs.length ∨ (k4 && !(k1 && (k2 || k3))) = true) : Calls Try.prog 5 #[memV A zs.length c, accV a, accV b] w (BoolBelow true w) := by
  by_cases h1 : 100 < zs.length
  all_goals
    cases k1 <;> cases k2 <;> cases k3 <;> cases k4 <;> simp [h1] at h
  all_goals
    go_enter Try.func5, Try.ntmps5
    go_wp2_with (go_at_call 10; refine (shown_any _).mono ?_; rintro e w1 ⟨rfl, hb⟩; have K := (boxes4 A zs.length c a b w).keep hb; have c0 := K.k0.cell 0; have d0 := K.k1.cell 0; have d1 := K.k1.cell 1; have f0 := K.k2.cell 0; have f1 := K.k2.cell 1; simp at c0 d0 d1 f0 f1; clear hb)
    go_ret
    exact ⟨rfl, K.bel⟩

set_option maxRecDepth 100000 in
set_option maxHeartbeats 16000000 in
theorem apart_bad (A : Option Addr) (c : Nat) (zs : List Int) (a b : Acc) (w : World) (k1 k2 k3 k4 : Bool) (q1 : (a.kind == b.kind) = k1) (q2 : (a.kind == 1) = k2) (q3 : (a.kind == 4) = k3) (q4 : (a.cell == b.cell) = k4) (h : Sl w w.heap.size A zs.length (ints zs))
    (h1 : ¬ 100 < zs.length) (h2 : (k4 && !(k1 && (k2 || k3))) = false) (h3 : ¬ (k2 = true ∧ k3 = true)) (he1 : (allErr zs [a, b] != 0) = true) (he2 : (allErr zs [b, a] != 0) = true) : Calls Try.prog 5 #[memV A zs.length c, accV a, accV b] w (BoolBelow true w) := by
  have HM := Lib.hid (MemAt.of_sl (c := c) h)
  clear h
  generalize hE1 : allErr zs [a, b] = E1 at *
  generalize hE2 : allErr zs [b, a] = E2 at *
  have HE1 := Lib.hid hE1
  have HE2 := Lib.hid hE2
  clear hE1 hE2
  cases k1 <;> cases k2 <;> cases k3 <;> cases k4 <;> simp at h2 h3
  all_goals
    clear h2 h3
    go_enter Try.func5, Try.ntmps5
    go_wp2_with fail
    refine (shown_any _).mono ?_
    rintro e w1 ⟨rfl, hb⟩
    have K := (boxes4 A zs.length c a b w).keep hb
    clear hb
    have c0 := K.k0.cell 0
    have d0 := K.k1.cell 0
    have d1 := K.k1.cell 1
    have d2 := K.k1.cell 2
    have d3 := K.k1.cell 3
    have f0 := K.k2.cell 0
    have f1 := K.k2.cell 1
    have f2 := K.k2.cell 2
    have f3 := K.k2.cell 3
    simp at c0 d0 d1 d2 d3 f0 f1 f2 f3
    go_wp2_with fail
    have hbx := below_al (Below.refl w1.heap.size w1) (.cells (accs2 a b) 26)
    have hA := all2_bad A w.heap.size c w1.heap.size zs a b _ (Nat.le_trans K.bel.size hbx.size) (HM.out.keep (Nat.le_refl _) (below_tr K.bel hbx)) (Bk.made w1 26 (accs2 a b)) (by omega)
    rw [HE1.out] at hA
    (with_reducible refine hA.mono ?_)
    clear hA
    rintro e w2 ⟨X, cx, R, m, d, rfl, hb⟩
    have K1 := K.keep (below_tr hbx hb)
    clear c0 d0 d1 d2 d3 f0 f1 f2 f3 hb hbx K
    have l0 := K1.k0.lt
    have l1 := K1.k1.lt
    have l2 := K1.k2.lt
    have c0 := K1.k0.cell 0
    have d0 := K1.k1.cell 0
    have d1 := K1.k1.cell 1
    have d2 := K1.k1.cell 2
    have d3 := K1.k1.cell 3
    have f0 := K1.k2.cell 0
    have f1 := K1.k2.cell 1
    have f2 := K1.k2.cell 2
    have f3 := K1.k2.cell 3
    simp at c0 d0 d1 d2 d3 f0 f1 f2 f3
    go_wp2_with fail
    have hbx := below_al (below_al (Below.refl w2.heap.size w2) (.cells #[.slice X zs.length cx] 24)) (.cells (accs2 b a) 26)
    have hA := all2_bad A w.heap.size c (w2.heap.size + 1) zs b a _ (Nat.le_trans K1.bel.size hbx.size) (HM.out.keep (Nat.le_refl _) (below_tr K1.bel hbx)) (Bk.new (w2.alloc (.cells #[.slice X zs.length cx] 24)) (by simp) 26 (accs2 b a)) (by omega)
    rw [HE2.out] at hA
    (with_reducible refine hA.mono ?_)
    clear hA
    rintro e w3 ⟨Y, cy, R', m', d', rfl, hb⟩
    have hbl := below_tr (below_tr K1.bel hbx) hb
    clear c0 d0 d1 d2 d3 f0 f1 f2 f3 hb hbx K1 l0 l1 l2
    go_wp2
    go_ret
    exact ⟨rfl, below_al hbl _⟩
end Go.Proofs.Ytdajnmmjmfhihaa
