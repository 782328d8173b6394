/- The walk of MemTells. -/
import Derived.Test.YtdajnmmjmfhihaaLaw02S
namespace Go.Proofs.Ytdajnmmjmfhihaa
open Go.RowKit
attribute [local go_sem ↓] Go.wp_at_zero Go.wp_at_succ

structure Boxes3 (A B : Option Addr) (n m c d : Nat) (a : Acc) (w w1 : World) : Prop where
  bel : Below w.heap.size w w1
  k0 : Bk w1 w.heap.size 24 #[.slice A n c]
  k1 : Bk w1 (w.heap.size + 1) 24 #[.slice B m d]
  k2 : Bk w1 (w.heap.size + 1 + 1) 26 #[.int .i64 a.kind, .int .i64 a.cell, .int .i64 a.old, .int .i64 a.new]
theorem boxes3 (A B : Option Addr) (n m c d : Nat) (a : Acc) (w : World) : Boxes3 A B n m c d a w (((w.alloc (.cells #[.slice A n c] 24)).alloc (.cells #[.slice B m d] 24)).alloc (.cells #[.int .i64 a.kind, .int .i64 a.cell, .int .i64 a.old, .int .i64 a.new] 26)) :=
  ⟨below_al (below_al (below_al (Below.refl w.heap.size w) _) _) _, ((Bk.made w _ _).alloc _).alloc _, (Bk.new _ (by simp) _ _).alloc _, Bk.new _ (by simp) _ _⟩
theorem Boxes3.keep {A B : Option Addr} {n m c d : Nat} {a : Acc} {w w1 w2 : World} (h : Boxes3 A B n m c d a w w1) (hb : Below w1.heap.size w1 w2) : Boxes3 A B n m c d a w w2 :=
  ⟨below_tr h.bel hb, h.k0.keep hb, h.k1.keep hb, h.k2.keep hb⟩

set_option maxRecDepth 100000 in
set_option maxHeartbeats 8000000 in
theorem tells_any (A B : Option Addr) (c d : Nat) (zs ys : List Int) (a : Acc) (w : World) (h : Sl w w.heap.size A zs.length (ints zs)) (h' : Sl w w.heap.size B ys.length (ints ys)) :
    Calls Try.prog 3 #[memV A zs.length c, memV B ys.length d, accV a] w (BoolBelow true w) := by
  by_cases h1 : 200 < zs.length
  · go_enter Try.func3, Try.ntmps3
    go_wp2_with (go_at_call 10; refine (shown_any _).mono ?_; rintro e w1 ⟨rfl, hb⟩; have K := (boxes3 A B zs.length ys.length c d a w).keep hb; have c0 := K.k0.cell 0; have c1 := K.k1.cell 0; simp at c0 c1; clear hb)
    go_ret
    exact ⟨rfl, K.bel⟩
  · by_cases h2 : 200 < ys.length
    · go_enter Try.func3, Try.ntmps3
      go_wp2_with (go_at_call 10; refine (shown_any _).mono ?_; rintro e w1 ⟨rfl, hb⟩; have K := (boxes3 A B zs.length ys.length c d a w).keep hb; have c0 := K.k0.cell 0; have c1 := K.k1.cell 0; simp at c0 c1; clear hb)
      go_ret
      exact ⟨rfl, K.bel⟩
    · have HM := Lib.hid (MemAt.of_sl (c := c) h)
      have HS2 := Lib.hid h'
      clear h h'
      go_enter Try.func3, Try.ntmps3
      go_wp2_with fail
      refine (shown_any _).mono ?_
      rintro e w1 ⟨rfl, hb⟩
      have K := (boxes3 A B zs.length ys.length c d a w).keep hb
      clear hb
      have c0 := K.k0.cell 0
      have c1 := K.k1.cell 0
      have d0 := K.k2.cell 0
      have d1 := K.k2.cell 1
      have d2 := K.k2.cell 2
      have d3 := K.k2.cell 3
      simp at c0 c1 d0 d1 d2 d3
      go_wp2_with fail
      (with_reducible refine (do_any A w.heap.size c zs a _ K.bel.size (HM.out.keep (Nat.le_refl _) K.bel) (by omega)).mono ?_)
      rintro e w2 ⟨X, cx, rfl, hMx, hb⟩
      have hs := Nat.le_trans K.bel.size hb.size
      have K1 := K.keep hb
      clear c0 c1 d0 d1 d2 d3 K
      have l0 := K1.k0.lt
      have l1 := K1.k1.lt
      have l2 := K1.k2.lt
      have c0 := K1.k0.cell 0
      have d0 := K1.k2.cell 0
      have d1 := K1.k2.cell 1
      have d2 := K1.k2.cell 2
      have d3 := K1.k2.cell 3
      simp at c0 d0 d1 d2 d3
      go_wp2_with fail
      have K2 := K1.keep (below_al (below_al (Below.refl _ _) (.cells #[.slice X zs.length cx] 24)) (.cells #[.int .i64 (a.valOut zs), .bool (a.okOut zs)] 29))
      have kx := (Bk.made w2 24 #[.slice X zs.length cx]).alloc (.cells #[.int .i64 (a.valOut zs), .bool (a.okOut zs)] 29)
      have kr := Bk.new (w2.alloc (.cells #[.slice X zs.length cx] 24)) (g := w2.heap.size + 1) (by simp) 29 #[.int .i64 (a.valOut zs), .bool (a.okOut zs)]
      have hMx2 := (hMx.al hs (.cells #[.slice X zs.length cx] 24)).al (by simp; omega) (.cells #[.int .i64 (a.valOut zs), .bool (a.okOut zs)] 29)
      clear K1 hb c0 d0 d1 d2 d3 hMx l0 l1 l2 hs
      generalize (w2.alloc (.cells #[.slice X zs.length cx] 24)).alloc (.cells #[.int .i64 (a.valOut zs), .bool (a.okOut zs)] 29) = w3 at *
      (with_reducible refine (rdo_any A w.heap.size c zs a _ K2.bel.size (HM.out.keep (Nat.le_refl _) K2.bel) (by omega)).mono ?_)
      rintro e w4 ⟨Y, cy, rfl, hMy, hb⟩
      have hs := Nat.le_trans K2.bel.size hb.size
      have K3 := K2.keep hb
      have hMx3 := hMx2.keep K2.bel.size hb
      replace kx := kx.keep hb
      replace kr := kr.keep hb
      clear K2 hMx2 hb
      go_upto_region 6 with fail
      have K4 := K3.keep (below_al (below_al (Below.refl _ _) (.cells #[.slice Y zs.length cy] 24)) (.cells #[.int .i64 (a.valOut zs), .bool (a.okOut zs)] 29))
      have ky := (Bk.made w4 24 #[.slice Y zs.length cy]).alloc (.cells #[.int .i64 (a.valOut zs), .bool (a.okOut zs)] 29)
      have ks := Bk.new (w4.alloc (.cells #[.slice Y zs.length cy] 24)) (g := w4.heap.size + 1) (by simp) 29 #[.int .i64 (a.valOut zs), .bool (a.okOut zs)]
      have hMy2 := (hMy.al hs (.cells #[.slice Y zs.length cy] 24)).al (by simp; omega) (.cells #[.int .i64 (a.valOut zs), .bool (a.okOut zs)] 29)
      have hMx4 := (hMx3.al hs (.cells #[.slice Y zs.length cy] 24)).al (by simp; omega) (.cells #[.int .i64 (a.valOut zs), .bool (a.okOut zs)] 29)
      replace kx := (kx.alloc (.cells #[.slice Y zs.length cy] 24)).alloc (.cells #[.int .i64 (a.valOut zs), .bool (a.okOut zs)] 29)
      replace kr := (kr.alloc (.cells #[.slice Y zs.length cy] 24)).alloc (.cells #[.int .i64 (a.valOut zs), .bool (a.okOut zs)] 29)
      clear hMy hMx3 K3 hs
      generalize (w4.alloc (.cells #[.slice Y zs.length cy] 24)).alloc (.cells #[.int .i64 (a.valOut zs), .bool (a.okOut zs)] 29) = w5 at *
      have hz : (zs : List Int).length ≤ 1000000 := by omega
      have hy : (ys : List Int).length ≤ 1000000 := by omega
      have N1 : Hid (∀ w' : World, Below w5.heap.size w5 w' → Calls Try.prog 15 #[.agg #[.slice A zs.length c], .agg #[.slice B ys.length d]] w' (BoolBelow (decide (zs = ys)) w')) := fun w' hb =>
        same_any A B c d zs ys w' ((HM.out.keep (Nat.le_refl _) (below_tr K4.bel hb)).sl (below_tr K4.bel hb).size) (HS2.out.keepb (below_tr K4.bel hb)) hz hy
      have N2 : Hid (∀ w' : World, Below w5.heap.size w5 w' → Calls Try.prog 16 #[.agg #[.slice A zs.length c], .agg #[.slice B ys.length d]] w' (BoolBelow (decide (zs = ys)) w')) := fun w' hb =>
        rsame_any A B c d zs ys w' ((HM.out.keep (Nat.le_refl _) (below_tr K4.bel hb)).sl (below_tr K4.bel hb).size) (HS2.out.keepb (below_tr K4.bel hb)) hz hy
      have N3 : Hid (∀ w' : World, Below w5.heap.size w5 w' → Calls Try.prog 16 #[.agg #[.slice X zs.length cx], .agg #[.slice Y zs.length cy]] w' (BoolBelow true w')) := fun w' hb => by
        have hl := Acc.cellsOut_length a zs
        have := rsame_any X Y cx cy (a.cellsOut zs) (a.cellsOut zs) w' (by rw [hl]; exact (hMx4.keep K4.bel.size hb).sl (Nat.le_trans K4.bel.size hb.size)) (by rw [hl]; exact (hMy2.keep K4.bel.size hb).sl (Nat.le_trans K4.bel.size hb.size)) (by rw [hl]; exact hz) (by rw [hl]; exact hz)
        rw [hl] at this
        simpa using this
      have N0 := Below.refl w5.heap.size w5
      have HS : Hid (∀ w' : World, Below w5.heap.size w5 w' → (Below w5.heap.size w5 w' ∧ w'.cell? ⟨w.heap.size, 0, none⟩ = some (.slice A zs.length c) ∧ w'.cell? ⟨w.heap.size + 1, 0, none⟩ = some (.slice B ys.length d) ∧ w'.cell? ⟨w.heap.size + 1 + 1, 0, none⟩ = some (.int .i64 a.kind) ∧ w'.cell? ⟨w.heap.size + 1 + 1, 1, none⟩ = some (.int .i64 a.cell) ∧ w'.cell? ⟨w.heap.size + 1 + 1, 2, none⟩ = some (.int .i64 a.old) ∧ w'.cell? ⟨w.heap.size + 1 + 1, 3, none⟩ = some (.int .i64 a.new)
          ∧ w'.cell? ⟨w2.heap.size, 0, none⟩ = some (.slice X zs.length cx) ∧ w'.cell? ⟨w2.heap.size + 1, 0, none⟩ = some (.int .i64 (a.valOut zs)) ∧ w'.cell? ⟨w2.heap.size + 1, 1, none⟩ = some (.bool (a.okOut zs)) ∧ w'.cell? ⟨w4.heap.size, 0, none⟩ = some (.slice Y zs.length cy) ∧ w'.cell? ⟨w4.heap.size + 1, 0, none⟩ = some (.int .i64 (a.valOut zs)) ∧ w'.cell? ⟨w4.heap.size + 1, 1, none⟩ = some (.bool (a.okOut zs)))) := by
        intro w' hb
        have K5 := K4.keep hb
        exact ⟨hb, K5.k0.cell 0, K5.k1.cell 0, K5.k2.cell 0, K5.k2.cell 1, K5.k2.cell 2, K5.k2.cell 3, (kx.keep hb).cell 0, (kr.keep hb).cell 0, (kr.keep hb).cell 1, (ky.keep hb).cell 0, (ks.keep hb).cell 0, (ks.keep hb).cell 1⟩
      have HBL := Lib.hid K4.bel
      clear K4 kx kr ky ks hMy2 hMx4
      go_region_held3 (fun w' => Below w5.heap.size w5 w' ∧ w'.cell? ⟨w.heap.size, 0, none⟩ = some (.slice A zs.length c) ∧ w'.cell? ⟨w.heap.size + 1, 0, none⟩ = some (.slice B ys.length d) ∧ w'.cell? ⟨w.heap.size + 1 + 1, 0, none⟩ = some (.int .i64 a.kind) ∧ w'.cell? ⟨w.heap.size + 1 + 1, 1, none⟩ = some (.int .i64 a.cell) ∧ w'.cell? ⟨w.heap.size + 1 + 1, 2, none⟩ = some (.int .i64 a.old) ∧ w'.cell? ⟨w.heap.size + 1 + 1, 3, none⟩ = some (.int .i64 a.new)
          ∧ w'.cell? ⟨w2.heap.size, 0, none⟩ = some (.slice X zs.length cx) ∧ w'.cell? ⟨w2.heap.size + 1, 0, none⟩ = some (.int .i64 (a.valOut zs)) ∧ w'.cell? ⟨w2.heap.size + 1, 1, none⟩ = some (.bool (a.okOut zs)) ∧ w'.cell? ⟨w4.heap.size, 0, none⟩ = some (.slice Y zs.length cy) ∧ w'.cell? ⟨w4.heap.size + 1, 0, none⟩ = some (.int .i64 (a.valOut zs)) ∧ w'.cell? ⟨w4.heap.size + 1, 1, none⟩ = some (.bool (a.okOut zs)))
        ((refine HS.out _ ?_; first | exact hbc | exact N0.drew))
        (first
          | (go_at_call 13; refine (right_any a _).mono ?_; rintro e w6 ⟨rfl, hb⟩; have hbc := below_tr (‹Below w5.heap.size w5 _ ∧ _›.1) hb)
          | (go_at_call 14; refine (rright_any a _).mono ?_; rintro e w6 ⟨rfl, hb⟩; have hbc := below_tr (‹Below w5.heap.size w5 _ ∧ _›.1) hb)
          | (go_at_call 15; refine (N1.out _ (‹Below w5.heap.size w5 _ ∧ _›.1)).mono ?_; rintro e w6 ⟨rfl, hb⟩; have hbc := below_tr (‹Below w5.heap.size w5 _ ∧ _›.1) hb)
          | (go_at_call 16; first | (with_reducible refine (N2.out _ (‹Below w5.heap.size w5 _ ∧ _›.1)).mono ?_) | (with_reducible refine (N3.out _ (‹Below w5.heap.size w5 _ ∧ _›.1)).mono ?_)); (rintro e w6 ⟨rfl, hb⟩; have hbc := below_tr (‹Below w5.heap.size w5 _ ∧ _›.1) hb))
      go_wp2
      go_ret
      rename_i hh
      exact ⟨rfl, below_tr HBL.out hh.1⟩
end Go.Proofs.Ytdajnmmjmfhihaa
