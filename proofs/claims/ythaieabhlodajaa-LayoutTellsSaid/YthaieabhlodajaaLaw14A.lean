/- The walk of LayoutMore. -/
import Derived.Test.YthaieabhlodajaaShown14
import Derived.Deep.Cut
namespace Go.Proofs.Ythaieabhlodajaa
open Go.RowKit
attribute [local go_sem ↓] Go.wp_at_zero Go.wp_at_succ

/-- Of in one form. -/
def OfAny (c : Cf) (w : World) (e : Ending) (w' : World) : Prop :=
  ∃ L er, e = .returned (.tuple #[lyV L, .int .i64 er]) ∧ (c.can ∧ L = lyOf c ∧ er = 0 ∨ ¬ c.can ∧ L = zeroLy ∧ er = 1) ∧ Below w.heap.size w w'
theorem of_any (c : Cf) (w : World) : Calls Try.prog 13 #[cfV c] w (OfAny c w) := by
  by_cases h : c.can
  · exact (of_ok c w h).mono fun e w' ⟨he, hb⟩ => ⟨_, _, he, .inl ⟨h, rfl, rfl⟩, hb⟩
  · exact (of_bad c w h).mono fun e w' ⟨he, hb⟩ => ⟨_, _, he, .inr ⟨h, rfl, rfl⟩, hb⟩
theorem more1 (c : Cf) : (lyOf { c with nodes := c.nodes + 1 }).node = (lyOf c).node ∧ (lyOf { c with nodes := c.nodes + 1 }).size = (lyOf c).size + 8 := by
  refine ⟨rfl, ?_⟩
  simp only [lyOf]
  omega
theorem more2 (c : Cf) : (lyOf { c with stacks := c.stacks + 1 }).stack = (lyOf c).stack ∧ (lyOf { c with stacks := c.stacks + 1 }).map = (lyOf c).map ∧ (lyOf { c with stacks := c.stacks + 1 }).chan = (lyOf c).chan + 1 + c.slots ∧ (lyOf { c with stacks := c.stacks + 1 }).size = (lyOf c).size + 1 + c.slots := by
  refine ⟨rfl, rfl, ?_, ?_⟩ <;> simp only [lyOf] <;> rw [Int.add_mul] <;> omega
theorem more3 (c : Cf) : (lyOf { c with cells := c.cells + 1 }).cell = (lyOf c).cell ∧ (lyOf { c with cells := c.cells + 1 }).map = (lyOf c).map + 1 ∧ (lyOf { c with cells := c.cells + 1 }).size = (lyOf c).size + 1 := by
  refine ⟨rfl, ?_, ?_⟩ <;> simp only [lyOf] <;> omega

set_option maxRecDepth 100000 in
set_option maxHeartbeats 16000000 in
theorem more_any (c : Cf) (w : World) : Calls Try.prog 5 #[cfV c] w (BoolBelow true w) := by
  go_enter Try.func5, Try.ntmps5
  go_wp2_with fail
  (with_reducible refine (shown_any _).mono ?_)
  rintro e w1 ⟨rfl, hb⟩
  have k1 := (Bk.made w 23 (cfC c)).keep hb
  have hbl := below_tr (below_al (Below.refl w.heap.size w) (.cells (cfC c) 23)) hb
  clear hb
  go_wp2_with (refine wpList_load_row rfl 23 (.tmp 1) rfl w.heap.size rfl 23 (cfC c) (0, 0) _ k1 Try.underlying23 rfl (by kernel_rfl) ?_)
  (with_reducible refine (of_any c _).mono ?_)
  rintro e w2 ⟨L, er, rfl, hcase, hb⟩
  replace k1 := k1.keep hb
  replace hbl := below_tr hbl hb
  clear hb
  have k4 := Bk.made w2 26 (lyC L)
  replace k1 := k1.alloc (.cells (lyC L) 26)
  replace hbl := below_al hbl (.cells (lyC L) 26)
  have lt2 := k1.lt
  rcases hcase with ⟨hcan, hL, rfl⟩ | ⟨hcan, hL, rfl⟩
  rotate_left
  · have HL := Lib.hid hL
    clear hL
    go_wp2_with (refine wpList_store_new rfl 26 (.tmp 4) (.tmp 13) rfl rfl w2.heap.size _ _ (lyC L) rfl rfl rfl rfl (by kernel_rfl) rfl (by simp [Value.oneCell']) ?_)
    go_ret
    exact ⟨rfl, hbl⟩
  · have r4 : 0 ≤ c.cells ∧ c.cells ≤ 16 := hcan.1.1 4 (by omega)
    have r6 : 0 ≤ c.stacks ∧ c.stacks ≤ 8 := hcan.1.1 6 (by omega)
    have r2 : 1 ≤ c.slots ∧ c.slots ≤ 8 := hcan.1.1 2 (by omega)
    have rn : c.maps + c.chans ≤ c.nodes ∧ c.nodes ≤ 1000 := hcan.2
    have r5 : 0 ≤ c.maps ∧ c.maps ≤ 8 := hcan.1.1 5 (by omega)
    have r7 : 0 ≤ c.chans ∧ c.chans ≤ 8 := hcan.1.1 7 (by omega)
    have hbd := (lyOk_of c hcan).b0
    rw [← hL] at hbd
    have HL := Lib.hid hL
    clear hcan hL
    have q1 := k1.cell 1
    simp at q1
    have h23 : w2.heap.size < (w2.alloc (.cells (lyC L) 26)).heap.size := by simp
    go_wp2_with (first
      | (refine wpList_store_new rfl 26 (.tmp 4) (.tmp 13) rfl rfl w2.heap.size _ _ (lyC L) rfl rfl rfl rfl (by kernel_rfl) rfl (by simp [Value.oneCell']) ?_; (generalize w2.alloc (.cells (lyC L) 26) = w3 at *))
      | (refine wpList_load_row rfl 23 (.tmp 1) rfl w.heap.size rfl 23 (cfC c) (0, 0) _ k1 Try.underlying23 rfl (by kernel_rfl) ?_)
      | (refine wpList_store_new rfl 23 (.tmp 6) (.tmp 18) rfl rfl w3.heap.size _ _ (cfC c) rfl rfl rfl rfl (by kernel_rfl) rfl (by simp [Value.oneCell']) ?_)
      | (refine wpList_load_row rfl 23 (.tmp 6) rfl w3.heap.size rfl 23 _ (0, 0) _ (Bk.made w3 _ _) Try.underlying23 rfl (by kernel_rfl) ?_))
    have k6 := Bk.made w3 23 (cfC ⟨c.seats, c.nodes + 1, c.buckets, c.slots, c.tasks, c.cells, c.maps, c.stacks, c.chans⟩)
    replace k1 := k1.alloc (.cells (cfC ⟨c.seats, c.nodes + 1, c.buckets, c.slots, c.tasks, c.cells, c.maps, c.stacks, c.chans⟩) 23)
    replace k4 := k4.alloc (.cells (cfC ⟨c.seats, c.nodes + 1, c.buckets, c.slots, c.tasks, c.cells, c.maps, c.stacks, c.chans⟩) 23)
    replace hbl := below_al hbl (.cells (cfC ⟨c.seats, c.nodes + 1, c.buckets, c.slots, c.tasks, c.cells, c.maps, c.stacks, c.chans⟩) 23)
    have ne46 : w2.heap.size ≠ w3.heap.size := by omega
    clear q1
    (with_reducible refine (of_any ⟨c.seats, c.nodes + 1, c.buckets, c.slots, c.tasks, c.cells, c.maps, c.stacks, c.chans⟩ _).mono ?_)
    rintro e w4 ⟨M, er, rfl, hcase, hb⟩
    replace k1 := k1.keep hb
    replace k4 := k4.keep hb
    replace k6 := k6.keep hb
    replace hbl := below_tr hbl hb
    have h34 : w3.heap.size < w4.heap.size := k6.lt
    clear hb
    have k7 := Bk.made w4 26 (lyC M)
    replace k1 := k1.alloc (.cells (lyC M) 26)
    replace k4 := k4.alloc (.cells (lyC M) 26)
    replace k6 := k6.alloc (.cells (lyC M) 26)
    replace hbl := below_al hbl (.cells (lyC M) 26)
    have l3 := k6.lt
    have l4 := k7.lt
    have hm1 := more1 c
    have HM : Hid (M = M) := Lib.hid rfl
    rcases hcase with ⟨hcn, hM, rfl⟩ | ⟨hcn, hM, rfl⟩
    all_goals
      (try (have g1 : (M.node != L.node) = false := by rw [hM, HL.out, hm1.1]; simp))
      (try (have g2 : (M.size != L.size + 8) = false := by rw [hM, HL.out, hm1.2]; simp))
      clear hm1 hM HM hcn
      go_upto_region 8 with (refine wpList_store_new rfl 26 (.tmp 7) (.tmp 26) rfl rfl w4.heap.size _ _ (lyC M) rfl rfl rfl rfl (by kernel_rfl) rfl (by simp [Value.oneCell']) ?_; (generalize w4.alloc (.cells (lyC M) 26) = w5 at *))
      have p23 := k4.cell 23
      have m23 := k7.cell 23
      have p24 := k4.cell 24
      have m24 := k7.cell 24
      simp at p23 m23 p24 m24
      go_upto_region 10 with fail
      clear p23 m23 p24 m24
      (try clear g1)
      (try clear g2)
      have q7 := k1.cell 7
      simp at q7
      have kk6 := setRow_heap _ _ _ (cfC c) _ _ k6
      have HB6 := Lib.hid (below_setRow hbl (g := w3.heap.size) (by omega) (cfC c))
      have kk1 : Bk (w5.setRow w3.heap.size (cfC c)) w.heap.size 23 (cfC c) := (setRow_other w5 w3.heap.size w.heap.size (cfC c) (by omega)).trans k1
      have kk4 : Bk (w5.setRow w3.heap.size (cfC c)) w2.heap.size 26 (lyC L) := (setRow_other w5 w3.heap.size w2.heap.size (cfC c) (by omega)).trans k4
      have kk7 : Bk (w5.setRow w3.heap.size (cfC c)) w4.heap.size 26 (lyC M) := (setRow_other w5 w3.heap.size w4.heap.size (cfC c) (by omega)).trans k7
      replace kk6 : Bk (w5.setRow w3.heap.size (cfC c)) w3.heap.size 23 (cfC c) := kk6
      go_upto_region 11 with (first
        | (refine wpList_load_row rfl 23 (.tmp 1) rfl w.heap.size rfl 23 (cfC c) (0, 0) _ k1 Try.underlying23 rfl (by kernel_rfl) ?_)
        | (refine wpList_store_rowTo rfl 23 (.tmp 6) (.tmp 45) rfl rfl w3.heap.size (cfC c) rfl rfl 23 _ k6 (by kernel_rfl) rfl (by simp [Value.oneCell']) ?_; (generalize w5.setRow w3.heap.size (cfC c) = w6 at *)))
      clear k1 k4 k6 k7 hbl q7
      have q7 := kk1.cell 7
      have t7 := kk6.cell 7
      have f7 := kk6.free 7
      simp at q7 t7
      have HB7 := Lib.hid (below_set HB6.out (p := ⟨w3.heap.size, 7, none⟩) (by simp; omega) (.int .i64 (c.stacks + 1)))
      have k1 := kk1.other (p := ⟨w3.heap.size, 7, none⟩) (by simp; omega) (.int .i64 (c.stacks + 1))
      have k4 := kk4.other (p := ⟨w3.heap.size, 7, none⟩) (by simp; omega) (.int .i64 (c.stacks + 1))
      have k7 := kk7.other (p := ⟨w3.heap.size, 7, none⟩) (by simp; omega) (.int .i64 (c.stacks + 1))
      have k6 := kk6.stored 7 (.int .i64 (c.stacks + 1))
      replace k6 : Bk (w6.setCell ⟨w3.heap.size, 7, none⟩ (.int .i64 (c.stacks + 1))) w3.heap.size 23 (cfC ⟨c.seats, c.nodes, c.buckets, c.slots, c.tasks, c.cells, c.maps, c.stacks + 1, c.chans⟩) := k6
      go_upto_region 12 with fail
      clear kk1 kk4 kk6 kk7 q7 t7 f7
      generalize w6.setCell ⟨w3.heap.size, 7, none⟩ (.int .i64 (c.stacks + 1)) = w7 at *
      go_wp2_with (refine wpList_load_row rfl 23 (.tmp 6) rfl w3.heap.size rfl 23 _ (0, 0) _ k6 Try.underlying23 rfl (by kernel_rfl) ?_)
      (with_reducible refine (of_any ⟨c.seats, c.nodes, c.buckets, c.slots, c.tasks, c.cells, c.maps, c.stacks + 1, c.chans⟩ _).mono ?_)
      rintro e w8 ⟨M2, er, rfl, hcase, hb⟩
      replace k1 := k1.keep hb
      replace k4 := k4.keep hb
      replace k6 := k6.keep hb
      replace k7 := k7.keep hb
      have hbl := below_setRow (below_tr HB7.out hb) (g := w4.heap.size) (by omega) (lyC M2)
      have kk1 : Bk (w8.setRow w4.heap.size (lyC M2)) w.heap.size 23 (cfC c) := (setRow_other w8 w4.heap.size w.heap.size (lyC M2) (by omega)).trans k1
      have kk4 : Bk (w8.setRow w4.heap.size (lyC M2)) w2.heap.size 26 (lyC L) := (setRow_other w8 w4.heap.size w2.heap.size (lyC M2) (by omega)).trans k4
      have kk6 : Bk (w8.setRow w4.heap.size (lyC M2)) w3.heap.size 23 (cfC ⟨c.seats, c.nodes, c.buckets, c.slots, c.tasks, c.cells, c.maps, c.stacks + 1, c.chans⟩) := (setRow_other w8 w4.heap.size w3.heap.size (lyC M2) (by omega)).trans k6
      have kk7 : Bk (w8.setRow w4.heap.size (lyC M2)) w4.heap.size 26 (lyC M2) := setRow_heap _ _ _ (lyC M2) _ _ k7
      clear hb HB7
      have hm2 := more2 c
      rcases hcase with ⟨hcn, hM, rfl⟩ | ⟨hcn, hM, rfl⟩
      all_goals
        (try (have g1 : (M2.stack != L.stack) = false := by rw [hM, HL.out, hm2.1]; simp))
        (try (have g2 : (M2.map != L.map) = false := by rw [hM, HL.out, hm2.2.1]; simp))
        (try (have g3 : (M2.chan != L.chan + 1 + c.slots) = false := by rw [hM, HL.out, hm2.2.2.1]; simp))
        (try (have g4 : (M2.size != L.size + 1 + c.slots) = false := by rw [hM, HL.out, hm2.2.2.2]; simp))
        clear hm2 hM hcn
        go_upto_region 13 with (refine wpList_store_rowTo rfl 26 (.tmp 7) (.tmp 53) rfl rfl w4.heap.size (lyC M2) rfl rfl 26 _ k7 (by kernel_rfl) rfl (by simp [Value.oneCell']) ?_; (generalize w8.setRow w4.heap.size (lyC M2) = w9 at *))
        clear k1 k4 k6 k7
        have k1 := kk1
        have k4 := kk4
        have k6 := kk6
        have k7 := kk7
        clear kk1 kk4 kk6 kk7
        have p20 := k4.cell 20
        have m20 := k7.cell 20
        have p21 := k4.cell 21
        have m21 := k7.cell 21
        have p22 := k4.cell 22
        have m22 := k7.cell 22
        have p24 := k4.cell 24
        have m24 := k7.cell 24
        simp at p20 m20 p21 m21 p22 m22 p24 m24
        have q3 := k1.cell 3
        simp at q3
        go_upto_region 15 with fail
        clear p20 m20 p21 m21 p22 m22 p24 m24 q3
        (try clear g1)
        (try clear g2)
        (try clear g3)
        (try clear g4)
        have HB6 := Lib.hid (below_setRow hbl (g := w3.heap.size) (by omega) (cfC c))
        have kk1 : Bk (w9.setRow w3.heap.size (cfC c)) w.heap.size 23 (cfC c) := (setRow_other w9 w3.heap.size w.heap.size (cfC c) (by omega)).trans k1
        have kk4 : Bk (w9.setRow w3.heap.size (cfC c)) w2.heap.size 26 (lyC L) := (setRow_other w9 w3.heap.size w2.heap.size (cfC c) (by omega)).trans k4
        have kk7 : Bk (w9.setRow w3.heap.size (cfC c)) w4.heap.size 26 (lyC M2) := (setRow_other w9 w3.heap.size w4.heap.size (cfC c) (by omega)).trans k7
        have kk6 : Bk (w9.setRow w3.heap.size (cfC c)) w3.heap.size 23 (cfC c) := setRow_heap _ _ _ (cfC c) _ _ k6
        go_upto_region 16 with (first
          | (refine wpList_load_row rfl 23 (.tmp 1) rfl w.heap.size rfl 23 (cfC c) (0, 0) _ k1 Try.underlying23 rfl (by kernel_rfl) ?_)
          | (refine wpList_store_rowTo rfl 23 (.tmp 6) (.tmp 93) rfl rfl w3.heap.size (cfC c) rfl rfl 23 _ k6 (by kernel_rfl) rfl (by simp [Value.oneCell']) ?_; (generalize w9.setRow w3.heap.size (cfC c) = w10 at *)))
        clear k1 k4 k6 k7 hbl
        have q5 := kk1.cell 5
        have t5 := kk6.cell 5
        have f5 := kk6.free 5
        simp at q5 t5
        have HB7 := Lib.hid (below_set HB6.out (p := ⟨w3.heap.size, 5, none⟩) (by simp; omega) (.int .i64 (c.cells + 1)))
        have k1 := kk1.other (p := ⟨w3.heap.size, 5, none⟩) (by simp; omega) (.int .i64 (c.cells + 1))
        have k4 := kk4.other (p := ⟨w3.heap.size, 5, none⟩) (by simp; omega) (.int .i64 (c.cells + 1))
        have k7 := kk7.other (p := ⟨w3.heap.size, 5, none⟩) (by simp; omega) (.int .i64 (c.cells + 1))
        have k6 := kk6.stored 5 (.int .i64 (c.cells + 1))
        replace k6 : Bk (w10.setCell ⟨w3.heap.size, 5, none⟩ (.int .i64 (c.cells + 1))) w3.heap.size 23 (cfC ⟨c.seats, c.nodes, c.buckets, c.slots, c.tasks, c.cells + 1, c.maps, c.stacks, c.chans⟩) := k6
        go_upto_region 17 with fail
        clear kk1 kk4 kk6 kk7 q5 t5 f5
        generalize w10.setCell ⟨w3.heap.size, 5, none⟩ (.int .i64 (c.cells + 1)) = w11 at *
        go_wp2_with (refine wpList_load_row rfl 23 (.tmp 6) rfl w3.heap.size rfl 23 _ (0, 0) _ k6 Try.underlying23 rfl (by kernel_rfl) ?_)
        (with_reducible refine (of_any ⟨c.seats, c.nodes, c.buckets, c.slots, c.tasks, c.cells + 1, c.maps, c.stacks, c.chans⟩ _).mono ?_)
        rintro e w12 ⟨M3, er, rfl, hcase, hb⟩
        replace k1 := k1.keep hb
        replace k4 := k4.keep hb
        replace k6 := k6.keep hb
        replace k7 := k7.keep hb
        have hbl := below_setRow (below_tr HB7.out hb) (g := w4.heap.size) (by omega) (lyC M3)
        have kk1 : Bk (w12.setRow w4.heap.size (lyC M3)) w.heap.size 23 (cfC c) := (setRow_other w12 w4.heap.size w.heap.size (lyC M3) (by omega)).trans k1
        have kk4 : Bk (w12.setRow w4.heap.size (lyC M3)) w2.heap.size 26 (lyC L) := (setRow_other w12 w4.heap.size w2.heap.size (lyC M3) (by omega)).trans k4
        have kk6 : Bk (w12.setRow w4.heap.size (lyC M3)) w3.heap.size 23 (cfC ⟨c.seats, c.nodes, c.buckets, c.slots, c.tasks, c.cells + 1, c.maps, c.stacks, c.chans⟩) := (setRow_other w12 w4.heap.size w3.heap.size (lyC M3) (by omega)).trans k6
        have kk7 : Bk (w12.setRow w4.heap.size (lyC M3)) w4.heap.size 26 (lyC M3) := setRow_heap _ _ _ (lyC M3) _ _ k7
        clear hb HB7
        have hm3 := more3 c
        rcases hcase with ⟨hcn, hM, rfl⟩ | ⟨hcn, hM, rfl⟩
        all_goals
          (try (have g1 : (M3.cell == L.cell) = true := by rw [hM, HL.out, hm3.1]; simp))
          (try (have g2 : (M3.map == L.map + 1) = true := by rw [hM, HL.out, hm3.2.1]; simp))
          (try (have g3 : (M3.size == L.size + 1) = true := by rw [hM, HL.out, hm3.2.2]; simp))
          clear hm3 hM hcn
          go_upto_region 18 with (refine wpList_store_rowTo rfl 26 (.tmp 7) (.tmp 101) rfl rfl w4.heap.size (lyC M3) rfl rfl 26 _ k7 (by kernel_rfl) rfl (by simp [Value.oneCell']) ?_; (generalize w12.setRow w4.heap.size (lyC M3) = w13 at *))
          clear k1 k4 k6 k7
          have k4 := kk4
          have k7 := kk7
          clear kk1 kk4 kk6 kk7
          have p19 := k4.cell 19
          have m19 := k7.cell 19
          have p20 := k4.cell 20
          have m20 := k7.cell 20
          have p24 := k4.cell 24
          have m24 := k7.cell 24
          simp at p19 m19 p20 m20 p24 m24
          go_wp2
          go_ret
          exact ⟨rfl, hbl⟩
end Go.Proofs.Ythaieabhlodajaa
