/- layout.Of where there may be no layout. -/
import Derived.Test.YthaieabhlodajaaLayC
namespace Go.Proofs.Ythaieabhlodajaa
open Go.RowKit
attribute [local go_sem ↓] Go.wp_at_zero Go.wp_at_succ

set_option maxRecDepth 100000 in
set_option maxHeartbeats 8000000 in
theorem of_bad (c : Cf) (w : World) (hc : ¬ c.can) : Calls Try.prog 13 #[cfV c] w (OfPost zeroLy 1 w) := by
  have hcase : ¬ c.may ∨ (c.may ∧ c.nodes < c.maps + c.chans) ∨ (c.may ∧ ¬ c.nodes < c.maps + c.chans ∧ 1000 < c.nodes) := by
    by_cases h : c.may
    · right
      by_cases h1 : c.nodes < c.maps + c.chans
      · exact .inl ⟨h, h1⟩
      · exact .inr ⟨h, h1, by
          by_cases h2 : 1000 < c.nodes
          · exact h2
          · exact absurd ⟨h, by omega, by omega⟩ hc⟩
    · exact .inl h
  clear hc
  rcases hcase with hm | ⟨hm, h1⟩ | ⟨hm, h1, h2⟩
  · have HM := Lib.hid hm
    clear hm
    go_enter Try.func13, Try.ntmps13
    go_wp2_with fail
    (with_reducible refine (bounded_any c _).mono ?_)
    rintro e w1 ⟨bb, rfl, hbb, hb⟩
    obtain rfl : bb = false := by
      cases bb
      · rfl
      · exact absurd (hbb.1 rfl) HM.out
    clear hbb
    have k1 := (Bk.new (w.alloc (.cells (cfC c) 23)) (g := w.heap.size + 1) (by simp) 26 (lyC zeroLy)).keep hb
    have hbl := below_tr (below_al (below_al (Below.refl w.heap.size w) (.cells (cfC c) 23)) (.cells (lyC zeroLy) 26)) hb
    clear hb
    go_wp2_with (refine wpList_store_rowTo rfl 26 (.tmp 2) (.tmp 25) rfl rfl (w.heap.size + 1) (lyC zeroLy) rfl rfl 26 (lyC zeroLy) k1 (by kernel_rfl) rfl (by simp [Value.oneCell']) ?_)
    exact bodyPost_ret (v := .tuple #[lyV zeroLy, .int .i64 1]) (results_cell_tmp (p := 2) (t := 3) (ty := 26) rfl _ _ (w.heap.size + 1) 26 (lyC zeroLy) (0, 0) _ _ rfl rfl (setRow_heap _ _ _ _ _ _ k1) Try.underlying26 rfl (by kernel_rfl)) rfl ⟨rfl, below_setRow hbl (by omega) _⟩
  all_goals
    have r5 : 0 ≤ c.maps ∧ c.maps ≤ 8 := hm.1 5 (by omega)
    have r7 : 0 ≤ c.chans ∧ c.chans ≤ 8 := hm.1 7 (by omega)
    have HM := Lib.hid hm
    clear hm
    first
    | (have d1 : decide (c.nodes < c.maps + c.chans) = false := by simp; omega)
    | (have d1 : decide (c.nodes < c.maps + c.chans) = true := by simp; omega)
    (try have d2 : decide (1000 < c.nodes) = true := by simp; omega)
    go_enter Try.func13, Try.ntmps13
    go_wp2_with fail
    (with_reducible refine (bounded_any c _).mono ?_)
    rintro e w1 ⟨bb, rfl, hbb, hb⟩
    obtain rfl : bb = true := hbb.2 HM.out
    clear hbb
    have k0 := ((Bk.made w 23 (cfC c)).alloc (.cells (lyC zeroLy) 26)).keep hb
    have k1 := (Bk.new (w.alloc (.cells (cfC c) 23)) (g := w.heap.size + 1) (by simp) 26 (lyC zeroLy)).keep hb
    have hbl := below_tr (below_al (below_al (Below.refl w.heap.size w) (.cells (cfC c) 23)) (.cells (lyC zeroLy) 26)) hb
    have q1 := k0.cell 1
    have q6 := k0.cell 6
    have q8 := k0.cell 8
    simp at q1 q6 q8
    clear hb k0
    go_wp2_with (refine wpList_store_rowTo rfl 26 (.tmp 2) (.tmp 25) rfl rfl (w.heap.size + 1) (lyC zeroLy) rfl rfl 26 (lyC zeroLy) k1 (by kernel_rfl) rfl (by simp [Value.oneCell']) ?_)
    exact bodyPost_ret (v := .tuple #[lyV zeroLy, .int .i64 1]) (results_cell_tmp (p := 2) (t := 3) (ty := 26) rfl _ _ (w.heap.size + 1) 26 (lyC zeroLy) (0, 0) _ _ rfl rfl (setRow_heap _ _ _ _ _ _ k1) Try.underlying26 rfl (by kernel_rfl)) rfl ⟨rfl, below_setRow hbl (by omega) _⟩
end Go.Proofs.Ythaieabhlodajaa
