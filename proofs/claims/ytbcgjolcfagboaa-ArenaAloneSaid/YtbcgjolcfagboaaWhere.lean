/- law15.where: a play's layout. -/
import Derived.Test.YtbcgjolcfagboaaLayN
namespace Go.Proofs.Ytbcgjolcfagboaa
open Go.RowKit
attribute [local go_sem ↓] Go.wp_at_zero Go.wp_at_succ

abbrev playC (t : Int) (W : Option Addr) (n c : Nat) (T : Option Addr) (m d : Nat) : Array Value := #[.int .u8 t, .slice W n c, .slice T m d]
def playCf (n : Nat) (t : Int) : Cf := ⟨n, 1 + t % 6, 1, 1, 1, 0, 0, 0, 0⟩
def playL (n : Nat) (t : Int) : Ly := lyOf (playCf n t)
theorem playCf_can (n : Nat) (t : Int) (h1 : 1 ≤ n) (h2 : n ≤ 8) : (playCf n t).can := by
  have m0 : 0 ≤ t % 6 := Int.emod_nonneg _ (by omega)
  have m1 : t % 6 < 6 := Int.emod_lt_of_pos _ (by omega)
  refine ⟨⟨fun j hj => ?_, rfl⟩, by simp [playCf]; omega, by simp [playCf]; omega⟩
  have hc : j = 0 ∨ j = 1 ∨ j = 2 ∨ j = 3 ∨ j = 4 ∨ j = 5 ∨ j = 6 ∨ j = 7 := by omega
  rcases hc with rfl | rfl | rfl | rfl | rfl | rfl | rfl | rfl <;> simp [Cf.rowOk, playCf] <;> omega
def LyBelow (l : Ly) (w : World) (e : Ending) (w' : World) : Prop := e = .returned (lyV l) ∧ Below w.heap.size w w'
set_option maxRecDepth 100000 in
set_option maxHeartbeats 4000000 in
theorem where_any (t : Int) (W : Option Addr) (n c : Nat) (T : Option Addr) (m d : Nat) (w : World) (t0 : 0 ≤ t) (t1 : t < 256) (h1 : 1 ≤ n) (h2 : n ≤ 8) : Calls Try.prog 9 #[.agg (playC t W n c T m d)] w (LyBelow (playL n t) w) := by
  have m0 : 0 ≤ t % 6 := Int.emod_nonneg _ (by omega)
  have m1 : t % 6 < 6 := Int.emod_lt_of_pos _ (by omega)
  have hc : Cf.can ⟨n, 1 + t % 6, 1, 1, 1, 0, 0, 0, 0⟩ := playCf_can n t h1 h2
  have HC := Lib.hid hc
  clear hc
  go_enter Try.func9, Try.ntmps9
  go_wp2_with fail
  (with_reducible refine (of_ok ⟨n, 1 + t % 6, 1, 1, 1, 0, 0, 0, 0⟩ _ HC.out).mono ?_)
  rintro e w1 ⟨rfl, hb1⟩
  have k0 := (Bk.new (w.alloc (.cells (playC t W n c T m d) 25)) (g := w.heap.size + 1) (by simp) 31 (lyC zeroLy)).keep hb1
  have hbl := below_tr (below_al (below_al (Below.refl w.heap.size w) (.cells (playC t W n c T m d) 25)) (.cells (lyC zeroLy) 31)) hb1
  have hg := k0.lt
  clear hb1
  have hwl : lyOf ⟨n, 1 + t % 6, 1, 1, 1, 0, 0, 0, 0⟩ = playL n t := rfl
  rw [hwl]
  clear hwl HC
  generalize playL n t = l at *
  have k1 := k0.alloc (.cells (lyC l) 31)
  have hne : ¬ w1.heap.size = w.heap.size + 1 := by omega
  go_wp2_with (first
    | (refine wpList_store_new rfl 31 (.tmp 3) (.tmp 16) rfl rfl w1.heap.size _ _ (lyC l) rfl rfl rfl rfl (by kernel_rfl) rfl (by simp [Value.oneCell']) ?_)
    | (refine wpList_load_row rfl 31 (.tmp 3) rfl w1.heap.size rfl 31 (lyC l) (0, 0) _ (Bk.made w1 _ _) Try.underlying31 rfl (by kernel_rfl) ?_)
    | (refine wpList_store_rowTo rfl 31 (.tmp 2) (.tmp 18) rfl rfl (w.heap.size + 1) (lyC l) rfl rfl 31 (lyC zeroLy) k1 (by kernel_rfl) rfl (by simp [Value.oneCell']) ?_))
  exact bodyPost_ret (v := lyV l) (results_cell_row (p := 2) (ty := 31) rfl _ _ (w.heap.size + 1) 31 (lyC l) (0, 0) _ rfl (setRow_heap _ _ _ _ _ _ k1) Try.underlying31 rfl (by kernel_rfl)) rfl ⟨rfl, below_setRow (below_al hbl _) (by omega) _⟩
end Go.Proofs.Ytbcgjolcfagboaa
