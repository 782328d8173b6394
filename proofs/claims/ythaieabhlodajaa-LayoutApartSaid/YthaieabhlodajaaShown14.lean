/- shown of the layout's statements. -/
import Derived.Test.YthaieabhlodajaaLayG
import Derived.Test.YthaieabhlodajaaLayH
namespace Go.Proofs.Ythaieabhlodajaa
open Go.RowKit
attribute [local go_sem ↓] Go.wp_at_zero Go.wp_at_succ

abbrev cf1 : Cf := ⟨1, 0, 1, 1, 1, 0, 0, 0, 0⟩
theorem cf1_can : cf1.can := by
  refine ⟨⟨fun j hj => ?_, rfl⟩, by decide, by decide⟩
  have hj' : j = 0 ∨ j = 1 ∨ j = 2 ∨ j = 3 ∨ j = 4 ∨ j = 5 ∨ j = 6 ∨ j = 7 := by omega
  rcases hj' with rfl | rfl | rfl | rfl | rfl | rfl | rfl | rfl <;> simp only [Cf.rowOk] <;> omega
theorem zero_not : ¬ zeroCf.can := by
  intro h
  have : (1 : Int) ≤ 0 ∧ (0 : Int) ≤ 8 := h.1.1 0 (by omega)
  omega
abbrev u1 : Us := ⟨0, none, 0, 0, 1, 0, 2, 0, 0, 0, 0, false⟩
abbrev cd1 : Cd := ⟨none, 0, 0, none, 0, 0, 1, 0, 0, 0⟩
abbrev el1 : El := ⟨0, 0, none, 0, 0, none, 0, 0, none, 0, 0, none, 0, 0, none, 0, 0, 0, 0, none, 0, 0⟩
theorem for1 : forC cd1 el1 [u1] 2 = ⟨2, 0, 1, 1, 1, 0, 1, 0, 0⟩ ∧ forN cd1 [u1] 2 = 22 := ⟨rfl, rfl⟩
theorem may1 : Cf.may ⟨2, 0, 1, 1, 1, 0, 1, 0, 0⟩ := by
  refine ⟨fun j hj => ?_, rfl⟩
  have hj' : j = 0 ∨ j = 1 ∨ j = 2 ∨ j = 3 ∨ j = 4 ∨ j = 5 ∨ j = 6 ∨ j = 7 := by omega
  rcases hj' with rfl | rfl | rfl | rfl | rfl | rfl | rfl | rfl <;> simp only [Cf.rowOk] <;> omega
theorem vals1 : (lyOf cf1).alive = 4 ∧ (lyOf cf1).owner = 5 ∧ (lyOf cf1).resv = 6 ∧ (lyOf cf1).deque = 9 ∧ (lyOf cf1).ring = 12 ∧ (lyOf cf1).task = 16 ∧ (lyOf cf1).size = 20 ∧ taskAt (lyOf cf1) 1 3 = 19 ∧ taskAt (lyOf cf1) 0 0 = -1 ∧ nodeAt (lyOf cf1) 1 0 = -1 ∧ ringsN (lyOf cf1).c.tasks = 1 := by decide
theorem slUse1 (w : World) : SlUse (w.alloc (.cells (usC u1) 45)) (w.heap.size + 1) (some ⟨w.heap.size, 0, none⟩) [u1] := by
  intro _
  refine ⟨w.heap.size, 0, rfl, by omega, fun k u hu j v hv => ?_⟩
  have hk : k = 0 := by
    have := (List.getElem?_eq_some_iff.1 hu).1
    simp at this; exact this
  subst hk
  simp at hu
  subst hu
  rw [show 0 + 0 * 10 + j = j by omega, (Bk.made w 45 (usC u1)).cell j]
  exact hv

set_option maxRecDepth 100000 in
set_option maxHeartbeats 8000000 in
theorem shown_any (w : World) : Calls Try.prog 9 #[] w (BoolBelow true w) := by
  obtain ⟨v1, v2, v3, v4, v5, v6, v7, v8, v9, v10, v11⟩ := vals1
  have hlc : (lyOf cf1).c = cf1 := rfl
  have hq : lyB (lyOf (lyOf cf1).c) (lyOf cf1) = true := (lyB_iff _ _).2 rfl
  have hcan : (lyOf cf1).c.can := cf1_can
  have hfull := lyFull_of cf1 cf1_can
  have HV := Lib.hid (And.intro v8 (And.intro v9 (And.intro v10 (And.intro v11 (And.intro hq (And.intro hcan hfull))))))
  have ht1 : 1 ≤ (lyOf cf1).c.tasks ∧ (lyOf cf1).c.tasks ≤ 64 := by rw [hlc]; decide
  have HT := Lib.hid ht1
  clear v8 v9 v10 v11 hq hcan hfull hlc ht1
  have g1 : ((lyOf cf1).alive == 4) = true := by rw [v1]; rfl
  have g2 : ((lyOf cf1).owner == 5) = true := by rw [v2]; rfl
  have g3 : ((lyOf cf1).resv == 6) = true := by rw [v3]; rfl
  have g4 : ((lyOf cf1).deque == 9) = true := by rw [v4]; rfl
  have g5 : ((lyOf cf1).ring == 12) = true := by rw [v5]; rfl
  have g6 : ((lyOf cf1).task == 16) = true := by rw [v6]; rfl
  have g7 : ((lyOf cf1).size == 20) = true := by rw [v7]; rfl
  clear v1 v2 v3 v4 v5 v6 v7
  go_enter Try.func9, Try.ntmps9
  go_wp2_with fail
  (with_reducible refine (of_ok cf1 _ cf1_can).mono ?_)
  rintro e w1 ⟨rfl, hbl⟩
  generalize lyOf cf1 = l at *
  go_wp2_with (refine wpList_store_new rfl 26 (.tmp 1) (.tmp 10) rfl rfl w1.heap.size _ _ (lyC l) rfl rfl rfl rfl (by kernel_rfl) rfl (by simp [Value.oneCell']) ?_)
  (with_reducible refine (of_bad zeroCf _ zero_not).mono ?_)
  rintro e w2 ⟨rfl, hb⟩
  have k0 := (Bk.made w1 26 (lyC l)).keep hb
  replace hbl := below_tr (below_al hbl (.cells (lyC l) 26)) hb
  clear hb
  have k0' := (k0.alloc (.cells (lyC zeroLy) 26))
  replace hbl := below_al hbl (.cells (lyC zeroLy) 26)
  clear k0
  go_wp2_with (refine wpList_store_new rfl 26 (.tmp 3) (.tmp 15) rfl rfl w2.heap.size _ _ (lyC zeroLy) rfl rfl rfl rfl (by kernel_rfl) rfl (by simp [Value.oneCell']) ?_; (generalize w2.alloc (.cells (lyC zeroLy) 26) = w3 at *))
  refine for_any cd1 el1 _ 1 [u1] 2 _ (by simpa using slUse1 w3) (by simp) (by omega) (by omega) (by simp) _ ?_ ?_ ?_
  · intro hno
    exact absurd may1 hno
  · intro _ h
    exact absurd h (by decide)
  · intro _ _ w4 hb
    rw [for1.1, for1.2]
    replace k0' := (k0'.alloc (.cells (usC u1) 45)).keep hb
    replace hbl := below_tr (below_al hbl (.cells (usC u1) 45)) hb
    clear hb
    dsimp only
    have kc := Bk.made w4 23 (cfC ⟨2, 22, 1, 1, 1, 0, 1, 0, 0⟩)
    have kl := k0'.alloc (.cells (cfC ⟨2, 22, 1, 1, 1, 0, 1, 0, 0⟩) 23)
    replace hbl := below_al hbl (.cells (cfC ⟨2, 22, 1, 1, 1, 0, 1, 0, 0⟩) 23)
    have p13 := kl.cell 13
    have p14 := kl.cell 14
    have p15 := kl.cell 15
    have p16 := kl.cell 16
    have p17 := kl.cell 17
    have p18 := kl.cell 18
    have p24 := kl.cell 24
    simp at p13 p14 p15 p16 p17 p18 p24
    have lt4 := k0'.lt
    clear k0'
    go_wp2_with (first
      | (refine wpList_store_new rfl 23 (.tmp 5) (.tmp 24) rfl rfl w4.heap.size _ _ (cfC ⟨2, 22, 1, 1, 1, 0, 1, 0, 0⟩) rfl rfl rfl rfl (by kernel_rfl) rfl (by simp [Value.oneCell']) ?_; (generalize w4.alloc (.cells (cfC ⟨2, 22, 1, 1, 1, 0, 1, 0, 0⟩) 23) = w5 at *))
      | (refine wpList_load_rowG (by rfl) 26 (.tmp 1) rfl w1.heap.size rfl 26 (lyC l) (0, 0) _ kl Try.underlying26 rfl (by kernel_rfl) ?_))
    clear p13 p14 p15 p16 p17 p18 p24
    (with_reducible refine (right_ok l _ HV.out.2.2.2.2.2.1).mono ?_)
    rintro e w6 ⟨rfl, hb⟩
    rw [HV.out.2.2.2.2.1]
    replace kl := kl.keep hb
    replace kc := kc.keep hb
    replace hbl := below_tr hbl hb
    clear hb
    go_wp2_with (refine wpList_load_rowG (by rfl) 26 (.tmp 1) rfl w1.heap.size rfl 26 (lyC l) (0, 0) _ kl Try.underlying26 rfl (by kernel_rfl) ?_)
    (with_reducible refine (rings_any l _ HT.out.1 HT.out.2).mono ?_)
    rintro e w7 ⟨rfl, hb⟩
    rw [HV.out.2.2.2.1]
    replace kl := kl.keep hb
    replace kc := kc.keep hb
    replace hbl := below_tr hbl hb
    clear hb
    go_wp2_with (refine wpList_load_rowG (by rfl) 26 (.tmp 1) rfl w1.heap.size rfl 26 (lyC l) (0, 0) _ kl Try.underlying26 rfl (by kernel_rfl) ?_)
    (with_reducible refine (task_any l 1 3 _ HV.out.2.2.2.2.2.2 (by omega)).mono ?_)
    rintro e w8 ⟨rfl, hb⟩
    rw [HV.out.1]
    replace kl := kl.keep hb
    replace kc := kc.keep hb
    replace hbl := below_tr hbl hb
    clear hb
    go_wp2_with (refine wpList_load_rowG (by rfl) 26 (.tmp 1) rfl w1.heap.size rfl 26 (lyC l) (0, 0) _ kl Try.underlying26 rfl (by kernel_rfl) ?_)
    (with_reducible refine (task_any l 0 0 _ HV.out.2.2.2.2.2.2 (by omega)).mono ?_)
    rintro e w9 ⟨rfl, hb⟩
    rw [HV.out.2.1]
    replace kl := kl.keep hb
    replace kc := kc.keep hb
    replace hbl := below_tr hbl hb
    clear hb
    go_wp2_with (refine wpList_load_rowG (by rfl) 26 (.tmp 1) rfl w1.heap.size rfl 26 (lyC l) (0, 0) _ kl Try.underlying26 rfl (by kernel_rfl) ?_)
    (with_reducible refine (node_any l 1 0 _ HV.out.2.2.2.2.2.2 (by omega)).mono ?_)
    rintro e w10 ⟨rfl, hb⟩
    rw [HV.out.2.2.1]
    replace kl := kl.keep hb
    replace kc := kc.keep hb
    replace hbl := below_tr hbl hb
    clear hb
    have ce : ∀ w, (Op.equalIn 10000 23 (.agg (cfC ⟨2, 22, 1, 1, 1, 0, 1, 0, 0⟩)) (.agg (cfC ⟨2, 22, 1, 1, 1, 0, 1, 0, 0⟩))).run Try.prog w = .ok true w := fun w => cf_eq 9998 ⟨2, 22, 1, 1, 1, 0, 1, 0, 0⟩ ⟨2, 22, 1, 1, 1, 0, 1, 0, 0⟩ w
    go_wp2_with (refine wpList_load_rowG (by rfl) 23 (.tmp 5) rfl w4.heap.size rfl 23 (cfC ⟨2, 22, 1, 1, 1, 0, 1, 0, 0⟩) (0, 0) _ kc Try.underlying23 rfl (by kernel_rfl) ?_)
    go_ret
    exact ⟨rfl, hbl⟩
end Go.Proofs.Ythaieabhlodajaa
