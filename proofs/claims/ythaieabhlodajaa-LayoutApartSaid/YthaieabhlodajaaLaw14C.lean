/- The walk of LayoutRight. -/
import Derived.Test.YthaieabhlodajaaRefO
import Derived.Test.YthaieabhlodajaaShown14
namespace Go.Proofs.Ythaieabhlodajaa
open Go.RowKit
attribute [local go_sem ↓] Go.wp_at_zero Go.wp_at_succ

def ROfAny (c : Cf) (w : World) (e : Ending) (w' : World) : Prop :=
  ∃ L er, e = .returned (.tuple #[lyV L, .int .i64 er]) ∧ (c.can ∧ L = lyOf c ∧ er = 0 ∨ ¬ c.can ∧ L = zeroLy ∧ er = 1) ∧ Below w.heap.size w w'
theorem rof_any (c : Cf) (w : World) : Calls Try.prog 10 #[cfV c] w (ROfAny c w) := by
  by_cases h : c.can
  · exact (rof_ok c w h).mono fun e w' ⟨he, hb⟩ => ⟨_, _, he, .inl ⟨h, rfl, rfl⟩, hb⟩
  · exact (rof_bad c w h).mono fun e w' ⟨he, hb⟩ => ⟨_, _, he, .inr ⟨h, rfl, rfl⟩, hb⟩
theorem wrap_ne (f d : Int) (h0 : 0 ≤ f) (h1 : f ≤ 1000000) (d0 : -9223372036854775808 ≤ d) (d1 : d ≤ 9223372036854775807) (hd : d ≠ 0) : wrap64 (f + d) ≠ f := by
  unfold wrap64
  omega
/-- Right of any layout, in one form. -/
theorem right_false (l : Ly) (w : World) (h : ¬ (l.c.can ∧ lyOf l.c = l)) : Calls Try.prog (11) #[lyV l] w (BoolBelow false w) := by
  by_cases hc : l.c.can
  · have e : lyB (lyOf l.c) l = false := by
      cases hb : lyB (lyOf l.c) l
      · rfl
      · exact absurd ⟨hc, (lyB_iff _ _).1 hb⟩ h
    rw [← e]
    exact right_ok l w hc
  · exact right_no l w hc
theorem right_true (l : Ly) (w : World) (hc : l.c.can) (h : lyOf l.c = l) : Calls Try.prog (11) #[lyV l] w (BoolBelow true w) := by
  have e : lyB (lyOf l.c) l = true := (lyB_iff _ _).2 h
  rw [← e]
  exact right_ok l w hc
theorem tasks_ne (c : Cf) (k : Int) (h : c.can) (hk : 4 ≤ k) (h' : Cf.can { c with tasks := c.tasks + k }) : (lyOf { c with tasks := c.tasks + k }).cell ≠ (lyOf c).cell := by
  have r0 : 1 ≤ c.seats ∧ c.seats ≤ 8 := h.1.1 0 (by omega)
  have r3 : 1 ≤ c.tasks ∧ c.tasks ≤ 64 := h.1.1 3 (by omega)
  have r3' : 1 ≤ c.tasks + k ∧ c.tasks + k ≤ 64 := h'.1.1 3 (by omega)
  have hr : ringsN c.tasks ≤ ringsN (c.tasks + k) := by
    unfold ringsN
    repeat' split
    all_goals omega
  have b1 := ringsN_bd c.tasks
  have b2 := ringsN_bd (c.tasks + k)
  have ha : aheadN (ringsN c.tasks) ≤ aheadN (ringsN (c.tasks + k)) := by
    by_cases he : ringsN c.tasks = ringsN (c.tasks + k)
    · rw [he]; exact Int.le_refl _
    · exact Int.le_of_lt (aheadN_lt _ _ (by omega) (by omega) (by omega))
  have hm := Int.mul_le_mul_of_nonneg_left ha (show 0 ≤ c.seats by omega)
  simp only [lyOf]
  omega

theorem not_right5 (L M : Ly) (k : Int) (hc : L.c.can) (hf : lyOf L.c = L) (hk : 4 ≤ k) (hM : M.c = { L.c with tasks := L.c.tasks + k }) (hcell : M.cell = L.cell) : ¬ (M.c.can ∧ lyOf M.c = M) := by
  rintro ⟨h1, h2⟩
  have e1 : (lyOf M.c).cell = L.cell := by rw [h2, hcell]
  rw [hM] at e1 h1
  have e2 : (lyOf L.c).cell = L.cell := by rw [hf]
  exact tasks_ne L.c k hc hk h1 (by rw [e1, e2])
set_option maxRecDepth 100000 in
set_option maxHeartbeats 16000000 in
theorem right_any (c : Cf) (i d : Int) (w : World) (i0 : 0 ≤ i) (i1 : i < 256) (d0 : -9223372036854775808 ≤ d) (d1 : d ≤ 9223372036854775807) : Calls Try.prog 3 #[cfV c, .int .u8 i, .int .i64 d] w (BoolBelow true w) := by
  go_enter Try.func3, Try.ntmps3
  go_wp2_with fail
  (with_reducible refine (shown_any _).mono ?_)
  rintro e w1 ⟨rfl, hb⟩
  have k3 := (Bk.made w 23 (cfC c)).keep hb
  have hbl := below_tr (below_al (Below.refl w.heap.size w) (.cells (cfC c) 23)) hb
  clear hb
  go_wp2_with (refine wpList_load_row rfl 23 (.tmp 3) rfl w.heap.size rfl 23 (cfC c) (0, 0) _ k3 Try.underlying23 rfl (by kernel_rfl) ?_)
  (with_reducible refine (rof_any c _).mono ?_)
  rintro e w2 ⟨L, er, rfl, hcase, hb⟩
  replace k3 := k3.keep hb
  replace hbl := below_tr hbl hb
  clear hb
  have k8 := Bk.made w2 26 (lyC L)
  replace k3 := k3.alloc (.cells (lyC L) 26)
  replace hbl := below_al hbl (.cells (lyC L) 26)
  have h23 : w2.heap.size < (w2.alloc (.cells (lyC L) 26)).heap.size := by simp
  rcases hcase with ⟨hcan, hL, rfl⟩ | ⟨hcan, hL, rfl⟩
  rotate_left
  · have HC := Lib.hid hcan
    clear hL hcan
    go_upto_region 3 with (refine wpList_store_new rfl 26 (.tmp 8) (.tmp 15) rfl rfl w2.heap.size _ _ (lyC L) rfl rfl rfl rfl (by kernel_rfl) rfl (by simp [Value.oneCell']) ?_; (generalize w2.alloc (.cells (lyC L) 26) = w3 at *))
    go_upto_region 4 with fail
    go_wp2_with (refine wpList_load_rowG (by rfl) 23 (.tmp 3) rfl w.heap.size rfl 23 (cfC c) (0, 0) _ k3 Try.underlying23 rfl (by kernel_rfl) ?_)
    (with_reducible refine (right_no ⟨c, 0, 0, 0, 0, 0, 0, 0, 0, 0, 0, 0, 0, 0, 0, 0, 0⟩ _ HC.out).mono ?_)
    rintro e w4 ⟨rfl, hb⟩
    replace hbl := below_tr hbl hb
    clear hb k3 k8
    go_wp2
    go_ret
    exact ⟨rfl, hbl⟩
  have hLc : L.c = c := by rw [hL]; rfl
  have hfix : lyOf L.c = L := by rw [hLc, hL]
  have hcl : L.c.can := by rw [hLc]; exact hcan
  have hbd := (lyOk_of c hcan).b0
  rw [← hL] at hbd
  have hdone : L.done = 0 := by rw [hL]; rfl
  have r3 : 1 ≤ L.c.tasks ∧ L.c.tasks ≤ 64 := by rw [hLc]; exact hcan.1.1 3 (by omega)
  have HC := Lib.hid (And.intro hfix (And.intro hcl (And.intro hdone (And.intro hcan hL))))
  clear hcan hL hLc hfix hcl hdone
  go_upto_region 3 with (refine wpList_store_new rfl 26 (.tmp 8) (.tmp 15) rfl rfl w2.heap.size _ _ (lyC L) rfl rfl rfl rfl (by kernel_rfl) rfl (by simp [Value.oneCell']) ?_; (generalize w2.alloc (.cells (lyC L) 26) = w3 at *))
  by_cases hd : d = 0
  · have g1 : (d == 0) = true := by simp [hd]
    clear hd
    go_wp2
    go_ret
    exact ⟨rfl, hbl⟩
  have g1 : (d == 0) = false := by simp [hd]
  have HD := Lib.hid hd
  clear hd
  go_upto_region 6 with (first
    | (refine wpList_load_row rfl 26 (.tmp 8) rfl w2.heap.size rfl 26 (lyC L) (0, 0) _ k8 Try.underlying26 rfl (by kernel_rfl) ?_)
    | (refine wpList_store_new rfl 26 (.tmp 10) (.tmp 34) rfl rfl w3.heap.size _ _ (lyC L) rfl rfl rfl rfl (by kernel_rfl) rfl (by simp [Value.oneCell']) ?_))
  have lt3 := k3.lt
  have k10 := Bk.made w3 26 (lyC L)
  replace k8 := k8.alloc (.cells (lyC L) 26)
  replace hbl := below_al hbl (.cells (lyC L) 26)
  clear k3 g1
  generalize w3.alloc (.cells (lyC L) 26) = w4 at *
  generalize hg3 : w3.heap.size = g at *
  clear hg3
  have m0 : 0 ≤ i % 6 := Int.emod_nonneg _ (by omega)
  have m1 : i % 6 < 6 := Int.emod_lt_of_pos _ (by omega)
  obtain ⟨y, hy⟩ : ∃ y, i % 6 = y := ⟨_, rfl⟩
  rw [hy] at m0 m1
  have hcs : y = 0 ∨ y = 1 ∨ y = 2 ∨ y = 3 ∨ y = 4 ∨ y = 5 := by omega
  clear m0 m1
  rcases hcs with rfl | rfl | rfl | rfl | rfl | rfl
  · have t0 := k10.cell 17
    have t1 := k10.free 17
    simp at t0
    obtain ⟨x, hx⟩ : ∃ x, wrap64 (L.ring + d) = x := ⟨_, rfl⟩
    have hx1 : IntKind.i64.wrap (L.ring + d) = x := by rw [IntWalk.i64_left]; exact hx
    have hxn : x ≠ L.ring := by rw [← hx]; exact wrap_ne L.ring d (by omega) (by omega) d0 d1 HD.out
    have HN := Lib.hid hxn
    clear hxn
    go_upto_region 19 with fail
    replace k8 := k8.other (p := ⟨g, 17, none⟩) (by simp; omega) (.int .i64 x)
    replace k10 := k10.stored 17 (.int .i64 x)
    replace k10 : Bk _ _ _ (lyC ⟨L.c, L.done, L.count, L.era, L.free, L.alive, L.owner, L.resv, L.deque, x, L.task, L.cell, L.map, L.stack, L.chan, L.node, L.size⟩) := k10
    replace hbl := below_set hbl (p := ⟨g, 17, none⟩) (by simp; omega) (.int .i64 x)
    clear t0 t1 hx hx1
    generalize w4.setCell ⟨g, 17, none⟩ (.int .i64 x) = w5 at *
    go_wp2_with (refine wpList_load_rowG (by rfl) 26 (.tmp 8) rfl w2.heap.size rfl 26 (lyC L) (0, 0) _ k8 Try.underlying26 rfl (by kernel_rfl) ?_)
    (with_reducible refine (right_true L _ HC.out.2.1 HC.out.1).mono ?_)
    rintro e w6 ⟨rfl, hb⟩
    replace k10 := k10.keep hb
    replace hbl := below_tr hbl hb
    clear hb
    go_wp2_with (refine wpList_load_rowG (by rfl) 26 (.tmp 10) rfl g rfl 26 _ (0, 0) _ k10 Try.underlying26 rfl (by kernel_rfl) ?_)
    (with_reducible refine (right_false ⟨L.c, L.done, L.count, L.era, L.free, L.alive, L.owner, L.resv, L.deque, x, L.task, L.cell, L.map, L.stack, L.chan, L.node, L.size⟩ _ (fun h => absurd (by have := h.2; have e2 := HC.out.1; simp only at this; rw [e2] at this; exact (congrArg Ly.ring this).symm) HN.out)).mono ?_)
    rintro e w7 ⟨rfl, hb⟩
    replace hbl := below_tr hbl hb
    clear hb
    go_wp2
    go_ret
    exact ⟨rfl, hbl⟩
  · have t0 := k10.cell 24
    have t1 := k10.free 24
    simp at t0
    obtain ⟨x, hx⟩ : ∃ x, wrap64 (L.size + d) = x := ⟨_, rfl⟩
    have hx1 : IntKind.i64.wrap (L.size + d) = x := by rw [IntWalk.i64_left]; exact hx
    have hxn : x ≠ L.size := by rw [← hx]; exact wrap_ne L.size d (by omega) (by omega) d0 d1 HD.out
    have HN := Lib.hid hxn
    clear hxn
    go_upto_region 19 with fail
    replace k8 := k8.other (p := ⟨g, 24, none⟩) (by simp; omega) (.int .i64 x)
    replace k10 := k10.stored 24 (.int .i64 x)
    replace k10 : Bk _ _ _ (lyC ⟨L.c, L.done, L.count, L.era, L.free, L.alive, L.owner, L.resv, L.deque, L.ring, L.task, L.cell, L.map, L.stack, L.chan, L.node, x⟩) := k10
    replace hbl := below_set hbl (p := ⟨g, 24, none⟩) (by simp; omega) (.int .i64 x)
    clear t0 t1 hx hx1
    generalize w4.setCell ⟨g, 24, none⟩ (.int .i64 x) = w5 at *
    go_wp2_with (refine wpList_load_rowG (by rfl) 26 (.tmp 8) rfl w2.heap.size rfl 26 (lyC L) (0, 0) _ k8 Try.underlying26 rfl (by kernel_rfl) ?_)
    (with_reducible refine (right_true L _ HC.out.2.1 HC.out.1).mono ?_)
    rintro e w6 ⟨rfl, hb⟩
    replace k10 := k10.keep hb
    replace hbl := below_tr hbl hb
    clear hb
    go_wp2_with (refine wpList_load_rowG (by rfl) 26 (.tmp 10) rfl g rfl 26 _ (0, 0) _ k10 Try.underlying26 rfl (by kernel_rfl) ?_)
    (with_reducible refine (right_false ⟨L.c, L.done, L.count, L.era, L.free, L.alive, L.owner, L.resv, L.deque, L.ring, L.task, L.cell, L.map, L.stack, L.chan, L.node, x⟩ _ (fun h => absurd (by have := h.2; have e2 := HC.out.1; simp only at this; rw [e2] at this; exact (congrArg Ly.size this).symm) HN.out)).mono ?_)
    rintro e w7 ⟨rfl, hb⟩
    replace hbl := below_tr hbl hb
    clear hb
    go_wp2
    go_ret
    exact ⟨rfl, hbl⟩
  · have t0 := k10.cell 9
    have t1 := k10.free 9
    simp at t0
    obtain ⟨x, hx⟩ : ∃ x, wrap64 (L.done + d) = x := ⟨_, rfl⟩
    have hx1 : IntKind.i64.wrap (L.done + d) = x := by rw [IntWalk.i64_left]; exact hx
    have hxn : x ≠ L.done := by rw [← hx]; exact wrap_ne L.done d (by have := HC.out.2.2.1; omega) (by have := HC.out.2.2.1; omega) d0 d1 HD.out
    have HN := Lib.hid hxn
    clear hxn
    go_upto_region 19 with fail
    replace k8 := k8.other (p := ⟨g, 9, none⟩) (by simp; omega) (.int .i64 x)
    replace k10 := k10.stored 9 (.int .i64 x)
    replace k10 : Bk _ _ _ (lyC ⟨L.c, x, L.count, L.era, L.free, L.alive, L.owner, L.resv, L.deque, L.ring, L.task, L.cell, L.map, L.stack, L.chan, L.node, L.size⟩) := k10
    replace hbl := below_set hbl (p := ⟨g, 9, none⟩) (by simp; omega) (.int .i64 x)
    clear t0 t1 hx hx1
    generalize w4.setCell ⟨g, 9, none⟩ (.int .i64 x) = w5 at *
    go_wp2_with (refine wpList_load_rowG (by rfl) 26 (.tmp 8) rfl w2.heap.size rfl 26 (lyC L) (0, 0) _ k8 Try.underlying26 rfl (by kernel_rfl) ?_)
    (with_reducible refine (right_true L _ HC.out.2.1 HC.out.1).mono ?_)
    rintro e w6 ⟨rfl, hb⟩
    replace k10 := k10.keep hb
    replace hbl := below_tr hbl hb
    clear hb
    go_wp2_with (refine wpList_load_rowG (by rfl) 26 (.tmp 10) rfl g rfl 26 _ (0, 0) _ k10 Try.underlying26 rfl (by kernel_rfl) ?_)
    (with_reducible refine (right_false ⟨L.c, x, L.count, L.era, L.free, L.alive, L.owner, L.resv, L.deque, L.ring, L.task, L.cell, L.map, L.stack, L.chan, L.node, L.size⟩ _ (fun h => absurd (by have := h.2; have e2 := HC.out.1; simp only at this; rw [e2] at this; exact (congrArg Ly.done this).symm) HN.out)).mono ?_)
    rintro e w7 ⟨rfl, hb⟩
    replace hbl := below_tr hbl hb
    clear hb
    go_wp2
    go_ret
    exact ⟨rfl, hbl⟩
  · have t0 := k10.cell 23
    have t1 := k10.free 23
    simp at t0
    obtain ⟨x, hx⟩ : ∃ x, wrap64 (L.node + d) = x := ⟨_, rfl⟩
    have hx1 : IntKind.i64.wrap (L.node + d) = x := by rw [IntWalk.i64_left]; exact hx
    have hxn : x ≠ L.node := by rw [← hx]; exact wrap_ne L.node d (by omega) (by omega) d0 d1 HD.out
    have HN := Lib.hid hxn
    clear hxn
    go_upto_region 19 with fail
    replace k8 := k8.other (p := ⟨g, 23, none⟩) (by simp; omega) (.int .i64 x)
    replace k10 := k10.stored 23 (.int .i64 x)
    replace k10 : Bk _ _ _ (lyC ⟨L.c, L.done, L.count, L.era, L.free, L.alive, L.owner, L.resv, L.deque, L.ring, L.task, L.cell, L.map, L.stack, L.chan, x, L.size⟩) := k10
    replace hbl := below_set hbl (p := ⟨g, 23, none⟩) (by simp; omega) (.int .i64 x)
    clear t0 t1 hx hx1
    generalize w4.setCell ⟨g, 23, none⟩ (.int .i64 x) = w5 at *
    go_wp2_with (refine wpList_load_rowG (by rfl) 26 (.tmp 8) rfl w2.heap.size rfl 26 (lyC L) (0, 0) _ k8 Try.underlying26 rfl (by kernel_rfl) ?_)
    (with_reducible refine (right_true L _ HC.out.2.1 HC.out.1).mono ?_)
    rintro e w6 ⟨rfl, hb⟩
    replace k10 := k10.keep hb
    replace hbl := below_tr hbl hb
    clear hb
    go_wp2_with (refine wpList_load_rowG (by rfl) 26 (.tmp 10) rfl g rfl 26 _ (0, 0) _ k10 Try.underlying26 rfl (by kernel_rfl) ?_)
    (with_reducible refine (right_false ⟨L.c, L.done, L.count, L.era, L.free, L.alive, L.owner, L.resv, L.deque, L.ring, L.task, L.cell, L.map, L.stack, L.chan, x, L.size⟩ _ (fun h => absurd (by have := h.2; have e2 := HC.out.1; simp only at this; rw [e2] at this; exact (congrArg Ly.node this).symm) HN.out)).mono ?_)
    rintro e w7 ⟨rfl, hb⟩
    replace hbl := below_tr hbl hb
    clear hb
    go_wp2
    go_ret
    exact ⟨rfl, hbl⟩
  · have t0 := k10.cell 20
    have t1 := k10.free 20
    simp at t0
    obtain ⟨x, hx⟩ : ∃ x, wrap64 (L.map + d) = x := ⟨_, rfl⟩
    have hx1 : IntKind.i64.wrap (L.map + d) = x := by rw [IntWalk.i64_left]; exact hx
    have hxn : x ≠ L.map := by rw [← hx]; exact wrap_ne L.map d (by omega) (by omega) d0 d1 HD.out
    have HN := Lib.hid hxn
    clear hxn
    go_upto_region 19 with fail
    replace k8 := k8.other (p := ⟨g, 20, none⟩) (by simp; omega) (.int .i64 x)
    replace k10 := k10.stored 20 (.int .i64 x)
    replace k10 : Bk _ _ _ (lyC ⟨L.c, L.done, L.count, L.era, L.free, L.alive, L.owner, L.resv, L.deque, L.ring, L.task, L.cell, x, L.stack, L.chan, L.node, L.size⟩) := k10
    replace hbl := below_set hbl (p := ⟨g, 20, none⟩) (by simp; omega) (.int .i64 x)
    clear t0 t1 hx hx1
    generalize w4.setCell ⟨g, 20, none⟩ (.int .i64 x) = w5 at *
    go_wp2_with (refine wpList_load_rowG (by rfl) 26 (.tmp 8) rfl w2.heap.size rfl 26 (lyC L) (0, 0) _ k8 Try.underlying26 rfl (by kernel_rfl) ?_)
    (with_reducible refine (right_true L _ HC.out.2.1 HC.out.1).mono ?_)
    rintro e w6 ⟨rfl, hb⟩
    replace k10 := k10.keep hb
    replace hbl := below_tr hbl hb
    clear hb
    go_wp2_with (refine wpList_load_rowG (by rfl) 26 (.tmp 10) rfl g rfl 26 _ (0, 0) _ k10 Try.underlying26 rfl (by kernel_rfl) ?_)
    (with_reducible refine (right_false ⟨L.c, L.done, L.count, L.era, L.free, L.alive, L.owner, L.resv, L.deque, L.ring, L.task, L.cell, x, L.stack, L.chan, L.node, L.size⟩ _ (fun h => absurd (by have := h.2; have e2 := HC.out.1; simp only at this; rw [e2] at this; exact (congrArg Ly.map this).symm) HN.out)).mono ?_)
    rintro e w7 ⟨rfl, hb⟩
    replace hbl := below_tr hbl hb
    clear hb
    go_wp2
    go_ret
    exact ⟨rfl, hbl⟩
  · have t0 := k10.cell 4
    have t1 := k10.free 4
    simp at t0
    obtain ⟨r, hr⟩ : ∃ r, d.tmod 2 = r := ⟨_, rfl⟩
    have hr0 : -1 ≤ r ∧ r ≤ 1 := by
      rw [← hr]
      have h1 := Int.tmod_lt_of_pos d (show (0 : Int) < 2 by omega)
      have h2 := Int.lt_tmod_of_pos d (show (0 : Int) < 2 by omega)
      omega
    go_upto_region 19 with fail
    replace k8 := k8.other (p := ⟨g, 4, none⟩) (by simp; omega) (.int .i64 (L.c.tasks + 4 * (r + 2)))
    replace k10 := k10.stored 4 (.int .i64 (L.c.tasks + 4 * (r + 2)))
    replace k10 : Bk _ _ _ (lyC ⟨⟨L.c.seats, L.c.nodes, L.c.buckets, L.c.slots, (L.c.tasks + 4 * (r + 2)), L.c.cells, L.c.maps, L.c.stacks, L.c.chans⟩, L.done, L.count, L.era, L.free, L.alive, L.owner, L.resv, L.deque, L.ring, L.task, L.cell, L.map, L.stack, L.chan, L.node, L.size⟩) := k10
    replace hbl := below_set hbl (p := ⟨g, 4, none⟩) (by simp; omega) (.int .i64 (L.c.tasks + 4 * (r + 2)))
    clear t0 t1 hr
    generalize w4.setCell ⟨g, 4, none⟩ (.int .i64 (L.c.tasks + 4 * (r + 2))) = w5 at *
    go_wp2_with (refine wpList_load_rowG (by rfl) 26 (.tmp 8) rfl w2.heap.size rfl 26 (lyC L) (0, 0) _ k8 Try.underlying26 rfl (by kernel_rfl) ?_)
    (with_reducible refine (right_true L _ HC.out.2.1 HC.out.1).mono ?_)
    rintro e w6 ⟨rfl, hb⟩
    replace k10 := k10.keep hb
    replace hbl := below_tr hbl hb
    clear hb
    go_wp2_with (refine wpList_load_rowG (by rfl) 26 (.tmp 10) rfl g rfl 26 _ (0, 0) _ k10 Try.underlying26 rfl (by kernel_rfl) ?_)
    (with_reducible refine (right_false ⟨⟨L.c.seats, L.c.nodes, L.c.buckets, L.c.slots, (L.c.tasks + 4 * (r + 2)), L.c.cells, L.c.maps, L.c.stacks, L.c.chans⟩, L.done, L.count, L.era, L.free, L.alive, L.owner, L.resv, L.deque, L.ring, L.task, L.cell, L.map, L.stack, L.chan, L.node, L.size⟩ _ (not_right5 L _ (4 * (r + 2)) HC.out.2.1 HC.out.1 (by omega) rfl rfl)).mono ?_)
    rintro e w7 ⟨rfl, hb⟩
    replace hbl := below_tr hbl hb
    clear hb
    go_wp2
    go_ret
    exact ⟨rfl, hbl⟩
end Go.Proofs.Ythaieabhlodajaa
