/- The reference's Of: printed by rof_gen.py. -/
import Derived.Test.YtgjdjgainjedhaaRefM
import Derived.Test.YtgjdjgainjedhaaLayC
import Derived.Deep.Cut
namespace Go.Proofs.Ytgjdjgainjedhaa
open Go.RowKit
attribute [local go_sem ↓] Go.wp_at_zero Go.wp_at_succ

theorem wrap_in (x : Int) (h0 : -1000000000 ≤ x) (h1 : x ≤ 1000000000) : IntKind.i64.wrap x = x := IntWalk.i64_in _ (by omega)
set_option maxRecDepth 100000 in
set_option maxHeartbeats 16000000 in
theorem rof_bad (c : Cf) (w : World) (hc : ¬ c.can) : Calls Try.prog 15 #[cfV c] w (OfPost zeroLy 1 w) := by
  by_cases hm : c.may
  · have hmb := (mayB_iff c).2 hm
    have r5 : 0 ≤ c.maps ∧ c.maps ≤ 8 := hm.1 5 (by omega)
    have r7 : 0 ≤ c.chans ∧ c.chans ≤ 8 := hm.1 7 (by omega)
    have hin : inB c.nodes (c.maps + c.chans) 1000 = false := by
      cases h : inB c.nodes (c.maps + c.chans) 1000
      · rfl
      · simp [inB] at h
        exact absurd ⟨hm, h.1, h.2⟩ hc
    have HM := Lib.hid (And.intro hmb hin)
    clear hm hmb hin hc
    go_enter Try.func15, Try.ntmps15
    go_wp2_with fail
    (with_reducible refine (rmay_any c _).mono ?_)
    rintro e w1 ⟨rfl, hb⟩
    rw [HM.out.1]
    have k0 := ((Bk.made w 38 (cfC c)).alloc (.cells (lyC zeroLy) 40)).keep hb
    have k1 := (Bk.new (w.alloc (.cells (cfC c) 38)) (g := w.heap.size + 1) (by simp) 40 (lyC zeroLy)).keep hb
    have hbl := below_tr (below_al (below_al (Below.refl w.heap.size w) (.cells (cfC c) 38)) (.cells (lyC zeroLy) 40)) hb
    have q1 := k0.cell 1
    have q6 := k0.cell 6
    have q8 := k0.cell 8
    simp at q1 q6 q8
    clear hb k0
    go_wp2_with fail
    (with_reducible refine (rin_any c.nodes (c.maps + c.chans) 1000 _).mono ?_)
    rintro e w2 ⟨rfl, rfl⟩
    rw [HM.out.2]
    go_upto_region 3 with fail
    go_wp2_with (refine wpList_store_rowTo rfl 40 (.tmp 2) (.tmp 22) rfl rfl (w.heap.size + 1) (lyC zeroLy) rfl rfl 40 (lyC zeroLy) k1 (by kernel_rfl) rfl (by simp [Value.oneCell']) ?_)
    exact bodyPost_ret (v := .tuple #[lyV zeroLy, .int .i64 1]) (results_cell_tmp (p := 2) (t := 3) (ty := 40) rfl _ _ (w.heap.size + 1) 40 (lyC zeroLy) (0, 0) _ _ rfl rfl (setRow_heap _ _ _ _ _ _ k1) Try.underlying40 rfl (by kernel_rfl)) rfl ⟨rfl, below_setRow hbl (by omega) _⟩
  · have hmb : mayB c = false := by
      cases h : mayB c
      · rfl
      · exact absurd ((mayB_iff c).1 h) hm
    have HM := Lib.hid hmb
    clear hm hmb hc
    go_enter Try.func15, Try.ntmps15
    go_wp2_with fail
    (with_reducible refine (rmay_any c _).mono ?_)
    rintro e w1 ⟨rfl, hb⟩
    rw [HM.out]
    go_upto_region 3 with fail
    have k1 := (Bk.new (w.alloc (.cells (cfC c) 38)) (g := w.heap.size + 1) (by simp) 40 (lyC zeroLy)).keep hb
    have hbl := below_tr (below_al (below_al (Below.refl w.heap.size w) (.cells (cfC c) 38)) (.cells (lyC zeroLy) 40)) hb
    clear hb
    go_wp2_with (refine wpList_store_rowTo rfl 40 (.tmp 2) (.tmp 22) rfl rfl (w.heap.size + 1) (lyC zeroLy) rfl rfl 40 (lyC zeroLy) k1 (by kernel_rfl) rfl (by simp [Value.oneCell']) ?_)
    exact bodyPost_ret (v := .tuple #[lyV zeroLy, .int .i64 1]) (results_cell_tmp (p := 2) (t := 3) (ty := 40) rfl _ _ (w.heap.size + 1) 40 (lyC zeroLy) (0, 0) _ _ rfl rfl (setRow_heap _ _ _ _ _ _ k1) Try.underlying40 rfl (by kernel_rfl)) rfl ⟨rfl, below_setRow hbl (by omega) _⟩

set_option maxRecDepth 100000 in
set_option maxHeartbeats 16000000 in
theorem rof_ok (c : Cf) (w : World) (hc : c.can) : Calls Try.prog 15 #[cfV c] w (OfPost (lyOf c) 0 w) := by
  have hl := lyOk_of c hc
  obtain ⟨l, hle⟩ : ∃ l, l = lyOf c := ⟨_, rfl⟩
  rw [← hle] at hl ⊢
  have HLE := Lib.hid hle
  have HL := Lib.hid hl
  obtain ⟨b0, b1, b2, b3, b4, b5, b6, b7, b8, b9, b10, b11⟩ := hl.b0
  clear hl hle
  have hmb := (mayB_iff c).2 hc.1
  obtain ⟨hm, n1, n2⟩ := hc
  have r0 : 1 ≤ c.seats ∧ c.seats ≤ 8 := hm.1 0 (by omega)
  have r1 : 1 ≤ c.buckets ∧ c.buckets ≤ 64 := hm.1 1 (by omega)
  have r2 : 1 ≤ c.slots ∧ c.slots ≤ 8 := hm.1 2 (by omega)
  have r3 : 1 ≤ c.tasks ∧ c.tasks ≤ 64 := hm.1 3 (by omega)
  have r4 : 0 ≤ c.cells ∧ c.cells ≤ 16 := hm.1 4 (by omega)
  have r5 : 0 ≤ c.maps ∧ c.maps ≤ 8 := hm.1 5 (by omega)
  have r6 : 0 ≤ c.stacks ∧ c.stacks ≤ 8 := hm.1 6 (by omega)
  have r7 : 0 ≤ c.chans ∧ c.chans ≤ 8 := hm.1 7 (by omega)
  have hin : inB c.nodes (c.maps + c.chans) 1000 = true := by simp [inB]; omega
  have HM := Lib.hid (And.intro hmb hin)
  clear hm hmb hin
  go_enter Try.func15, Try.ntmps15
  go_wp2_with fail
  (with_reducible refine (rmay_any c _).mono ?_)
  rintro e w1 ⟨rfl, hb⟩
  rw [HM.out.1]
  have k0 := ((Bk.made w 38 (cfC c)).alloc (.cells (lyC zeroLy) 40)).keep hb
  have k1 := (Bk.new (w.alloc (.cells (cfC c) 38)) (g := w.heap.size + 1) (by simp) 40 (lyC zeroLy)).keep hb
  have hbl := below_tr (below_al (below_al (Below.refl w.heap.size w) (.cells (cfC c) 38)) (.cells (lyC zeroLy) 40)) hb
  have hg : w.heap.size + 1 < w1.heap.size := k1.lt
  have hg0 : w.heap.size < w1.heap.size := k0.lt
  have q1 := k0.cell 1
  have q6 := k0.cell 6
  have q8 := k0.cell 8
  simp at q1 q6 q8
  clear hb
  go_wp2_with fail
  (with_reducible refine (rin_any c.nodes (c.maps + c.chans) 1000 _).mono ?_)
  rintro e w2 ⟨rfl, rfl⟩
  rw [HM.out.2]
  clear q1 q6 q8
  go_wp2_with (first
    | (refine wpList_load_row rfl 38 (.tmp 1) rfl w.heap.size rfl 38 (cfC c) (0, 0) _ k0 Try.underlying38 rfl (by kernel_rfl) ?_)
    | (refine wpList_store_new rfl 40 (.tmp 5) (.tmp 24) rfl rfl w2.heap.size _ _ (lyC ⟨c, 0, 1, 2, 3, 4, 0, 0, 0, 0, 0, 0, 0, 0, 0, 0, 0⟩) rfl rfl rfl rfl (by kernel_rfl) rfl (by simp [Value.oneCell']) ?_)
    | (refine wpList_load_row rfl 40 (.tmp 5) rfl w2.heap.size rfl 40 (lyC ⟨c, 0, 1, 2, 3, 4, 0, 0, 0, 0, 0, 0, 0, 0, 0, 0, 0⟩) (0, 0) _ (Bk.made w2 _ _) Try.underlying40 rfl (by kernel_rfl) ?_))
  have k3 := Bk.made w2 40 (lyC ⟨c, 0, 1, 2, 3, 4, 0, 0, 0, 0, 0, 0, 0, 0, 0, 0, 0⟩)
  replace k0 := k0.alloc (.cells (lyC ⟨c, 0, 1, 2, 3, 4, 0, 0, 0, 0, 0, 0, 0, 0, 0, 0, 0⟩) 40)
  replace k1 := k1.alloc (.cells (lyC ⟨c, 0, 1, 2, 3, 4, 0, 0, 0, 0, 0, 0, 0, 0, 0, 0, 0⟩) 40)
  replace hbl := below_al hbl (.cells (lyC ⟨c, 0, 1, 2, 3, 4, 0, 0, 0, 0, 0, 0, 0, 0, 0, 0, 0⟩) 40)
  (with_reducible refine (rrings_any ⟨c, 0, 1, 2, 3, 4, 0, 0, 0, 0, 0, 0, 0, 0, 0, 0, 0⟩ _ r3.1 r3.2).mono ?_)
  rintro e v ⟨rfl, hb⟩
  replace k0 := k0.keep hb
  replace k1 := k1.keep hb
  replace k3 := k3.keep hb
  replace hbl := below_tr hbl hb
  generalize w2.heap.size = g at *
  clear hb
  go_upto_region 6 with fail
  have q0 := k0.cell 0
  have ts := k3.cell 13
  have t0 := k3.cell 14
  have t1 := k3.free 14
  simp at q0 ts t0
  have hsum : 4 + c.seats = l.owner := by
    have := HL.out.owner
    omega
  have hs1 : IntKind.i64.wrap (4 + c.seats) = l.owner := by rw [hsum]; exact wrap_in _ (by omega) (by omega)
  go_upto_region 7 with fail
  clear hsum hs1 ts t0 t1 q0
  replace k0 := k0.other (p := ⟨g, 14, none⟩) (by simp; omega) (.int .i64 l.owner)
  replace k1 := k1.other (p := ⟨g, 14, none⟩) (by simp; omega) (.int .i64 l.owner)
  replace k3 := k3.stored 14 (.int .i64 l.owner)
  replace k3 : Bk _ _ _ (lyC ⟨c, 0, 1, 2, 3, 4, l.owner, 0, 0, 0, 0, 0, 0, 0, 0, 0, 0⟩) := k3
  replace hbl := below_set hbl (p := ⟨g, 14, none⟩) (by simp; omega) (.int .i64 l.owner)
  generalize (v.setCell ⟨g, 14, none⟩ (.int .i64 l.owner)) = v' at *
  clear v
  obtain ⟨v, rfl⟩ : ∃ v, v = v' := ⟨_, rfl⟩
  have q0 := k0.cell 0
  have ts := k3.cell 14
  have t0 := k3.cell 15
  have t1 := k3.free 15
  simp at q0 ts t0
  have hsum : l.owner + c.seats = l.resv := by
    have := HL.out.resv
    omega
  have hs1 : IntKind.i64.wrap (l.owner + c.seats) = l.resv := by rw [hsum]; exact wrap_in _ (by omega) (by omega)
  go_upto_region 8 with fail
  clear hsum hs1 ts t0 t1 q0
  replace k0 := k0.other (p := ⟨g, 15, none⟩) (by simp; omega) (.int .i64 l.resv)
  replace k1 := k1.other (p := ⟨g, 15, none⟩) (by simp; omega) (.int .i64 l.resv)
  replace k3 := k3.stored 15 (.int .i64 l.resv)
  replace k3 : Bk _ _ _ (lyC ⟨c, 0, 1, 2, 3, 4, l.owner, l.resv, 0, 0, 0, 0, 0, 0, 0, 0, 0⟩) := k3
  replace hbl := below_set hbl (p := ⟨g, 15, none⟩) (by simp; omega) (.int .i64 l.resv)
  generalize (v.setCell ⟨g, 15, none⟩ (.int .i64 l.resv)) = v' at *
  clear v
  obtain ⟨v, rfl⟩ : ∃ v, v = v' := ⟨_, rfl⟩
  have q0 := k0.cell 0
  have ts := k3.cell 15
  have t0 := k3.cell 16
  have t1 := k3.free 16
  simp at q0 ts t0
  obtain ⟨z, hz⟩ : ∃ z, z = 3 * c.seats := ⟨_, rfl⟩
  have hsum : l.resv + z = l.deque := by
    rw [hz]
    have := HL.out.deque
    omega
  have hz1 : IntKind.i64.wrap (3 * c.seats) = z := by rw [← hz]; exact wrap_in _ (by omega) (by omega)
  have hz2 : 3 * c.seats = z := hz.symm
  have hs1 : IntKind.i64.wrap (l.resv + z) = l.deque := by rw [hsum]; exact wrap_in _ (by omega) (by omega)
  clear hz
  go_upto_region 9 with fail
  clear hsum hz1 hz2 hs1 ts t0 t1 q0
  replace k0 := k0.other (p := ⟨g, 16, none⟩) (by simp; omega) (.int .i64 l.deque)
  replace k1 := k1.other (p := ⟨g, 16, none⟩) (by simp; omega) (.int .i64 l.deque)
  replace k3 := k3.stored 16 (.int .i64 l.deque)
  replace k3 : Bk _ _ _ (lyC ⟨c, 0, 1, 2, 3, 4, l.owner, l.resv, l.deque, 0, 0, 0, 0, 0, 0, 0, 0⟩) := k3
  replace hbl := below_set hbl (p := ⟨g, 16, none⟩) (by simp; omega) (.int .i64 l.deque)
  generalize (v.setCell ⟨g, 16, none⟩ (.int .i64 l.deque)) = v' at *
  clear v
  obtain ⟨v, rfl⟩ : ∃ v, v = v' := ⟨_, rfl⟩
  have q0 := k0.cell 0
  have ts := k3.cell 16
  have t0 := k3.cell 17
  have t1 := k3.free 17
  simp at q0 ts t0
  obtain ⟨z, hz⟩ : ∃ z, z = 3 * c.seats := ⟨_, rfl⟩
  have hsum : l.deque + z = l.ring := by
    rw [hz]
    have := HL.out.ring
    omega
  have hz1 : IntKind.i64.wrap (3 * c.seats) = z := by rw [← hz]; exact wrap_in _ (by omega) (by omega)
  have hz2 : 3 * c.seats = z := hz.symm
  have hs1 : IntKind.i64.wrap (l.deque + z) = l.ring := by rw [hsum]; exact wrap_in _ (by omega) (by omega)
  clear hz
  go_upto_region 10 with fail
  clear hsum hz1 hz2 hs1 ts t0 t1 q0
  replace k0 := k0.other (p := ⟨g, 17, none⟩) (by simp; omega) (.int .i64 l.ring)
  replace k1 := k1.other (p := ⟨g, 17, none⟩) (by simp; omega) (.int .i64 l.ring)
  replace k3 := k3.stored 17 (.int .i64 l.ring)
  replace k3 : Bk _ _ _ (lyC ⟨c, 0, 1, 2, 3, 4, l.owner, l.resv, l.deque, l.ring, 0, 0, 0, 0, 0, 0, 0⟩) := k3
  replace hbl := below_set hbl (p := ⟨g, 17, none⟩) (by simp; omega) (.int .i64 l.ring)
  generalize (v.setCell ⟨g, 17, none⟩ (.int .i64 l.ring)) = v' at *
  clear v
  obtain ⟨v, rfl⟩ : ∃ v, v = v' := ⟨_, rfl⟩
  have ts := k3.cell 17
  simp at ts
  have hS : Bk v.drew w.heap.size 38 (cfC c) ∧ v.drew.cell? ⟨g, 17, none⟩ = some (.int .i64 l.ring) := ⟨k0.drew, ts⟩
  refine wp_region_held_drew (S := fun w' => Bk w' w.heap.size 38 (cfC c) ∧ w'.cell? ⟨g, 17, none⟩ = some (.int .i64 l.ring)) (by kernel_rfl) hS (fun hHeld => ?_)
  replace k0 := k0.drew
  replace k1 := k1.drew
  replace k3 := k3.drew
  replace hbl := hbl.drew
  clear hHeld ts
  generalize v.drew = v2 at *
  clear v
  obtain ⟨v, rfl⟩ : ∃ v, v = v2 := ⟨_, rfl⟩
  have hrb := ringsN_bd c.tasks
  refine wpAnyH_take (i := 0) (oi := _) (v := .pointer (some ⟨g, 17, none⟩)) rfl (by kernel_rfl) (by kernel_rfl) (by kernel_rfl) (fun _ _ _ h => h) (Or.inl ⟨by rfl, ?_⟩) hS ?_
  · intro w' hSw
    (try simp only [List.getElem_toArray, List.getElem_cons_zero])
    go_simp
  (try simp only [List.getElem_toArray, List.getElem_cons_zero, Act.put, List.setIfInBounds_toArray, List.set_cons_zero, List.set_cons_succ])
  refine wpAnyH_take (i := 1) (oi := _) (v := .int .i64 l.ring) rfl (by kernel_rfl) (by kernel_rfl) (by kernel_rfl) (fun _ _ _ h => h) (Or.inl ⟨by rfl, ?_⟩) hS ?_
  · intro w' hSw
    (try simp only [List.getElem_toArray, List.getElem_cons_succ, List.getElem_cons_zero])
    have hq := hSw.2
    go_simp
  (try simp only [List.getElem_toArray, List.getElem_cons_succ, List.getElem_cons_zero, Act.put, List.setIfInBounds_toArray, List.set_cons_zero, List.set_cons_succ])
  refine wpAnyH_take (i := 2) (oi := _) (v := .pointer (some ⟨w.heap.size, 0, none⟩)) rfl (by kernel_rfl) (by kernel_rfl) (by kernel_rfl) (fun _ _ _ h => h) (Or.inl ⟨by rfl, ?_⟩) hS ?_
  · intro w' hSw
    (try simp only [List.getElem_toArray, List.getElem_cons_succ, List.getElem_cons_zero])
    go_simp
  (try simp only [List.getElem_toArray, List.getElem_cons_succ, List.getElem_cons_zero, Act.put, List.setIfInBounds_toArray, List.set_cons_zero, List.set_cons_succ])
  refine wpAnyH_take (i := 3) (oi := _) (v := .int .i64 c.seats) rfl (by kernel_rfl) (by kernel_rfl) (by kernel_rfl) (fun _ _ _ h => h) (Or.inl ⟨by rfl, ?_⟩) hS ?_
  · intro w' hSw
    (try simp only [List.getElem_toArray, List.getElem_cons_succ, List.getElem_cons_zero])
    have hq := hSw.1.cell 0
    simp at hq
    go_simp
  (try simp only [List.getElem_toArray, List.getElem_cons_succ, List.getElem_cons_zero, Act.put, List.setIfInBounds_toArray, List.set_cons_zero, List.set_cons_succ])
  refine wpAnyH_take (i := 4) (oi := _) (v := .int .i64 (ringsN c.tasks)) rfl (by kernel_rfl) (by kernel_rfl) (by kernel_rfl) (fun _ _ _ h => h) (Or.inl ⟨by rfl, ?_⟩) hS ?_
  · intro w' hSw
    (try simp only [List.getElem_toArray, List.getElem_cons_succ, List.getElem_cons_zero])
    go_simp
  (try simp only [List.getElem_toArray, List.getElem_cons_succ, List.getElem_cons_zero, Act.put, List.setIfInBounds_toArray, List.set_cons_zero, List.set_cons_succ])
  refine wpAnyH_ready (rs := [5]) (by kernel_rfl) (by simp) ?_
  refine AllReadyH.cons (o := _) rfl (fun K hK => ?_) AllReadyH.nil
  (try simp only [List.getElem_toArray, List.getElem_cons_succ, List.getElem_cons_zero])
  go_simp
  (with_reducible refine (rroom_any (ringsN c.tasks) _ (by omega) (by omega)).mono ?_)
  rintro e v4 ⟨rfl, rfl⟩
  obtain ⟨v, rfl⟩ : ∃ x, x = v4 := ⟨_, rfl⟩
  refine hK.out _ _ hS (fun hS' => ?_)
  clear hS' hK K
  (try simp only [List.getElem_toArray, List.getElem_cons_succ, List.getElem_cons_zero, Act.put, List.setIfInBounds_toArray, List.set_cons_zero, List.set_cons_succ])
  obtain ⟨z, hz⟩ : ∃ z, z = c.seats * aheadN (ringsN c.tasks) := ⟨_, rfl⟩
  have hzb := HL.out.m0
  have hsum : l.ring + z = l.task := by
    rw [hz]
    exact HL.out.task
  have hz0 : 0 ≤ z := by rw [hz]; exact hzb
  have hzm : z ≤ 1000000 := by omega
  have hz2 : c.seats * aheadN (ringsN c.tasks) = z := hz.symm
  clear hz hzb
  refine wpAnyH_take (i := 6) (oi := _) (v := .int .i64 z) rfl (by kernel_rfl) (by kernel_rfl) (by kernel_rfl) (fun _ _ _ h => h) (Or.inl ⟨by rfl, ?_⟩) hS ?_
  · intro w' hSw
    (try simp only [List.getElem_toArray, List.getElem_cons_succ, List.getElem_cons_zero])
    go_simp
    exact wrap_in z (by omega) (by omega)
  (try simp only [List.getElem_toArray, List.getElem_cons_succ, List.getElem_cons_zero, Act.put, List.setIfInBounds_toArray, List.set_cons_zero, List.set_cons_succ])
  refine wpAnyH_take (i := 7) (oi := _) (v := .int .i64 l.task) rfl (by kernel_rfl) (by kernel_rfl) (by kernel_rfl) (fun _ _ _ h => h) (Or.inl ⟨by rfl, ?_⟩) hS ?_
  · intro w' hSw
    (try simp only [List.getElem_toArray, List.getElem_cons_succ, List.getElem_cons_zero])
    go_simp
    exact wrap_in l.task (by omega) (by omega)
  (try simp only [List.getElem_toArray, List.getElem_cons_succ, List.getElem_cons_zero, Act.put, List.setIfInBounds_toArray, List.set_cons_zero, List.set_cons_succ])
  refine wpAnyH_take (i := 8) (oi := _) (v := .pointer (some ⟨g, 18, none⟩)) rfl (by kernel_rfl) (by kernel_rfl) (by kernel_rfl) (fun _ _ _ h => h) (Or.inl ⟨by rfl, ?_⟩) hS ?_
  · intro w' hSw
    (try simp only [List.getElem_toArray, List.getElem_cons_succ, List.getElem_cons_zero])
    go_simp
  (try simp only [List.getElem_toArray, List.getElem_cons_succ, List.getElem_cons_zero, Act.put, List.setIfInBounds_toArray, List.set_cons_zero, List.set_cons_succ])
  clear hsum hz2 hz0 hzm
  have t0 := k3.cell 18
  have t1 := k3.free 18
  simp at t0
  refine wpAnyH_ready (rs := [9]) (by kernel_rfl) (by simp) ?_
  refine AllReadyH.cons (o := _) rfl (fun K hK => ?_) AllReadyH.nil
  (try simp only [List.getElem_toArray, List.getElem_cons_succ, List.getElem_cons_zero])
  go_simp
  refine hK.out _ _ ⟨hS.1.other (p := ⟨g, 18, none⟩) (by simp; omega) _, by rw [World.cell?_setCell_other _ _ _ _ (by simp)]; exact hS.2⟩ (fun hS' => ?_)
  clear hS' hK K hS
  (try simp only [List.getElem_toArray, List.getElem_cons_succ, List.getElem_cons_zero, Act.put, List.setIfInBounds_toArray, List.set_cons_zero, List.set_cons_succ])
  refine wpAnyH_done (by kernel_rfl) ?_ _
  clear t0 t1
  go_upto_region 11 with fail
  replace k0 := k0.other (p := ⟨g, 18, none⟩) (by simp; omega) (.int .i64 l.task)
  replace k1 := k1.other (p := ⟨g, 18, none⟩) (by simp; omega) (.int .i64 l.task)
  replace k3 := k3.stored 18 (.int .i64 l.task)
  replace k3 : Bk _ _ _ (lyC ⟨c, 0, 1, 2, 3, 4, l.owner, l.resv, l.deque, l.ring, l.task, 0, 0, 0, 0, 0, 0⟩) := k3
  replace hbl := below_set hbl (p := ⟨g, 18, none⟩) (by simp; omega) (.int .i64 l.task)
  generalize (v.setCell ⟨g, 18, none⟩ (.int .i64 l.task)) = v' at *
  clear v
  obtain ⟨v, rfl⟩ : ∃ v, v = v' := ⟨_, rfl⟩
  have q4 := k0.cell 4
  have ts := k3.cell 18
  have t0 := k3.cell 19
  have t1 := k3.free 19
  simp at q4 ts t0
  obtain ⟨z, hz⟩ : ∃ z, z = 4 * c.tasks := ⟨_, rfl⟩
  have hsum : l.task + z = l.cell := by
    rw [hz]
    have := HL.out.cell
    omega
  have hz1 : IntKind.i64.wrap (4 * c.tasks) = z := by rw [← hz]; exact wrap_in _ (by omega) (by omega)
  have hz2 : 4 * c.tasks = z := hz.symm
  have hs1 : IntKind.i64.wrap (l.task + z) = l.cell := by rw [hsum]; exact wrap_in _ (by omega) (by omega)
  clear hz
  go_upto_region 12 with fail
  clear hsum hz1 hz2 hs1 ts t0 t1 q4
  replace k0 := k0.other (p := ⟨g, 19, none⟩) (by simp; omega) (.int .i64 l.cell)
  replace k1 := k1.other (p := ⟨g, 19, none⟩) (by simp; omega) (.int .i64 l.cell)
  replace k3 := k3.stored 19 (.int .i64 l.cell)
  replace k3 : Bk _ _ _ (lyC ⟨c, 0, 1, 2, 3, 4, l.owner, l.resv, l.deque, l.ring, l.task, l.cell, 0, 0, 0, 0, 0⟩) := k3
  replace hbl := below_set hbl (p := ⟨g, 19, none⟩) (by simp; omega) (.int .i64 l.cell)
  generalize (v.setCell ⟨g, 19, none⟩ (.int .i64 l.cell)) = v' at *
  clear v
  obtain ⟨v, rfl⟩ : ∃ v, v = v' := ⟨_, rfl⟩
  have q5 := k0.cell 5
  have ts := k3.cell 19
  have t0 := k3.cell 20
  have t1 := k3.free 20
  simp at q5 ts t0
  have hsum : l.cell + c.cells = l.map := by
    have := HL.out.map
    omega
  have hs1 : IntKind.i64.wrap (l.cell + c.cells) = l.map := by rw [hsum]; exact wrap_in _ (by omega) (by omega)
  go_upto_region 13 with fail
  clear hsum hs1 ts t0 t1 q5
  replace k0 := k0.other (p := ⟨g, 20, none⟩) (by simp; omega) (.int .i64 l.map)
  replace k1 := k1.other (p := ⟨g, 20, none⟩) (by simp; omega) (.int .i64 l.map)
  replace k3 := k3.stored 20 (.int .i64 l.map)
  replace k3 : Bk _ _ _ (lyC ⟨c, 0, 1, 2, 3, 4, l.owner, l.resv, l.deque, l.ring, l.task, l.cell, l.map, 0, 0, 0, 0⟩) := k3
  replace hbl := below_set hbl (p := ⟨g, 20, none⟩) (by simp; omega) (.int .i64 l.map)
  generalize (v.setCell ⟨g, 20, none⟩ (.int .i64 l.map)) = v' at *
  clear v
  obtain ⟨v, rfl⟩ : ∃ v, v = v' := ⟨_, rfl⟩
  have q6 := k0.cell 6
  have q2 := k0.cell 2
  have ts := k3.cell 20
  have t0 := k3.cell 21
  have t1 := k3.free 21
  simp at q6 q2 ts t0
  obtain ⟨z, hz⟩ : ∃ z, z = c.maps * (c.buckets + 2) := ⟨_, rfl⟩
  have hsum : l.map + z = l.stack := by
    rw [hz]
    have := HL.out.stack; rw [Int.add_comm c.buckets 2]
    omega
  have hz1 : IntKind.i64.wrap (c.maps * (c.buckets + 2)) = z := by rw [← hz]; exact wrap_in _ (by omega) (by omega)
  have hz2 : c.maps * (c.buckets + 2) = z := hz.symm
  have hs1 : IntKind.i64.wrap (l.map + z) = l.stack := by rw [hsum]; exact wrap_in _ (by omega) (by omega)
  clear hz
  go_upto_region 14 with fail
  clear hsum hz1 hz2 hs1 ts t0 t1 q6 q2
  replace k0 := k0.other (p := ⟨g, 21, none⟩) (by simp; omega) (.int .i64 l.stack)
  replace k1 := k1.other (p := ⟨g, 21, none⟩) (by simp; omega) (.int .i64 l.stack)
  replace k3 := k3.stored 21 (.int .i64 l.stack)
  replace k3 : Bk _ _ _ (lyC ⟨c, 0, 1, 2, 3, 4, l.owner, l.resv, l.deque, l.ring, l.task, l.cell, l.map, l.stack, 0, 0, 0⟩) := k3
  replace hbl := below_set hbl (p := ⟨g, 21, none⟩) (by simp; omega) (.int .i64 l.stack)
  generalize (v.setCell ⟨g, 21, none⟩ (.int .i64 l.stack)) = v' at *
  clear v
  obtain ⟨v, rfl⟩ : ∃ v, v = v' := ⟨_, rfl⟩
  have q7 := k0.cell 7
  have q3 := k0.cell 3
  have ts := k3.cell 21
  have t0 := k3.cell 22
  have t1 := k3.free 22
  simp at q7 q3 ts t0
  obtain ⟨z, hz⟩ : ∃ z, z = c.stacks * (c.slots + 1) := ⟨_, rfl⟩
  have hsum : l.stack + z = l.chan := by
    rw [hz]
    have := HL.out.chan; rw [Int.add_comm c.slots 1]
    omega
  have hz1 : IntKind.i64.wrap (c.stacks * (c.slots + 1)) = z := by rw [← hz]; exact wrap_in _ (by omega) (by omega)
  have hz2 : c.stacks * (c.slots + 1) = z := hz.symm
  have hs1 : IntKind.i64.wrap (l.stack + z) = l.chan := by rw [hsum]; exact wrap_in _ (by omega) (by omega)
  clear hz
  go_upto_region 15 with fail
  clear hsum hz1 hz2 hs1 ts t0 t1 q7 q3
  replace k0 := k0.other (p := ⟨g, 22, none⟩) (by simp; omega) (.int .i64 l.chan)
  replace k1 := k1.other (p := ⟨g, 22, none⟩) (by simp; omega) (.int .i64 l.chan)
  replace k3 := k3.stored 22 (.int .i64 l.chan)
  replace k3 : Bk _ _ _ (lyC ⟨c, 0, 1, 2, 3, 4, l.owner, l.resv, l.deque, l.ring, l.task, l.cell, l.map, l.stack, l.chan, 0, 0⟩) := k3
  replace hbl := below_set hbl (p := ⟨g, 22, none⟩) (by simp; omega) (.int .i64 l.chan)
  generalize (v.setCell ⟨g, 22, none⟩ (.int .i64 l.chan)) = v' at *
  clear v
  obtain ⟨v, rfl⟩ : ∃ v, v = v' := ⟨_, rfl⟩
  have q8 := k0.cell 8
  have ts := k3.cell 22
  have t0 := k3.cell 23
  have t1 := k3.free 23
  simp at q8 ts t0
  obtain ⟨z, hz⟩ : ∃ z, z = 2 * c.chans := ⟨_, rfl⟩
  have hsum : l.chan + z = l.node := by
    rw [hz]
    have := HL.out.node
    omega
  have hz1 : IntKind.i64.wrap (2 * c.chans) = z := by rw [← hz]; exact wrap_in _ (by omega) (by omega)
  have hz2 : 2 * c.chans = z := hz.symm
  have hs1 : IntKind.i64.wrap (l.chan + z) = l.node := by rw [hsum]; exact wrap_in _ (by omega) (by omega)
  clear hz
  go_upto_region 16 with fail
  clear hsum hz1 hz2 hs1 ts t0 t1 q8
  replace k0 := k0.other (p := ⟨g, 23, none⟩) (by simp; omega) (.int .i64 l.node)
  replace k1 := k1.other (p := ⟨g, 23, none⟩) (by simp; omega) (.int .i64 l.node)
  replace k3 := k3.stored 23 (.int .i64 l.node)
  replace k3 : Bk _ _ _ (lyC ⟨c, 0, 1, 2, 3, 4, l.owner, l.resv, l.deque, l.ring, l.task, l.cell, l.map, l.stack, l.chan, l.node, 0⟩) := k3
  replace hbl := below_set hbl (p := ⟨g, 23, none⟩) (by simp; omega) (.int .i64 l.node)
  generalize (v.setCell ⟨g, 23, none⟩ (.int .i64 l.node)) = v' at *
  clear v
  obtain ⟨v, rfl⟩ : ∃ v, v = v' := ⟨_, rfl⟩
  have q1 := k0.cell 1
  have ts := k3.cell 23
  have t0 := k3.cell 24
  have t1 := k3.free 24
  simp at q1 ts t0
  obtain ⟨z, hz⟩ : ∃ z, z = 8 * c.nodes := ⟨_, rfl⟩
  have hsum : l.node + z = l.size := by
    rw [hz]
    have := HL.out.size
    omega
  have hz1 : IntKind.i64.wrap (8 * c.nodes) = z := by rw [← hz]; exact wrap_in _ (by omega) (by omega)
  have hz2 : 8 * c.nodes = z := hz.symm
  have hs1 : IntKind.i64.wrap (l.node + z) = l.size := by rw [hsum]; exact wrap_in _ (by omega) (by omega)
  clear hz
  go_upto_region 17 with fail
  clear hsum hz1 hz2 hs1 ts t0 t1 q1
  replace k0 := k0.other (p := ⟨g, 24, none⟩) (by simp; omega) (.int .i64 l.size)
  replace k1 := k1.other (p := ⟨g, 24, none⟩) (by simp; omega) (.int .i64 l.size)
  replace k3 := k3.stored 24 (.int .i64 l.size)
  replace k3 : Bk _ _ _ (lyC ⟨c, 0, 1, 2, 3, 4, l.owner, l.resv, l.deque, l.ring, l.task, l.cell, l.map, l.stack, l.chan, l.node, l.size⟩) := k3
  replace hbl := below_set hbl (p := ⟨g, 24, none⟩) (by simp; omega) (.int .i64 l.size)
  generalize (v.setCell ⟨g, 24, none⟩ (.int .i64 l.size)) = v' at *
  clear v
  obtain ⟨v, rfl⟩ : ∃ v, v = v' := ⟨_, rfl⟩
  have hLL : ⟨c, 0, 1, 2, 3, 4, l.owner, l.resv, l.deque, l.ring, l.task, l.cell, l.map, l.stack, l.chan, l.node, l.size⟩ = l := by rw [HLE.out]; rfl
  have HLL := Lib.hid hLL
  clear hLL
  go_wp2_with (first
    | (refine wpList_load_row rfl 40 (.tmp 5) rfl g rfl 40 (lyC ⟨c, 0, 1, 2, 3, 4, l.owner, l.resv, l.deque, l.ring, l.task, l.cell, l.map, l.stack, l.chan, l.node, l.size⟩) (0, 0) _ k3 Try.underlying40 rfl (by kernel_rfl) ?_)
    | (refine wpList_store_rowTo rfl 40 (.tmp 2) (.tmp 109) rfl rfl (w.heap.size + 1) (lyC ⟨c, 0, 1, 2, 3, 4, l.owner, l.resv, l.deque, l.ring, l.task, l.cell, l.map, l.stack, l.chan, l.node, l.size⟩) rfl rfl 40 (lyC zeroLy) k1 (by kernel_rfl) rfl (by simp [Value.oneCell']) ?_))
  exact bodyPost_ret (v := .tuple #[lyV ⟨c, 0, 1, 2, 3, 4, l.owner, l.resv, l.deque, l.ring, l.task, l.cell, l.map, l.stack, l.chan, l.node, l.size⟩, .int .i64 0]) (results_cell_tmp (p := 2) (t := 3) (ty := 40) rfl _ _ (w.heap.size + 1) 40 (lyC ⟨c, 0, 1, 2, 3, 4, l.owner, l.resv, l.deque, l.ring, l.task, l.cell, l.map, l.stack, l.chan, l.node, l.size⟩) (0, 0) _ _ rfl rfl (setRow_heap _ _ _ _ _ _ k1) Try.underlying40 rfl (by kernel_rfl)) rfl ⟨by rw [HLL.out], below_setRow hbl (by omega) _⟩
end Go.Proofs.Ytgjdjgainjedhaa
