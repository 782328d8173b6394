/- The walk of LayoutRings. -/
import Derived.Test.YthaieabhlodajaaLaw14C
namespace Go.Proofs.Ythaieabhlodajaa
open Go.RowKit
attribute [local go_sem ↓] Go.wp_at_zero Go.wp_at_succ

/-- How many cells ring r has. -/
def szN (r : Int) : Int := if r = 0 then 4 else if r = 1 then 8 else if r = 2 then 16 else if r = 3 then 32 else 64
theorem sz_ahead (r : Int) (h0 : 0 ≤ r) (h1 : r ≤ 4) : aheadN (r + 1) = aheadN r + szN r := by
  have h : r = 0 ∨ r = 1 ∨ r = 2 ∨ r = 3 ∨ r = 4 := by omega
  rcases h with rfl | rfl | rfl | rfl | rfl <;> decide
theorem sz_twice (r : Int) (h0 : 0 ≤ r) (h1 : r ≤ 3) : szN (r + 1) = 2 * szN r := by
  have h : r = 0 ∨ r = 1 ∨ r = 2 ∨ r = 3 := by omega
  rcases h with rfl | rfl | rfl | rfl <;> decide
theorem sz_in (r : Int) : 4 ≤ szN r ∧ szN r ≤ 64 := by
  unfold szN
  repeat' split
  all_goals omega
theorem sz_tasks (t k : Int) (h0 : 1 ≤ t) (h1 : t ≤ 64) (k0 : 0 ≤ k) (k1 : k < ringsN t) : t ≤ szN k ↔ k + 1 = ringsN t := by
  have hb := ringsN_in t
  have v0 : szN 0 = 4 := by decide
  have v1 : szN 1 = 8 := by decide
  have v2 : szN 2 = 16 := by decide
  have v3 : szN 3 = 32 := by decide
  have v4 : szN 4 = 64 := by decide
  have h : k = 0 ∨ k = 1 ∨ k = 2 ∨ k = 3 ∨ k = 4 := by omega
  have hr : ringsN t = 1 ∧ t ≤ 4 ∨ ringsN t = 2 ∧ 4 < t ∧ t ≤ 8 ∨ ringsN t = 3 ∧ 8 < t ∧ t ≤ 16 ∨ ringsN t = 4 ∧ 16 < t ∧ t ≤ 32 ∨ ringsN t = 5 ∧ 32 < t := by
    unfold ringsN
    repeat' split
    all_goals omega
  rcases h with rfl | rfl | rfl | rfl | rfl
  · rw [v0]; omega
  · rw [v1]; omega
  · rw [v2]; omega
  · rw [v3]; omega
  · rw [v4]; omega
theorem lyFit_lay (c : Cf) (h : c.can) : LyFit (lyOf c) := by
  have hl := lyOk_of c h
  have r0 : 1 ≤ c.seats ∧ c.seats ≤ 8 := h.1.1 0 (by omega)
  have r3 : 1 ≤ c.tasks ∧ c.tasks ≤ 64 := h.1.1 3 (by omega)
  have hb := hl.b0
  exact ⟨r3.1, r3.2, by show 0 ≤ c.seats; omega, r0.2, by omega, by omega⟩
def RgRel (w : World) (n : Int) (g b : Nat) (c : Cf) (l : Ly) (z i : Value) (wr : World) : Prop :=
  ∃ k : Nat, (k : Int) + 1 ≤ n ∧ i = .int .i64 k ∧ z = .int .i64 (szN k) ∧ Below w.heap.size w wr ∧ Bk wr b 23 (cfC c) ∧ Bk wr g 26 (lyC l)

set_option maxRecDepth 100000 in
set_option maxHeartbeats 16000000 in
theorem rings_law (c : Cf) (i : Int) (w : World) (i0 : 0 ≤ i) (i1 : i < 256) : Calls Try.prog 6 #[cfV c, .int .u8 i] w (BoolBelow true w) := by
  go_enter Try.func6, Try.ntmps6
  go_wp2_with fail
  (with_reducible refine (shown_any _).mono ?_)
  rintro e w1 ⟨rfl, hb⟩
  have k2 := (Bk.made w 23 (cfC c)).keep hb
  have hbl := below_tr (below_al (Below.refl w.heap.size w) (.cells (cfC c) 23)) hb
  clear hb
  go_wp2_with (refine wpList_load_row rfl 23 (.tmp 2) rfl w.heap.size rfl 23 (cfC c) (0, 0) _ k2 Try.underlying23 rfl (by kernel_rfl) ?_)
  (with_reducible refine (rof_any c _).mono ?_)
  rintro e w2 ⟨l, er, rfl, hcase, hb⟩
  replace k2 := k2.keep hb
  replace hbl := below_tr hbl hb
  clear hb
  have k6 := Bk.made w2 26 (lyC l)
  replace k2 := k2.alloc (.cells (lyC l) 26)
  replace hbl := below_al hbl (.cells (lyC l) 26)
  rcases hcase with ⟨hcan, hL, rfl⟩ | ⟨hcan, hL, rfl⟩
  rotate_left
  · clear hL hcan
    go_upto_region 3 with (refine wpList_store_new rfl 26 (.tmp 6) (.tmp 17) rfl rfl w2.heap.size _ _ (lyC l) rfl rfl rfl rfl (by kernel_rfl) rfl (by simp [Value.oneCell']) ?_; (generalize w2.alloc (.cells (lyC l) 26) = w3 at *))
    go_wp2
    go_ret
    exact ⟨rfl, hbl⟩
  have r0 : 1 ≤ c.seats ∧ c.seats ≤ 8 := hcan.1.1 0 (by omega)
  have r3 : 1 ≤ c.tasks ∧ c.tasks ≤ 64 := hcan.1.1 3 (by omega)
  have hf := lyFit_lay c hcan
  rw [← hL] at hf
  have hlc : l.c = c := by rw [hL]; rfl
  have htask : l.ring + l.c.seats * aheadN (ringsN l.c.tasks) = l.task := by rw [hL]; exact (lyOk_of c hcan).task
  have t1 : 1 ≤ l.c.tasks := hf.t1
  have t2 : l.c.tasks ≤ 64 := hf.t2
  have hse : l.c.seats = c.seats := by rw [hlc]
  have hta : l.c.tasks = c.tasks := by rw [hlc]
  have HF := Lib.hid hf
  have HT := Lib.hid (And.intro htask (And.intro hse hta))
  clear hcan hL hlc hf htask hse hta
  go_upto_region 3 with (refine wpList_store_new rfl 26 (.tmp 6) (.tmp 17) rfl rfl w2.heap.size _ _ (lyC l) rfl rfl rfl rfl (by kernel_rfl) rfl (by simp [Value.oneCell']) ?_; (generalize w2.alloc (.cells (lyC l) 26) = w3 at *))
  generalize w2.heap.size = g at *
  have s0 : 0 ≤ i % c.seats := Int.emod_nonneg _ (by omega)
  have s1 : i % c.seats < c.seats := Int.emod_lt_of_pos _ (by omega)
  obtain ⟨s, hs⟩ : ∃ s, i % c.seats = s := ⟨_, rfl⟩
  rw [hs] at s0 s1
  have q0 := k2.cell 0
  simp at q0
  go_wp2_with (refine wpList_load_row rfl 26 (.tmp 6) rfl g rfl 26 (lyC l) (0, 0) _ k6 Try.underlying26 rfl (by kernel_rfl) ?_)
  (with_reducible refine (rings_any l _ t1 t2).mono ?_)
  rintro e w4 ⟨rfl, hb⟩
  replace k2 := k2.keep hb
  replace k6 := k6.keep hb
  replace hbl := below_tr hbl hb
  clear hb q0 hs
  have hn := ringsN_in l.c.tasks
  have hrings := HT.out.2.2
  obtain ⟨n, hnn⟩ : ∃ n, ringsN l.c.tasks = n := ⟨_, rfl⟩
  rw [hnn] at hn ⊢
  have hrc : ringsN c.tasks = n := by rw [← hrings]; exact hnn
  have hst : ∀ k, 0 ≤ k → k < n → (c.tasks ≤ szN k ↔ k + 1 = n) := fun k k0 k1 => by
    have := sz_tasks c.tasks k r3.1 r3.2 k0 (by rw [hrc]; exact k1)
    rw [hrc] at this
    exact this
  have HN := Lib.hid (And.intro hnn hst)
  clear hnn hst hrings hrc
  have g1 : decide (n < 1) = false := by simp; omega
  have g2 : decide (6 < n) = false := by simp; omega
  go_wp2_with fail
  go_loopw [10, 11, 35, 36, 37, 38, 39, 40, 41, 42, 43, 44, 45, 46, 47, 48, 49, 50, 51, 52, 53, 54, 55, 56, 57, 58, 59, 60] (fun z i _ _ _ _ _ _ _ _ _ _ _ _ _ _ _ _ _ _ _ _ _ _ _ _ _ _ wr => RgRel w n g w.heap.size c l z i wr) (fun z i _ _ _ _ _ _ _ _ _ _ _ _ _ _ _ _ _ _ _ _ _ _ _ _ _ _ _ => n.toNat - (intOf i).toNat)
  case atStart => exact ⟨0, by omega, rfl, rfl, hbl, k2, k6⟩
  case round =>
    clear hbl k2 k6 g1 g2
    obtain ⟨k, hk, rfl, rfl, hbl, k2, k6⟩ := hrel
    have hz := sz_in k
    have hrk : ringAt l s k = l.ring + s * aheadN n + aheadN k := by
      have := ringAt_eq l s k (by rw [HN.out.1]; have := HT.out.2.1; omega)
      rw [HN.out.1] at this
      exact this
    have hri := ringAt_in l s k HF.out
    by_cases hlt : (k : Int) + 1 < n
    · have g3 : decide ((k : Int) + 1 < n) = true := by simp; omega
      have hrk1 : ringAt l s (k + 1) = ringAt l s k + szN k := by
        have := ringAt_eq l s (k + 1) (by rw [HN.out.1]; have := HT.out.2.1; omega)
        rw [HN.out.1] at this
        rw [this, hrk, sz_ahead k (by omega) (by omega)]
        omega
      have hsmall : ¬ c.tasks ≤ szN k := fun h => by have := (HN.out.2 k (by omega) (by omega)).1 h; omega
      have g4 : decide (c.tasks ≤ szN k) = false := by simp; omega
      have hz2 := sz_twice k (by omega) (by omega)
      have HZ := Lib.hid hz2
      have g5 : (ringAt l s (k + 1) != ringAt l s k + szN k) = false := by rw [hrk1]; simp
      clear hrk hrk1 hsmall hz2
      go_upto_region 13 with fail
      have hS : Bk wr.drew w.heap.size 23 (cfC c) ∧ Bk wr.drew g 26 (lyC l) := ⟨k2.drew, k6.drew⟩
      refine wp_region_held_drew (S := fun w' => Bk w' w.heap.size 23 (cfC c) ∧ Bk w' g 26 (lyC l)) (by kernel_rfl) hS (fun hHeld => ?_)
      replace hbl := hbl.drew
      clear hHeld k2 k6
      generalize wr.drew = wa at *
      have wa1 : IntKind.i64.wrap ((k : Int) + 1) = k + 1 := wrap_in _ (by omega) (by omega)
      refine wpAnyH_take (i := 0) (oi := _) (v := .int .i64 (szN k)) rfl (by kernel_rfl) (by kernel_rfl) (by kernel_rfl) (fun _ _ _ h => h) (Or.inl ⟨by rfl, ?_⟩) hS ?_
      · intro w' hSw
        (try simp only [List.getElem_toArray, List.getElem_cons_succ, List.getElem_cons_zero])
        go_simp
      (try simp only [List.getElem_toArray, List.getElem_cons_succ, List.getElem_cons_zero, Act.put, List.setIfInBounds_toArray, List.set_cons_zero, List.set_cons_succ])
      refine wpAnyH_take (i := 1) (oi := _) (v := .pointer (some ⟨w.heap.size, 4, none⟩)) rfl (by kernel_rfl) (by kernel_rfl) (by kernel_rfl) (fun _ _ _ h => h) (Or.inl ⟨by rfl, ?_⟩) hS ?_
      · intro w' hSw
        (try simp only [List.getElem_toArray, List.getElem_cons_succ, List.getElem_cons_zero])
        go_simp
      (try simp only [List.getElem_toArray, List.getElem_cons_succ, List.getElem_cons_zero, Act.put, List.setIfInBounds_toArray, List.set_cons_zero, List.set_cons_succ])
      refine wpAnyH_take (i := 2) (oi := _) (v := .int .i64 c.tasks) rfl (by kernel_rfl) (by kernel_rfl) (by kernel_rfl) (fun _ _ _ h => h) (Or.inl ⟨by rfl, ?_⟩) hS ?_
      · intro w' hSw
        (try simp only [List.getElem_toArray, List.getElem_cons_succ, List.getElem_cons_zero])
        have hq := hSw.1.cell 4
        simp at hq
        go_simp
      (try simp only [List.getElem_toArray, List.getElem_cons_succ, List.getElem_cons_zero, Act.put, List.setIfInBounds_toArray, List.set_cons_zero, List.set_cons_succ])
      refine wpAnyH_take (i := 3) (oi := _) (v := .bool false) rfl (by kernel_rfl) (by kernel_rfl) (by kernel_rfl) (fun _ _ _ h => h) (Or.inl ⟨by rfl, ?_⟩) hS ?_
      · intro w' hSw
        (try simp only [List.getElem_toArray, List.getElem_cons_succ, List.getElem_cons_zero])
        go_simp
      (try simp only [List.getElem_toArray, List.getElem_cons_succ, List.getElem_cons_zero, Act.put, List.setIfInBounds_toArray, List.set_cons_zero, List.set_cons_succ])
      refine wpAnyH_take (i := 4) (oi := _) (v := .bool false) rfl (by kernel_rfl) (by kernel_rfl) (by kernel_rfl) (fun _ _ _ h => h) (Or.inl ⟨by rfl, ?_⟩) hS ?_
      · intro w' hSw
        (try simp only [List.getElem_toArray, List.getElem_cons_succ, List.getElem_cons_zero])
        go_simp
      (try simp only [List.getElem_toArray, List.getElem_cons_succ, List.getElem_cons_zero, Act.put, List.setIfInBounds_toArray, List.set_cons_zero, List.set_cons_succ])
      refine wpAnyH_take (i := 5) (oi := _) (v := .agg (lyC l)) rfl (by kernel_rfl) (by kernel_rfl) (by kernel_rfl) (fun _ _ _ h => h) (Or.inl ⟨by rfl, ?_⟩) hS ?_
      · intro w' hSw
        (try simp only [List.getElem_toArray, List.getElem_cons_succ, List.getElem_cons_zero])
        simp only [execOp, Instr.loadAt, Instr.sureAddr, Sem.run_bind, Sem.run_pure, Result.andThen_ok]
        rw [show (Act.eval _ (Operand.tmp 6)) = Value.pointer (some ⟨g, 0, none⟩) from rfl]
        simp only [Instr.loadAt, Instr.sureAddr, Sem.run_bind, Sem.run_pure, Result.andThen_ok, run_loadVar_row w' g 26 26 (lyC l) (0, 0) _ hSw.2 Try.underlying26 rfl (by kernel_rfl)]
      (try simp only [List.getElem_toArray, List.getElem_cons_succ, List.getElem_cons_zero, Act.put, List.setIfInBounds_toArray, List.set_cons_zero, List.set_cons_succ])
      refine wpAnyH_take (i := 6) (oi := _) (v := .int .i64 s) rfl (by kernel_rfl) (by kernel_rfl) (by kernel_rfl) (fun _ _ _ h => h) (Or.inl ⟨by rfl, ?_⟩) hS ?_
      · intro w' hSw
        (try simp only [List.getElem_toArray, List.getElem_cons_succ, List.getElem_cons_zero])
        go_simp
      (try simp only [List.getElem_toArray, List.getElem_cons_succ, List.getElem_cons_zero, Act.put, List.setIfInBounds_toArray, List.set_cons_zero, List.set_cons_succ])
      refine wpAnyH_take (i := 7) (oi := _) (v := .int .i64 k) rfl (by kernel_rfl) (by kernel_rfl) (by kernel_rfl) (fun _ _ _ h => h) (Or.inl ⟨by rfl, ?_⟩) hS ?_
      · intro w' hSw
        (try simp only [List.getElem_toArray, List.getElem_cons_succ, List.getElem_cons_zero])
        go_simp
      (try simp only [List.getElem_toArray, List.getElem_cons_succ, List.getElem_cons_zero, Act.put, List.setIfInBounds_toArray, List.set_cons_zero, List.set_cons_succ])
      refine wpAnyH_take (i := 8) (oi := _) (v := .int .i64 (k + 1)) rfl (by kernel_rfl) (by kernel_rfl) (by kernel_rfl) (fun _ _ _ h => h) (Or.inl ⟨by rfl, ?_⟩) hS ?_
      · intro w' hSw
        (try simp only [List.getElem_toArray, List.getElem_cons_succ, List.getElem_cons_zero])
        go_simp
      (try simp only [List.getElem_toArray, List.getElem_cons_succ, List.getElem_cons_zero, Act.put, List.setIfInBounds_toArray, List.set_cons_zero, List.set_cons_succ])
      refine wpAnyH_take (i := 10) (oi := _) (v := .agg (lyC l)) rfl (by kernel_rfl) (by kernel_rfl) (by kernel_rfl) (fun _ _ _ h => h) (Or.inl ⟨by rfl, ?_⟩) hS ?_
      · intro w' hSw
        (try simp only [List.getElem_toArray, List.getElem_cons_succ, List.getElem_cons_zero])
        simp only [execOp, Instr.loadAt, Instr.sureAddr, Sem.run_bind, Sem.run_pure, Result.andThen_ok]
        rw [show (Act.eval _ (Operand.tmp 6)) = Value.pointer (some ⟨g, 0, none⟩) from rfl]
        simp only [Instr.loadAt, Instr.sureAddr, Sem.run_bind, Sem.run_pure, Result.andThen_ok, run_loadVar_row w' g 26 26 (lyC l) (0, 0) _ hSw.2 Try.underlying26 rfl (by kernel_rfl)]
      (try simp only [List.getElem_toArray, List.getElem_cons_succ, List.getElem_cons_zero, Act.put, List.setIfInBounds_toArray, List.set_cons_zero, List.set_cons_succ])
      refine wpAnyH_take (i := 11) (oi := _) (v := .int .i64 s) rfl (by kernel_rfl) (by kernel_rfl) (by kernel_rfl) (fun _ _ _ h => h) (Or.inl ⟨by rfl, ?_⟩) hS ?_
      · intro w' hSw
        (try simp only [List.getElem_toArray, List.getElem_cons_succ, List.getElem_cons_zero])
        go_simp
      (try simp only [List.getElem_toArray, List.getElem_cons_succ, List.getElem_cons_zero, Act.put, List.setIfInBounds_toArray, List.set_cons_zero, List.set_cons_succ])
      refine wpAnyH_take (i := 12) (oi := _) (v := .int .i64 k) rfl (by kernel_rfl) (by kernel_rfl) (by kernel_rfl) (fun _ _ _ h => h) (Or.inl ⟨by rfl, ?_⟩) hS ?_
      · intro w' hSw
        (try simp only [List.getElem_toArray, List.getElem_cons_succ, List.getElem_cons_zero])
        go_simp
      (try simp only [List.getElem_toArray, List.getElem_cons_succ, List.getElem_cons_zero, Act.put, List.setIfInBounds_toArray, List.set_cons_zero, List.set_cons_succ])
      refine wpAnyH_take (i := 14) (oi := _) (v := .int .i64 (szN k)) rfl (by kernel_rfl) (by kernel_rfl) (by kernel_rfl) (fun _ _ _ h => h) (Or.inl ⟨by rfl, ?_⟩) hS ?_
      · intro w' hSw
        (try simp only [List.getElem_toArray, List.getElem_cons_succ, List.getElem_cons_zero])
        go_simp
      (try simp only [List.getElem_toArray, List.getElem_cons_succ, List.getElem_cons_zero, Act.put, List.setIfInBounds_toArray, List.set_cons_zero, List.set_cons_succ])
      refine wpAnyH_ready (rs := [9]) (by kernel_rfl) (by simp) ?_
      refine AllReadyH.cons (o := _) rfl (fun K hK => ?_) AllReadyH.nil
      (try simp only [List.getElem_toArray, List.getElem_cons_succ, List.getElem_cons_zero])
      go_simp
      (with_reducible refine (ring_any l s (k + 1) _ HF.out).mono ?_)
      rintro e w5 ⟨rfl, hb⟩
      replace hS := And.intro (hS.1.keep hb) (hS.2.keep hb)
      replace hbl := below_tr hbl hb
      refine hK.out _ _ hS (fun hS' => ?_)
      clear hS' hK K hb
      (try simp only [List.getElem_toArray, List.getElem_cons_succ, List.getElem_cons_zero, Act.put, List.setIfInBounds_toArray, List.set_cons_zero, List.set_cons_succ])
      refine wpAnyH_ready (rs := [13]) (by kernel_rfl) (by simp) ?_
      refine AllReadyH.cons (o := _) rfl (fun K hK => ?_) AllReadyH.nil
      (try simp only [List.getElem_toArray, List.getElem_cons_succ, List.getElem_cons_zero])
      go_simp
      (with_reducible refine (ring_any l s k _ HF.out).mono ?_)
      rintro e w6 ⟨rfl, hb⟩
      replace hS := And.intro (hS.1.keep hb) (hS.2.keep hb)
      replace hbl := below_tr hbl hb
      refine hK.out _ _ hS (fun hS' => ?_)
      clear hS' hK K hb
      (try simp only [List.getElem_toArray, List.getElem_cons_succ, List.getElem_cons_zero, Act.put, List.setIfInBounds_toArray, List.set_cons_zero, List.set_cons_succ])
      clear wa1
      generalize ringAt l s (k + 1) = b1 at *
      generalize ringAt l s k = b0 at *
      generalize hzk : szN k = z at *
      have HZK := Lib.hid hzk
      clear hzk
      refine wpAnyH_take (i := 15) (oi := _) (v := .int .i64 (b0 + z)) rfl (by kernel_rfl) (by kernel_rfl) (by kernel_rfl) (fun _ _ _ h => h) (Or.inl ⟨by rfl, ?_⟩) hS ?_
      · intro w' hSw
        (try simp only [List.getElem_toArray, List.getElem_cons_succ, List.getElem_cons_zero])
        go_simp
        exact wrap_in _ (by omega) (by omega)
      (try simp only [List.getElem_toArray, List.getElem_cons_succ, List.getElem_cons_zero, Act.put, List.setIfInBounds_toArray, List.set_cons_zero, List.set_cons_succ])
      refine wpAnyH_take (i := 16) (oi := _) (v := .bool false) rfl (by kernel_rfl) (by kernel_rfl) (by kernel_rfl) (fun _ _ _ h => h) (Or.inl ⟨by rfl, ?_⟩) hS ?_
      · intro w' hSw
        (try simp only [List.getElem_toArray, List.getElem_cons_succ, List.getElem_cons_zero])
        go_simp
      (try simp only [List.getElem_toArray, List.getElem_cons_succ, List.getElem_cons_zero, Act.put, List.setIfInBounds_toArray, List.set_cons_zero, List.set_cons_succ])
      refine wpAnyH_take (i := 17) (oi := _) (v := .bool false) rfl (by kernel_rfl) (by kernel_rfl) (by kernel_rfl) (fun _ _ _ h => h) (Or.inl ⟨by rfl, ?_⟩) hS ?_
      · intro w' hSw
        (try simp only [List.getElem_toArray, List.getElem_cons_succ, List.getElem_cons_zero])
        go_simp
      (try simp only [List.getElem_toArray, List.getElem_cons_succ, List.getElem_cons_zero, Act.put, List.setIfInBounds_toArray, List.set_cons_zero, List.set_cons_succ])
      refine wpAnyH_done (by kernel_rfl) ?_ _
      clear g5
      go_wp2
      go_roundw
      case rel => exact ⟨k + 1, by omega, by go_num, by rw [show ((k + 1 : Nat) : Int) = (k : Int) + 1 from rfl, HZ.out], hbl, hS.1, hS.2⟩
      case measure => simp [intOf]; omega
    · have g3 : decide ((k : Int) + 1 < n) = false := by simp; omega
      have hkn : (k : Int) = n - 1 := by omega
      have hge : c.tasks ≤ szN k := (HN.out.2 k (by omega) (by omega)).2 (by omega)
      have g4 : decide (c.tasks ≤ szN k) = true := by simp; omega
      have hend : ringAt l s (n - 1) + szN k = l.ring + s * aheadN n + aheadN n := by
        have := sz_ahead k (by omega) (by omega)
        rw [show (k : Int) + 1 = n by omega] at this
        rw [← hkn, hrk, this]
        omega
      have hnone : ringAt l s n = -1 := by
        unfold ringAt
        rw [if_neg (by rw [HN.out.1]; omega)]
      have hri2 : ringAt l s (n - 1) = -1 ∨ 0 ≤ ringAt l s (n - 1) ∧ ringAt l s (n - 1) ≤ 1010000 := ringAt_in l s (n - 1) HF.out
      have HNO := Lib.hid hnone
      have HEND := Lib.hid hend
      have htk := HT.out.1
      rw [HN.out.1, HT.out.2.1] at htk
      have HTK := Lib.hid htk
      have q0 := k2.cell 0
      have q18 := k6.cell 18
      simp at q0 q18
      clear hrk hri hend hnone htk hkn hge
      by_cases hs2 : s + 1 < c.seats
      · have g5 : decide (s + 1 < c.seats) = true := by simp; omega
        have hnx : ringAt l (s + 1) 0 = l.ring + s * aheadN n + aheadN n := by
          have := ringAt_eq l (s + 1) 0 (by rw [HN.out.1]; have := HT.out.2.1; omega)
          rw [HN.out.1, Int.add_mul, show aheadN 0 = 0 from rfl] at this
          rw [this]
          omega
        have g6 : (ringAt l s (n - 1) + szN k == ringAt l (s + 1) 0) = true := by rw [HEND.out, hnx]; simp
        clear hnx
        go_wp2_with (refine wpList_load_row rfl 26 (.tmp 6) rfl g rfl 26 (lyC l) (0, 0) _ k6 Try.underlying26 rfl (by kernel_rfl) ?_)
        (with_reducible refine (ring_any l (s + 1) 0 _ HF.out).mono ?_)
        rintro e w5 ⟨rfl, hb⟩
        replace k2 := k2.keep hb
        replace k6 := k6.keep hb
        replace hbl := below_tr hbl hb
        clear hb q0 q18
        have q4 := k2.cell 4
        simp at q4
        go_wp2_with (refine wpList_load_rowG (by rfl) 26 (.tmp 6) rfl g rfl 26 (lyC l) (0, 0) _ k6 Try.underlying26 rfl (by kernel_rfl) ?_)
        (with_reducible refine (ring_any l s (n - 1) _ HF.out).mono ?_)
        rintro e w6 ⟨rfl, hb⟩
        replace k6 := k6.keep hb
        replace hbl := below_tr hbl hb
        clear hb
        go_wp2_with (refine wpList_load_rowG (by rfl) 26 (.tmp 6) rfl g rfl 26 (lyC l) (0, 0) _ k6 Try.underlying26 rfl (by kernel_rfl) ?_)
        (with_reducible refine (ring_any l s n _ HF.out).mono ?_)
        rintro e w7 ⟨rfl, hb⟩
        rw [HNO.out]
        replace hbl := below_tr hbl hb
        clear hb
        generalize ringAt l s (n - 1) = a at *
        generalize szN k = z at *
        go_wp2
        go_ret
        exact ⟨rfl, hbl⟩
      · have g5 : decide (s + 1 < c.seats) = false := by simp; omega
        have g6 : (ringAt l s (n - 1) + szN k == l.task) = true := by
          have h1 := HTK.out
          rw [show c.seats = s + 1 by omega, Int.add_mul] at h1
          rw [HEND.out, ← h1]
          simp
          omega
        have q4 := k2.cell 4
        simp at q4
        go_wp2_with (refine wpList_load_rowG (by rfl) 26 (.tmp 6) rfl g rfl 26 (lyC l) (0, 0) _ k6 Try.underlying26 rfl (by kernel_rfl) ?_)
        (with_reducible refine (ring_any l s (n - 1) _ HF.out).mono ?_)
        rintro e w6 ⟨rfl, hb⟩
        replace k6 := k6.keep hb
        replace hbl := below_tr hbl hb
        clear hb
        go_wp2_with (refine wpList_load_rowG (by rfl) 26 (.tmp 6) rfl g rfl 26 (lyC l) (0, 0) _ k6 Try.underlying26 rfl (by kernel_rfl) ?_)
        (with_reducible refine (ring_any l s n _ HF.out).mono ?_)
        rintro e w7 ⟨rfl, hb⟩
        rw [HNO.out]
        replace hbl := below_tr hbl hb
        clear hb
        generalize ringAt l s (n - 1) = a at *
        generalize szN k = z at *
        go_wp2
        go_ret
        exact ⟨rfl, hbl⟩
end Go.Proofs.Ythaieabhlodajaa
