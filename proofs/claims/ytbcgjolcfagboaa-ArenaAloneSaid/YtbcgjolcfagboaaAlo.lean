/- ArenaAlone. Printed by alo_gen.py. -/
import Derived.Test.YtbcgjolcfagboaaOnc
namespace Go.Proofs.Ytbcgjolcfagboaa
open Go.RowKit
set_option linter.unusedVariables false
attribute [local go_sem ↓] Go.wp_at_zero Go.wp_at_succ

/-- Accesses since the last end, and how many ended. -/
def alF (a : Nat × Nat) (s : StepA) : Nat × Nat := if s.done then (0, a.2 + 1) else (a.1 + 1, a.2)
def alS (steps : List StepA) : Nat × Nat := steps.foldl alF (0, 0)
def alOk (M : Nat) (steps : List StepA) : Bool := (List.range steps.length).all fun k => match steps[k]? with
  | some s => !s.done || (decide ((alS (steps.take k)).1 = if M ≤ (alS (steps.take k)).2 then 1 else 5) && (s.is == decide ((alS (steps.take k)).2 < M)))
  | none => true
def alAll (r k : Nat) : Bool :=
  let l := playL 1 r
  let R := endA l 1 [List.replicate k 0] []
  alOk l.c.nodes.toNat R.2 && decide ((alS R.2).2 = k) && decide (hasSum R.1.seats = min k l.c.nodes.toNat)
theorem al_all : ((List.range 6).all fun r => (List.range 7).all fun k => alAll r k) = true := by decide +kernel
theorem playL_mod (n : Nat) (t : Int) : playL n t = playL n (t % 6) := by unfold playL playCf; rw [Int.emod_emod_of_dvd t (by decide)]
theorem al_facts (t : Int) (k : Nat) (hk : k ≤ 6) : alOk (playL 1 t).c.nodes.toNat (endA (playL 1 t) 1 [List.replicate k 0] []).2 = true ∧ (alS (endA (playL 1 t) 1 [List.replicate k 0] []).2).2 = k ∧ hasSum (endA (playL 1 t) 1 [List.replicate k 0] []).1.seats = min k (playL 1 t).c.nodes.toNat := by
  have m0 : 0 ≤ t % 6 := Int.emod_nonneg _ (by omega)
  have m1 : t % 6 < 6 := Int.emod_lt_of_pos _ (by omega)
  rw [playL_mod 1 t]
  obtain ⟨r, hr⟩ : ∃ r : Nat, t % 6 = r := ⟨(t % 6).toNat, by omega⟩
  rw [hr]
  have h := List.all_eq_true.1 (List.all_eq_true.1 al_all r (List.mem_range.2 (by omega))) k (List.mem_range.2 (by omega))
  simp only [alAll, Bool.and_eq_true, decide_eq_true_eq] at h
  exact ⟨h.1.1, h.1.2, h.2⟩
theorem alS_take {steps : List StepA} {k : Nat} {x : StepA} (hx : steps[k]? = some x) : alS (steps.take (k + 1)) = alF (alS (steps.take k)) x := by
  unfold alS
  rw [List.take_add_one, hx]
  simp
theorem alS_le : ∀ (steps : List StepA) (a : Nat × Nat), (steps.foldl alF a).1 ≤ a.1 + steps.length ∧ (steps.foldl alF a).2 ≤ a.2 + steps.length := by
  intro steps
  induction steps with
  | nil => intro a; simp
  | cons s r ih =>
    intro a
    have := ih (alF a s)
    simp only [List.foldl_cons, List.length_cons]
    unfold alF at *
    split at this <;> (dsimp only at *; rename_i h; simp only [h, if_true, Bool.false_eq_true, if_false] at *; omega)
def zeros (k : Nat) : List Value := List.replicate k (.int .u8 0)
def A1Rel (w : World) (bP gW bL n : Nat) (t : Int) (l : Ly) (v9 : Value) (wr : World) : Prop :=
  ∃ k : Nat, k ≤ n ∧ k ≤ 6 ∧ v9 = .int .i64 k ∧ Below w.heap.size w wr ∧ Bk wr bP 25 (playC t (some ⟨gW, 0, none⟩) 1 1 none 0 0) ∧ Bk wr bL 31 (lyC l) ∧ ∃ G c, Bk wr gW 23 #[.slice G k c] ∧ wr.ownsRow w.heap.size 5 1 (.slice G k c) k (zeros k)
def A2Rel (w5 : World) (N : Nat) (steps : List StepA) (v12 v13 v14 : Value) (wr : World) : Prop :=
  ∃ k : Nat, k ≤ N ∧ v14 = .int .i64 k ∧ v12 = .int .i64 ((alS (steps.take k)).1 : Nat) ∧ v13 = .int .i64 ((alS (steps.take k)).2 : Nat) ∧ Below w5.heap.size w5 wr
theorem u8_info : (Try.prog.info? 5).map (fun i => (i.zero, i.size, i.bytes)) = some (some (.int .u8 0), 1, 1) := by kernel_rfl
theorem u8_rowT : ∃ i, RowT Try.prog 23 5 i (.int .u8 0) 1 1 := RowT.of Try.underlying23 u8_info rfl (by decide)
set_option maxRecDepth 1000000 in
set_option maxHeartbeats 16000000 in
theorem alone_any (t mn : Int) (w : World) (t0 : 0 ≤ t) (t1 : t < 256) (m0 : 0 ≤ mn) (m1 : mn < 256) : Calls Try.prog 4 #[.int .u8 t, .int .u8 mn] w (BoolBelow true w) := by
  obtain ⟨q, hq⟩ : ∃ q : Nat, mn % 7 = q := ⟨(mn % 7).toNat, by omega⟩
  have hq7 : q < 7 := by omega
  have hmod : (7 : Int) ≠ 0 := by decide
  go_enter Try.func4, Try.ntmps4
  go_wp2_with fail
  (with_reducible refine (awake_any _).mono ?_)
  rintro e w1 ⟨rfl, hb1⟩
  go_upto_region 3 with fail
  have kW := (Bk.made w1 23 #[.slice none 0 0]).alloc (.cells (playC t (some ⟨w1.heap.size, 0, none⟩) 1 1 none 0 0) 25)
  have kP := Bk.new (w1.alloc (.cells #[.slice none 0 0] 23)) (g := w1.heap.size + 1) (by simp) 25 (playC t (some ⟨w1.heap.size, 0, none⟩) 1 1 none 0 0)
  have hbl := below_al (below_al hb1 (.cells #[.slice none 0 0] 23)) (.cells (playC t (some ⟨w1.heap.size, 0, none⟩) 1 1 none 0 0) 25)
  have z1 : w.heap.size ≤ w1.heap.size := hb1.size
  clear hb1
  generalize (w1.alloc (.cells #[.slice none 0 0] 23)).alloc (.cells (playC t (some ⟨w1.heap.size, 0, none⟩) 1 1 none 0 0) 25) = w2 at *
  obtain ⟨gW, hgW⟩ : ∃ g, w1.heap.size = g := ⟨_, rfl⟩
  obtain ⟨bP, hbP⟩ : ∃ g, w1.heap.size + 1 = g := ⟨_, rfl⟩
  rw [hbP] at kP ⊢
  rw [hgW] at kW kP z1 ⊢
  have zWP : gW < bP := by omega
  clear hgW hbP
  have q0 := kP.cell 0
  have q1 := kP.cell 1
  have q2 := kP.cell 2
  simp at q0 q1 q2
  go_wp2_with fail
  (with_reducible refine (where_any t (some ⟨gW, 0, none⟩) 1 1 none 0 0 _ t0 t1 (by omega) (by omega)).mono ?_)
  rintro e w3 ⟨rfl, hb⟩
  replace kW := kW.keep hb
  replace kP := kP.keep hb
  replace hbl := below_tr hbl hb
  clear hb q0 q1 q2
  have HOK := Lib.hid (layOk_of (layB_play 1 t (by omega) (by omega)))
  have HFL : Hid (LyFull (playL 1 t)) := Lib.hid (lyFull_of _ (playCf_can 1 t (by omega) (by omega)))
  have HFA := Lib.hid (fun k hk => al_facts t k hk)
  obtain ⟨l, hl⟩ : ∃ l, playL 1 t = l := ⟨_, rfl⟩
  rw [hl] at HOK HFL HFA
  rw [hl]
  have HL := Lib.hid hl
  clear hl
  go_upto_region 4 with (refine wpList_store_new rfl 31 (.tmp 7) (.tmp 21) rfl rfl w3.heap.size _ _ (lyC l) rfl rfl rfl rfl (by kernel_rfl) rfl (by simp [Value.oneCell']) ?_)
  have kL := Bk.made w3 31 (lyC l)
  replace kW := kW.alloc (.cells (lyC l) 31)
  replace kP := kP.alloc (.cells (lyC l) 31)
  replace hbl := below_al hbl (.cells (lyC l) 31)
  generalize w3.alloc (.cells (lyC l) 31) = w4 at *
  generalize w3.heap.size = bL at *
  have hm7 : IntKind.u8.wrap (mn % 7) = mn % 7 := by rw [hq]; exact IntWalk.u8_in _ (by omega)
  have ht7 : Int.tmod mn 7 = q := by rw [Int.tmod_eq_emod_of_nonneg (by omega), hq]
  go_wp2_with fail
  have HQ := Lib.hid hq
  clear hm7 ht7 hmod hq
  obtain ⟨n, hn⟩ : ∃ n : Nat, q + 1 = n := ⟨_, rfl⟩
  have hnI : (q : Int) + 1 = (n : Int) := by omega
  rw [hnI]
  have hn7 : 1 ≤ n ∧ n ≤ 7 := by omega
  clear hn hnI hq7
  obtain ⟨inf, hri⟩ := u8_rowT
  go_loopw [9] (fun v9 wr => A1Rel w bP gW bL n t l v9 wr) (fun v9 _ => 7 - (intOf v9).toNat)
  case atStart => exact ⟨0, Nat.zero_le _, Nat.zero_le _, rfl, hbl, kP, kL, none, 0, kW, World.ownsRow_nil _ _ _ _⟩
  case round =>
    clear kP kL kW hbl
    obtain ⟨k, hk, hk6, rfl, hbl, kP, kL, G, c, kW, hown⟩ := hrel
    by_cases hlt : k < n ∧ k < 6
    · have g1 : (k : Int) < n := by omega
      have g2 : (k : Int) < 6 := by omega
      go_upto_region 8 with fail
      refine wp_region_E (S := fun w' => Bk w' bP 25 (playC t (some ⟨gW, 0, none⟩) 1 1 none 0 0) ∧ Bk w' gW 23 #[.slice G k c]) (E := fun i => i == 9) (by kernel_rfl) ?_
      replace kP := kP.drew
      replace kL := kL.drew
      replace kW := kW.drew
      replace hbl := hbl.drew
      replace hown : wr.drew.ownsRow w.heap.size 5 1 (.slice G k c) k (zeros k) := hown
      generalize wr.drew = w5 at *
      refine wpAnyE_take (i := 0) (oi := _) (v := .pointer (some ⟨bP, 1, none⟩)) rfl (by kernel_rfl) (by kernel_rfl) (by kernel_rfl) (by kernel_rfl) (fun _ _ _ h => h) (Or.inl ⟨by rfl, ?_⟩) ⟨kP, kW⟩ ?_
      · intro w' hSw
        (try simp only [List.getElem_toArray, List.getElem_cons_zero])
        go_simp
      (try simp only [List.getElem_toArray, List.getElem_cons_zero, Act.put, List.setIfInBounds_toArray, List.set_cons_zero, List.set_cons_succ])
      refine wpAnyE_take (i := 1) (oi := _) (v := .slice (some ⟨gW, 0, none⟩) 1 1) rfl (by kernel_rfl) (by kernel_rfl) (by kernel_rfl) (by kernel_rfl) (fun _ _ _ h => h) (Or.inl ⟨by rfl, ?_⟩) ⟨kP, kW⟩ ?_
      · intro w' hSw
        have s1 := hSw.1.cell 1
        (try simp at s1)
        (try simp only [List.getElem_toArray, List.getElem_cons_succ, List.getElem_cons_zero])
        go_simp
      (try simp only [List.getElem_toArray, List.getElem_cons_succ, List.getElem_cons_zero, Act.put, List.setIfInBounds_toArray, List.set_cons_zero, List.set_cons_succ])
      refine wpAnyE_take (i := 2) (oi := _) (v := .pointer (some ⟨bP, 1, none⟩)) rfl (by kernel_rfl) (by kernel_rfl) (by kernel_rfl) (by kernel_rfl) (fun _ _ _ h => h) (Or.inl ⟨by rfl, ?_⟩) ⟨kP, kW⟩ ?_
      · intro w' hSw
        (try simp only [List.getElem_toArray, List.getElem_cons_succ, List.getElem_cons_zero])
        go_simp
      (try simp only [List.getElem_toArray, List.getElem_cons_succ, List.getElem_cons_zero, Act.put, List.setIfInBounds_toArray, List.set_cons_zero, List.set_cons_succ])
      refine wpAnyE_take (i := 3) (oi := _) (v := .slice (some ⟨gW, 0, none⟩) 1 1) rfl (by kernel_rfl) (by kernel_rfl) (by kernel_rfl) (by kernel_rfl) (fun _ _ _ h => h) (Or.inl ⟨by rfl, ?_⟩) ⟨kP, kW⟩ ?_
      · intro w' hSw
        have s1 := hSw.1.cell 1
        (try simp at s1)
        (try simp only [List.getElem_toArray, List.getElem_cons_succ, List.getElem_cons_zero])
        go_simp
      (try simp only [List.getElem_toArray, List.getElem_cons_succ, List.getElem_cons_zero, Act.put, List.setIfInBounds_toArray, List.set_cons_zero, List.set_cons_succ])
      refine wpAnyE_take (i := 4) (oi := _) (v := .pointer (some ⟨gW, 0, none⟩)) rfl (by kernel_rfl) (by kernel_rfl) (by kernel_rfl) (by kernel_rfl) (fun _ _ _ h => h) (Or.inl ⟨by rfl, ?_⟩) ⟨kP, kW⟩ ?_
      · intro w' hSw
        (try simp only [List.getElem_toArray, List.getElem_cons_succ, List.getElem_cons_zero])
        go_simp
      (try simp only [List.getElem_toArray, List.getElem_cons_succ, List.getElem_cons_zero, Act.put, List.setIfInBounds_toArray, List.set_cons_zero, List.set_cons_succ])
      refine wpAnyE_take (i := 5) (oi := _) (v := .slice G k c) rfl (by kernel_rfl) (by kernel_rfl) (by kernel_rfl) (by kernel_rfl) (fun _ _ _ h => h) (Or.inl ⟨by rfl, ?_⟩) ⟨kP, kW⟩ ?_
      · intro w' hSw
        have s1 := hSw.2.cell 0
        (try simp at s1)
        (try simp only [List.getElem_toArray, List.getElem_cons_succ, List.getElem_cons_zero])
        go_simp
      (try simp only [List.getElem_toArray, List.getElem_cons_succ, List.getElem_cons_zero, Act.put, List.setIfInBounds_toArray, List.set_cons_zero, List.set_cons_succ])
      have ha := Bk.made w5 5 #[.int .u8 0]
      have hba := below_al (Below.refl w5.heap.size w5) (.cells #[.int .u8 0] 5)
      refine wpAnyE_one (i := 6) (o := _) (by kernel_rfl) rfl (fun K hK => ?_)
      (try simp only [List.getElem_toArray, List.getElem_cons_succ, List.getElem_cons_zero])
      go_simp
      refine hK.out _ _ (fun _ => ⟨kP.keep hba, kW.keep hba⟩) ?_
      clear hK K
      (try simp only [List.getElem_toArray, List.getElem_cons_succ, List.getElem_cons_zero, Act.put, List.setIfInBounds_toArray, List.set_cons_zero, List.set_cons_succ])
      replace kP := kP.keep hba
      replace kL := kL.keep hba
      replace kW := kW.keep hba
      replace hown := own_keepb' hown hba
      replace hbl := below_tr hbl hba
      clear hba
      generalize w5.alloc (.cells #[.int .u8 0] 5) = w6 at *
      generalize w5.heap.size = ga at *
      refine wpAnyE_one (i := 7) (o := _) (by kernel_rfl) rfl (fun K hK => ?_)
      rw [if_pos (by rfl)]
      refine oper_append hri (.tmp 40) (.tmp 41) rfl w.heap.size (.slice G k c) k (zeros k) rfl hown (some ⟨ga, 0, none⟩) 1 1 _ rfl (row_src ha rfl ha.lt) (by simp [Value.oneCell']) (by omega) (by omega) hbl.size (fun v9 w7 hrow hgrow => ?_)
      have hk7 := keptT_grown hown hgrow
      replace hbl := below_grow hbl hown hgrow hbl.size (Nat.le_refl _)
      replace kP := kP.keptT hk7 (by decide)
      replace kL := kL.keptT hk7 (by decide)
      replace kW := kW.keptT hk7 (by decide)
      clear hown hgrow ha hk7
      refine hK.out _ _ (fun _ => ⟨kP, kW⟩) ?_
      clear hK K
      (try simp only [List.getElem_toArray, List.getElem_cons_succ, List.getElem_cons_zero, Act.put, List.setIfInBounds_toArray, List.set_cons_zero, List.set_cons_succ])
      refine wpAnyE_take (i := 8) (oi := _) (v := .pointer (some ⟨gW, 0, none⟩)) rfl (by kernel_rfl) (by kernel_rfl) (by kernel_rfl) (by kernel_rfl) (fun _ _ _ h => h) (Or.inl ⟨by rfl, ?_⟩) ⟨kP, kW⟩ ?_
      · intro w' hSw
        (try simp only [List.getElem_toArray, List.getElem_cons_succ, List.getElem_cons_zero])
        go_simp
      (try simp only [List.getElem_toArray, List.getElem_cons_succ, List.getElem_cons_zero, Act.put, List.setIfInBounds_toArray, List.set_cons_zero, List.set_cons_succ])
      obtain ⟨G9, c9, rfl⟩ := own_slice hrow
      have s0 := kW.cell 0
      have f0 := kW.free 0
      have l0 := kW.lt
      simp at s0
      refine wpAnyE_one (i := 9) (o := _) (by kernel_rfl) rfl (fun K hK => ?_)
      (try simp only [List.getElem_toArray, List.getElem_cons_succ, List.getElem_cons_zero])
      go_simp
      refine hK.out _ _ (fun h => absurd h (by decide)) ?_
      clear hK K
      refine wpAnyE_done (by kernel_rfl) ?_ _
      have kW8 := kW.stored 0 (.slice G9 (k + 1) c9)
      have hkk := keptT_set kW 0 (.slice G9 (k + 1) c9)
      have kP8 := kP.keptT hkk (by decide)
      have kL8 := kL.keptT hkk (by decide)
      have hrow8 := own_keptT hrow hkk (by decide)
      have hbl8 := below_set hbl (p := ⟨gW, 0, none⟩) z1 (.slice G9 (k + 1) c9)
      clear s0 f0 l0 kW kP kL hrow hbl hkk
      go_wp2_with fail
      refine ⟨⟨k + 1, by omega, by omega, by go_num, hbl8, kP8, kL8, G9, c9, kW8, ?_⟩, by simp [intOf]; omega⟩
      have e : zeros (k + 1) = zeros k ++ [.int .u8 0] := by simp [zeros, List.replicate_succ']
      rw [e]
      exact hrow8
    · have hkn : k = min n 6 := by omega
      have HKN := Lib.hid hkn
      have hW : SlU8s wr wr.heap.size (some ⟨gW, 0, none⟩) [List.replicate k 0] := by
        intro _
        refine ⟨gW, 0, rfl, kW.lt, fun j xs hj => ?_⟩
        have hj0 : j = 0 := by have := (List.getElem?_eq_some_iff.1 hj).1; simp at this; omega
        subst hj0
        simp at hj
        subst hj
        refine ⟨G, c, by rw [kW.cell]; simp, fun hl => ?_⟩
        simp at hl
        obtain ⟨g, cap', hA, hA1, hA2⟩ := World.ownsRow.form hown hl
        injection hA with hA _ _
        subst hA
        refine ⟨g, 0, rfl, (World.ownsRow.lt hown g rfl).2, fun p v hp => ?_⟩
        have hpl := (List.getElem?_eq_some_iff.1 hp).1
        simp at hpl
        have hv : v = 0 := by
          have := (List.getElem?_eq_some_iff.1 hp).2
          simpa using this.symm
        subst hv
        rw [Nat.zero_add, World.ownsRow.cellAt hown p (by simpa using hpl)]
        exact ⟨by simp [zeros, hpl], by omega⟩
      have HW := Lib.hid hW
      clear hW hown kW
      have q0 := kP.cell 0
      have q1 := kP.cell 1
      have q2 := kP.cell 2
      simp at q0 q1 q2
      have HC : Hid (Calls Try.prog 10 #[.agg (playC t (some ⟨gW, 0, none⟩) 1 1 none 0 0)] wr (APlayed 1 (endA l 1 [List.replicate k 0] []) wr)) := Lib.hid (by
        have := played_any t (some ⟨gW, 0, none⟩) 1 1 none 0 0 [List.replicate k 0] [] wr t0 t1 (by omega) (by omega) rfl rfl (by omega) HW.out (by unfold SlU8; intro h; simp at h)
        rw [HL.out] at this
        exact this)
      have hfacts := HFA.out k hk6
      obtain ⟨hrun, hfin⟩ := end_ok HOK.out 1 [List.replicate k 0] [] (by omega) (by omega) (by simp) (fun xs hxs => by simp at hxs; subst hxs; simpa using hk6)
      obtain ⟨R, hR⟩ : ∃ R, endA l 1 [List.replicate k 0] [] = R := ⟨_, rfl⟩
      rw [hR] at HC hfacts hrun hfin
      have HFACT := Lib.hid hfacts
      have HRUN := Lib.hid hrun
      have HFIN := Lib.hid hfin
      clear hR hfacts hrun hfin HW HFA
      have hcs : (decide ((k : Int) < n) = false ∧ decide (k < n) = false) ∨ (((k : Int) < n) ∧ decide ((k : Int) < 6) = false ∧ decide (k < 6) = false) := by
        by_cases h1 : k < n
        · exact .inr ⟨by omega, by simp; omega, by simp; omega⟩
        · exact .inl ⟨by simp; omega, by simp; omega⟩
      clear hlt hkn
      rcases hcs with ⟨g1, g1n⟩ | ⟨g1, g2, g2n⟩
      all_goals
        go_wp2_with fail
        refine HC.out.mono ?_
        rintro e w5 ⟨A, cap, gt, go, gl, gn, gh, rfl, hst, hT, hb⟩
        have HSL := Lib.hid (StSl.of_own hst rfl)
        have kL5 := kL.keep hb
        have hbl5 := below_tr hbl hb
        have HTR := Lib.hid hT
        obtain ⟨steps, hsteps⟩ : ∃ x, R.2 = x := ⟨_, rfl⟩
        rw [hsteps] at HSL ⊢
        obtain ⟨N, hN⟩ : ∃ x, steps.length = x := ⟨_, rfl⟩
        rw [hN]
        have HS := Lib.hid (And.intro hsteps hN)
        have hN4 : N ≤ 400 := by
          have := HRUN.out.len
          rw [hsteps, hN] at this
          simp at this
          omega
        obtain ⟨M, hM⟩ : ∃ M : Nat, l.c.nodes = M := ⟨l.c.nodes.toNat, by have := HOK.out.lay.nn; omega⟩
        have hM6 : 1 ≤ M ∧ M ≤ 6 := by have := HOK.out.lay.nn; omega
        have HMM := Lib.hid hM
        have qL1 := kL5.cell 1
        simp at qL1
        rw [hM] at qL1
        clear hM hsteps hN hb hst hT kP q0 q1 q2 HC kL hbl
        go_wp2_with fail
        go_loopw [12, 13, 14] (fun v12 v13 v14 wr => A2Rel w5 N steps v12 v13 v14 wr) (fun _ _ v14 _ => N - (intOf v14).toNat)
        case atStart => exact ⟨0, Nat.zero_le _, rfl, rfl, rfl, Below.refl _ _⟩
        case round =>
          obtain ⟨j, hj, rfl, rfl, rfl, hbj⟩ := hrel
          have kL6 := kL5.keep hbj
          clear qL1
          have qL1 := kL6.cell 1
          simp at qL1
          rw [HMM.out] at qL1
          by_cases hjN : j < N
          · have i1 : (j : Int) < N := by omega
            obtain ⟨x, hx⟩ : ∃ x, steps[j]? = some x := ⟨_, List.getElem?_eq_getElem (by rw [HS.out.2]; exact hjN)⟩
            obtain ⟨bS, rfl, hbS, hcS⟩ := (HSL.out.below hbj) (by rw [HS.out.2]; omega)
            have cl := hcS j x hx
            have d11 := cl 11 (by omega)
            have d13 := cl 13 (by omega)
            simp at d11 d13
            have hchk := List.all_eq_true.1 HFACT.out.1 j (List.mem_range.2 (by rw [HS.out.1, HS.out.2]; exact hjN))
            rw [HS.out.1, hx] at hchk
            have htk := alS_take hx
            have hle := alS_le (steps.take j) (0, 0)
            rw [show (steps.take j).foldl alF (0, 0) = alS (steps.take j) from rfl, List.length_take] at hle
            have hMn : l.c.nodes.toNat = M := by have := HMM.out; omega
            rw [hMn] at hchk
            generalize alS (steps.take j) = ac at *
            obtain ⟨p1, p2⟩ := ac
            dsimp only at hchk hle ⊢
            have hp : p1 ≤ 400 ∧ p2 ≤ 400 := by omega
            obtain ⟨who, op, acc, res, done, val, is, err, point⟩ := x
            dsimp only at d11 d13 hchk
            have HTK := Lib.hid htk
            clear cl hcS hx hMn hle htk hj
            cases done with
            | false =>
              clear hchk
              go_wp2_with fail
              exact ⟨⟨j + 1, by omega, by go_num, by rw [HTK.out]; simp [alF], by rw [HTK.out]; simp [alF], hbj⟩, by simp [intOf]; omega⟩
            | true =>
              simp only [Bool.not_true, Bool.false_or, Bool.and_eq_true, decide_eq_true_eq, beq_iff_eq] at hchk
              obtain ⟨hc1, hc2⟩ := hchk
              rcases Classical.em (M ≤ p2) with h | h
              · rw [if_pos h] at hc1
                rw [decide_eq_false (by omega)] at hc2
                subst hc1 hc2
                have p1' : decide ((M : Int) ≤ p2) = true := by simp; omega
                have p2' : decide ((p2 : Int) < M) = false := by simp; omega
                have p3' : decide (M ≤ p2) = true := by simp; omega
                have p4' : decide (p2 < M) = false := by simp; omega
                clear h
                go_upto_region 20 with fail
                refine wp_region_E (S := fun w' => Below wr.drew.heap.size wr.drew w') (E := fun _ => false) (by kernel_rfl) ?_
                have e13 : wr.drew.cell? ⟨bS, j * 17 + 13, none⟩ = some (.bool false) := d13
                have kL7 := kL6.drew
                replace hbj := hbj.drew
                clear d11 d13 qL1 kL6
                generalize wr.drew = w7 at *
                refine wpAnyE_take (i := 0) (oi := _) (v := .int .i64 1) rfl (by kernel_rfl) (by kernel_rfl) (by kernel_rfl) (by kernel_rfl) (fun _ _ _ h => h) (Or.inl ⟨by rfl, ?_⟩) (Below.refl _ _) ?_
                · intro w' hSw
                  (try simp only [List.getElem_toArray, List.getElem_cons_zero])
                  go_simp
                (try simp only [List.getElem_toArray, List.getElem_cons_zero, Act.put, List.setIfInBounds_toArray, List.set_cons_zero, List.set_cons_succ])
                refine wpAnyE_take (i := 1) (oi := _) (v := .int .i64 1) rfl (by kernel_rfl) (by kernel_rfl) (by kernel_rfl) (by kernel_rfl) (fun _ _ _ h => h) (Or.inl ⟨by rfl, ?_⟩) (Below.refl _ _) ?_
                · intro w' hSw
                  (try simp only [List.getElem_toArray, List.getElem_cons_succ, List.getElem_cons_zero])
                  go_simp
                (try simp only [List.getElem_toArray, List.getElem_cons_succ, List.getElem_cons_zero, Act.put, List.setIfInBounds_toArray, List.set_cons_zero, List.set_cons_succ])
                refine wpAnyE_take (i := 2) (oi := _) (v := .bool false) rfl (by kernel_rfl) (by kernel_rfl) (by kernel_rfl) (by kernel_rfl) (fun _ _ _ h => h) (Or.inl ⟨by rfl, ?_⟩) (Below.refl _ _) ?_
                · intro w' hSw
                  (try simp only [List.getElem_toArray, List.getElem_cons_succ, List.getElem_cons_zero])
                  go_simp
                (try simp only [List.getElem_toArray, List.getElem_cons_succ, List.getElem_cons_zero, Act.put, List.setIfInBounds_toArray, List.set_cons_zero, List.set_cons_succ])
                refine wpAnyE_take (i := 3) (oi := _) (v := .bool false) rfl (by kernel_rfl) (by kernel_rfl) (by kernel_rfl) (by kernel_rfl) (fun _ _ _ h => h) (Or.inl ⟨by rfl, ?_⟩) (Below.refl _ _) ?_
                · intro w' hSw
                  (try simp only [List.getElem_toArray, List.getElem_cons_succ, List.getElem_cons_zero])
                  go_simp
                (try simp only [List.getElem_toArray, List.getElem_cons_succ, List.getElem_cons_zero, Act.put, List.setIfInBounds_toArray, List.set_cons_zero, List.set_cons_succ])
                refine wpAnyE_take (i := 4) (oi := _) (v := .slice (some ⟨bS, 0, none⟩) N cap) rfl (by kernel_rfl) (by kernel_rfl) (by kernel_rfl) (by kernel_rfl) (fun _ _ _ h => h) (Or.inl ⟨by rfl, ?_⟩) (Below.refl _ _) ?_
                · intro w' hSw
                  (try simp only [List.getElem_toArray, List.getElem_cons_succ, List.getElem_cons_zero])
                  go_simp
                (try simp only [List.getElem_toArray, List.getElem_cons_succ, List.getElem_cons_zero, Act.put, List.setIfInBounds_toArray, List.set_cons_zero, List.set_cons_succ])
                refine wpAnyE_take (i := 5) (oi := _) (v := .int .i64 (j : Nat)) rfl (by kernel_rfl) (by kernel_rfl) (by kernel_rfl) (by kernel_rfl) (fun _ _ _ h => h) (Or.inl ⟨by rfl, ?_⟩) (Below.refl _ _) ?_
                · intro w' hSw
                  (try simp only [List.getElem_toArray, List.getElem_cons_succ, List.getElem_cons_zero])
                  go_simp
                (try simp only [List.getElem_toArray, List.getElem_cons_succ, List.getElem_cons_zero, Act.put, List.setIfInBounds_toArray, List.set_cons_zero, List.set_cons_succ])
                refine wpAnyE_take (i := 6) (oi := _) (v := .pointer (some ⟨bS, j * 17, none⟩)) rfl (by kernel_rfl) (by kernel_rfl) (by kernel_rfl) (by kernel_rfl) (fun _ _ _ h => h) (Or.inl ⟨by rfl, ?_⟩) (Below.refl _ _) ?_
                · intro w' hSw
                  (try simp only [List.getElem_toArray, List.getElem_cons_succ, List.getElem_cons_zero])
                  go_simp
                (try simp only [List.getElem_toArray, List.getElem_cons_succ, List.getElem_cons_zero, Act.put, List.setIfInBounds_toArray, List.set_cons_zero, List.set_cons_succ])
                refine wpAnyE_take (i := 7) (oi := _) (v := .pointer (some ⟨bS, j * 17 + 12, none⟩)) rfl (by kernel_rfl) (by kernel_rfl) (by kernel_rfl) (by kernel_rfl) (fun _ _ _ h => h) (Or.inl ⟨by rfl, ?_⟩) (Below.refl _ _) ?_
                · intro w' hSw
                  (try simp only [List.getElem_toArray, List.getElem_cons_succ, List.getElem_cons_zero])
                  go_simp
                (try simp only [List.getElem_toArray, List.getElem_cons_succ, List.getElem_cons_zero, Act.put, List.setIfInBounds_toArray, List.set_cons_zero, List.set_cons_succ])
                refine wpAnyE_take (i := 8) (oi := _) (v := .pointer (some ⟨bS, j * 17 + 13, none⟩)) rfl (by kernel_rfl) (by kernel_rfl) (by kernel_rfl) (by kernel_rfl) (fun _ _ _ h => h) (Or.inl ⟨by rfl, ?_⟩) (Below.refl _ _) ?_
                · intro w' hSw
                  (try simp only [List.getElem_toArray, List.getElem_cons_succ, List.getElem_cons_zero])
                  go_simp
                (try simp only [List.getElem_toArray, List.getElem_cons_succ, List.getElem_cons_zero, Act.put, List.setIfInBounds_toArray, List.set_cons_zero, List.set_cons_succ])
                refine wpAnyE_take (i := 9) (oi := _) (v := .bool false) rfl (by kernel_rfl) (by kernel_rfl) (by kernel_rfl) (by kernel_rfl) (fun _ _ _ h => h) (Or.inl ⟨by rfl, ?_⟩) (Below.refl _ _) ?_
                · intro w' hSw
                  have s1 := cell_keep hSw e13
                  (try simp at s1)
                  (try simp only [List.getElem_toArray, List.getElem_cons_succ, List.getElem_cons_zero])
                  go_simp
                (try simp only [List.getElem_toArray, List.getElem_cons_succ, List.getElem_cons_zero, Act.put, List.setIfInBounds_toArray, List.set_cons_zero, List.set_cons_succ])
                refine wpAnyE_take (i := 10) (oi := _) (v := .int .i64 (p2 : Nat)) rfl (by kernel_rfl) (by kernel_rfl) (by kernel_rfl) (by kernel_rfl) (fun _ _ _ h => h) (Or.inl ⟨by rfl, ?_⟩) (Below.refl _ _) ?_
                · intro w' hSw
                  (try simp only [List.getElem_toArray, List.getElem_cons_succ, List.getElem_cons_zero])
                  go_simp
                (try simp only [List.getElem_toArray, List.getElem_cons_succ, List.getElem_cons_zero, Act.put, List.setIfInBounds_toArray, List.set_cons_zero, List.set_cons_succ])
                refine wpAnyE_take (i := 11) (oi := _) (v := .pointer (some ⟨bL, 0, none⟩)) rfl (by kernel_rfl) (by kernel_rfl) (by kernel_rfl) (by kernel_rfl) (fun _ _ _ h => h) (Or.inl ⟨by rfl, ?_⟩) (Below.refl _ _) ?_
                · intro w' hSw
                  (try simp only [List.getElem_toArray, List.getElem_cons_succ, List.getElem_cons_zero])
                  go_simp
                (try simp only [List.getElem_toArray, List.getElem_cons_succ, List.getElem_cons_zero, Act.put, List.setIfInBounds_toArray, List.set_cons_zero, List.set_cons_succ])
                refine wpAnyE_take (i := 12) (oi := _) (v := .pointer (some ⟨bL, 1, none⟩)) rfl (by kernel_rfl) (by kernel_rfl) (by kernel_rfl) (by kernel_rfl) (fun _ _ _ h => h) (Or.inl ⟨by rfl, ?_⟩) (Below.refl _ _) ?_
                · intro w' hSw
                  (try simp only [List.getElem_toArray, List.getElem_cons_succ, List.getElem_cons_zero])
                  go_simp
                (try simp only [List.getElem_toArray, List.getElem_cons_succ, List.getElem_cons_zero, Act.put, List.setIfInBounds_toArray, List.set_cons_zero, List.set_cons_succ])
                refine wpAnyE_take (i := 13) (oi := _) (v := .int .i64 (M : Nat)) rfl (by kernel_rfl) (by kernel_rfl) (by kernel_rfl) (by kernel_rfl) (fun _ _ _ h => h) (Or.inl ⟨by rfl, ?_⟩) (Below.refl _ _) ?_
                · intro w' hSw
                  have s1 := (kL7.keep hSw).cell 1
                  (try simp at s1)
                  (try simp only [List.getElem_toArray, List.getElem_cons_succ, List.getElem_cons_zero])
                  go_simp
                  exact HMM.out
                (try simp only [List.getElem_toArray, List.getElem_cons_succ, List.getElem_cons_zero, Act.put, List.setIfInBounds_toArray, List.set_cons_zero, List.set_cons_succ])
                refine wpAnyE_take (i := 14) (oi := _) (v := .bool false) rfl (by kernel_rfl) (by kernel_rfl) (by kernel_rfl) (by kernel_rfl) (fun _ _ _ h => h) (Or.inl ⟨by rfl, ?_⟩) (Below.refl _ _) ?_
                · intro w' hSw
                  (try simp only [List.getElem_toArray, List.getElem_cons_succ, List.getElem_cons_zero])
                  go_simp
                (try simp only [List.getElem_toArray, List.getElem_cons_succ, List.getElem_cons_zero, Act.put, List.setIfInBounds_toArray, List.set_cons_zero, List.set_cons_succ])
                refine wpAnyE_take (i := 15) (oi := _) (v := .bool false) rfl (by kernel_rfl) (by kernel_rfl) (by kernel_rfl) (by kernel_rfl) (fun _ _ _ h => h) (Or.inl ⟨by rfl, ?_⟩) (Below.refl _ _) ?_
                · intro w' hSw
                  (try simp only [List.getElem_toArray, List.getElem_cons_succ, List.getElem_cons_zero])
                  go_simp
                (try simp only [List.getElem_toArray, List.getElem_cons_succ, List.getElem_cons_zero, Act.put, List.setIfInBounds_toArray, List.set_cons_zero, List.set_cons_succ])
                refine wpAnyE_take (i := 16) (oi := _) (v := .bool false) rfl (by kernel_rfl) (by kernel_rfl) (by kernel_rfl) (by kernel_rfl) (fun _ _ _ h => h) (Or.inl ⟨by rfl, ?_⟩) (Below.refl _ _) ?_
                · intro w' hSw
                  (try simp only [List.getElem_toArray, List.getElem_cons_succ, List.getElem_cons_zero])
                  go_simp
                (try simp only [List.getElem_toArray, List.getElem_cons_succ, List.getElem_cons_zero, Act.put, List.setIfInBounds_toArray, List.set_cons_zero, List.set_cons_succ])
                refine wpAnyE_done (by kernel_rfl) ?_ _
                go_wp2_with fail
                exact ⟨⟨j + 1, by omega, by go_num, by rw [HTK.out]; simp [alF], by rw [HTK.out]; simp [alF], hbj⟩, by simp [intOf]; omega⟩
              · rw [if_neg h] at hc1
                rw [decide_eq_true (by omega)] at hc2
                subst hc1 hc2
                have p1' : decide ((M : Int) ≤ p2) = false := by simp; omega
                have p3' : decide (M ≤ p2) = false := by simp; omega
                have p4' : decide (p2 < M) = true := by simp; omega
                have p2' : (p2 : Int) < M := by omega
                clear h
                go_upto_region 20 with fail
                refine wp_region_E (S := fun w' => Below wr.drew.heap.size wr.drew w') (E := fun _ => false) (by kernel_rfl) ?_
                have e13 : wr.drew.cell? ⟨bS, j * 17 + 13, none⟩ = some (.bool true) := d13
                have kL7 := kL6.drew
                replace hbj := hbj.drew
                clear d11 d13 qL1 kL6
                generalize wr.drew = w7 at *
                refine wpAnyE_take (i := 0) (oi := _) (v := .int .i64 5) rfl (by kernel_rfl) (by kernel_rfl) (by kernel_rfl) (by kernel_rfl) (fun _ _ _ h => h) (Or.inl ⟨by rfl, ?_⟩) (Below.refl _ _) ?_
                · intro w' hSw
                  (try simp only [List.getElem_toArray, List.getElem_cons_zero])
                  go_simp
                (try simp only [List.getElem_toArray, List.getElem_cons_zero, Act.put, List.setIfInBounds_toArray, List.set_cons_zero, List.set_cons_succ])
                refine wpAnyE_take (i := 1) (oi := _) (v := .int .i64 5) rfl (by kernel_rfl) (by kernel_rfl) (by kernel_rfl) (by kernel_rfl) (fun _ _ _ h => h) (Or.inl ⟨by rfl, ?_⟩) (Below.refl _ _) ?_
                · intro w' hSw
                  (try simp only [List.getElem_toArray, List.getElem_cons_succ, List.getElem_cons_zero])
                  go_simp
                (try simp only [List.getElem_toArray, List.getElem_cons_succ, List.getElem_cons_zero, Act.put, List.setIfInBounds_toArray, List.set_cons_zero, List.set_cons_succ])
                refine wpAnyE_take (i := 2) (oi := _) (v := .bool false) rfl (by kernel_rfl) (by kernel_rfl) (by kernel_rfl) (by kernel_rfl) (fun _ _ _ h => h) (Or.inl ⟨by rfl, ?_⟩) (Below.refl _ _) ?_
                · intro w' hSw
                  (try simp only [List.getElem_toArray, List.getElem_cons_succ, List.getElem_cons_zero])
                  go_simp
                (try simp only [List.getElem_toArray, List.getElem_cons_succ, List.getElem_cons_zero, Act.put, List.setIfInBounds_toArray, List.set_cons_zero, List.set_cons_succ])
                refine wpAnyE_take (i := 3) (oi := _) (v := .bool false) rfl (by kernel_rfl) (by kernel_rfl) (by kernel_rfl) (by kernel_rfl) (fun _ _ _ h => h) (Or.inl ⟨by rfl, ?_⟩) (Below.refl _ _) ?_
                · intro w' hSw
                  (try simp only [List.getElem_toArray, List.getElem_cons_succ, List.getElem_cons_zero])
                  go_simp
                (try simp only [List.getElem_toArray, List.getElem_cons_succ, List.getElem_cons_zero, Act.put, List.setIfInBounds_toArray, List.set_cons_zero, List.set_cons_succ])
                refine wpAnyE_take (i := 4) (oi := _) (v := .slice (some ⟨bS, 0, none⟩) N cap) rfl (by kernel_rfl) (by kernel_rfl) (by kernel_rfl) (by kernel_rfl) (fun _ _ _ h => h) (Or.inl ⟨by rfl, ?_⟩) (Below.refl _ _) ?_
                · intro w' hSw
                  (try simp only [List.getElem_toArray, List.getElem_cons_succ, List.getElem_cons_zero])
                  go_simp
                (try simp only [List.getElem_toArray, List.getElem_cons_succ, List.getElem_cons_zero, Act.put, List.setIfInBounds_toArray, List.set_cons_zero, List.set_cons_succ])
                refine wpAnyE_take (i := 5) (oi := _) (v := .int .i64 (j : Nat)) rfl (by kernel_rfl) (by kernel_rfl) (by kernel_rfl) (by kernel_rfl) (fun _ _ _ h => h) (Or.inl ⟨by rfl, ?_⟩) (Below.refl _ _) ?_
                · intro w' hSw
                  (try simp only [List.getElem_toArray, List.getElem_cons_succ, List.getElem_cons_zero])
                  go_simp
                (try simp only [List.getElem_toArray, List.getElem_cons_succ, List.getElem_cons_zero, Act.put, List.setIfInBounds_toArray, List.set_cons_zero, List.set_cons_succ])
                refine wpAnyE_take (i := 6) (oi := _) (v := .pointer (some ⟨bS, j * 17, none⟩)) rfl (by kernel_rfl) (by kernel_rfl) (by kernel_rfl) (by kernel_rfl) (fun _ _ _ h => h) (Or.inl ⟨by rfl, ?_⟩) (Below.refl _ _) ?_
                · intro w' hSw
                  (try simp only [List.getElem_toArray, List.getElem_cons_succ, List.getElem_cons_zero])
                  go_simp
                (try simp only [List.getElem_toArray, List.getElem_cons_succ, List.getElem_cons_zero, Act.put, List.setIfInBounds_toArray, List.set_cons_zero, List.set_cons_succ])
                refine wpAnyE_take (i := 7) (oi := _) (v := .pointer (some ⟨bS, j * 17 + 12, none⟩)) rfl (by kernel_rfl) (by kernel_rfl) (by kernel_rfl) (by kernel_rfl) (fun _ _ _ h => h) (Or.inl ⟨by rfl, ?_⟩) (Below.refl _ _) ?_
                · intro w' hSw
                  (try simp only [List.getElem_toArray, List.getElem_cons_succ, List.getElem_cons_zero])
                  go_simp
                (try simp only [List.getElem_toArray, List.getElem_cons_succ, List.getElem_cons_zero, Act.put, List.setIfInBounds_toArray, List.set_cons_zero, List.set_cons_succ])
                refine wpAnyE_take (i := 8) (oi := _) (v := .pointer (some ⟨bS, j * 17 + 13, none⟩)) rfl (by kernel_rfl) (by kernel_rfl) (by kernel_rfl) (by kernel_rfl) (fun _ _ _ h => h) (Or.inl ⟨by rfl, ?_⟩) (Below.refl _ _) ?_
                · intro w' hSw
                  (try simp only [List.getElem_toArray, List.getElem_cons_succ, List.getElem_cons_zero])
                  go_simp
                (try simp only [List.getElem_toArray, List.getElem_cons_succ, List.getElem_cons_zero, Act.put, List.setIfInBounds_toArray, List.set_cons_zero, List.set_cons_succ])
                refine wpAnyE_take (i := 9) (oi := _) (v := .bool true) rfl (by kernel_rfl) (by kernel_rfl) (by kernel_rfl) (by kernel_rfl) (fun _ _ _ h => h) (Or.inl ⟨by rfl, ?_⟩) (Below.refl _ _) ?_
                · intro w' hSw
                  have s1 := cell_keep hSw e13
                  (try simp at s1)
                  (try simp only [List.getElem_toArray, List.getElem_cons_succ, List.getElem_cons_zero])
                  go_simp
                (try simp only [List.getElem_toArray, List.getElem_cons_succ, List.getElem_cons_zero, Act.put, List.setIfInBounds_toArray, List.set_cons_zero, List.set_cons_succ])
                refine wpAnyE_take (i := 10) (oi := _) (v := .int .i64 (p2 : Nat)) rfl (by kernel_rfl) (by kernel_rfl) (by kernel_rfl) (by kernel_rfl) (fun _ _ _ h => h) (Or.inl ⟨by rfl, ?_⟩) (Below.refl _ _) ?_
                · intro w' hSw
                  (try simp only [List.getElem_toArray, List.getElem_cons_succ, List.getElem_cons_zero])
                  go_simp
                (try simp only [List.getElem_toArray, List.getElem_cons_succ, List.getElem_cons_zero, Act.put, List.setIfInBounds_toArray, List.set_cons_zero, List.set_cons_succ])
                refine wpAnyE_take (i := 11) (oi := _) (v := .pointer (some ⟨bL, 0, none⟩)) rfl (by kernel_rfl) (by kernel_rfl) (by kernel_rfl) (by kernel_rfl) (fun _ _ _ h => h) (Or.inl ⟨by rfl, ?_⟩) (Below.refl _ _) ?_
                · intro w' hSw
                  (try simp only [List.getElem_toArray, List.getElem_cons_succ, List.getElem_cons_zero])
                  go_simp
                (try simp only [List.getElem_toArray, List.getElem_cons_succ, List.getElem_cons_zero, Act.put, List.setIfInBounds_toArray, List.set_cons_zero, List.set_cons_succ])
                refine wpAnyE_take (i := 12) (oi := _) (v := .pointer (some ⟨bL, 1, none⟩)) rfl (by kernel_rfl) (by kernel_rfl) (by kernel_rfl) (by kernel_rfl) (fun _ _ _ h => h) (Or.inl ⟨by rfl, ?_⟩) (Below.refl _ _) ?_
                · intro w' hSw
                  (try simp only [List.getElem_toArray, List.getElem_cons_succ, List.getElem_cons_zero])
                  go_simp
                (try simp only [List.getElem_toArray, List.getElem_cons_succ, List.getElem_cons_zero, Act.put, List.setIfInBounds_toArray, List.set_cons_zero, List.set_cons_succ])
                refine wpAnyE_take (i := 13) (oi := _) (v := .int .i64 (M : Nat)) rfl (by kernel_rfl) (by kernel_rfl) (by kernel_rfl) (by kernel_rfl) (fun _ _ _ h => h) (Or.inl ⟨by rfl, ?_⟩) (Below.refl _ _) ?_
                · intro w' hSw
                  have s1 := (kL7.keep hSw).cell 1
                  (try simp at s1)
                  (try simp only [List.getElem_toArray, List.getElem_cons_succ, List.getElem_cons_zero])
                  go_simp
                  exact HMM.out
                (try simp only [List.getElem_toArray, List.getElem_cons_succ, List.getElem_cons_zero, Act.put, List.setIfInBounds_toArray, List.set_cons_zero, List.set_cons_succ])
                refine wpAnyE_take (i := 14) (oi := _) (v := .bool true) rfl (by kernel_rfl) (by kernel_rfl) (by kernel_rfl) (by kernel_rfl) (fun _ _ _ h => h) (Or.inl ⟨by rfl, ?_⟩) (Below.refl _ _) ?_
                · intro w' hSw
                  (try simp only [List.getElem_toArray, List.getElem_cons_succ, List.getElem_cons_zero])
                  go_simp
                (try simp only [List.getElem_toArray, List.getElem_cons_succ, List.getElem_cons_zero, Act.put, List.setIfInBounds_toArray, List.set_cons_zero, List.set_cons_succ])
                refine wpAnyE_take (i := 15) (oi := _) (v := .bool false) rfl (by kernel_rfl) (by kernel_rfl) (by kernel_rfl) (by kernel_rfl) (fun _ _ _ h => h) (Or.inl ⟨by rfl, ?_⟩) (Below.refl _ _) ?_
                · intro w' hSw
                  (try simp only [List.getElem_toArray, List.getElem_cons_succ, List.getElem_cons_zero])
                  go_simp
                (try simp only [List.getElem_toArray, List.getElem_cons_succ, List.getElem_cons_zero, Act.put, List.setIfInBounds_toArray, List.set_cons_zero, List.set_cons_succ])
                refine wpAnyE_take (i := 16) (oi := _) (v := .bool false) rfl (by kernel_rfl) (by kernel_rfl) (by kernel_rfl) (by kernel_rfl) (fun _ _ _ h => h) (Or.inl ⟨by rfl, ?_⟩) (Below.refl _ _) ?_
                · intro w' hSw
                  (try simp only [List.getElem_toArray, List.getElem_cons_succ, List.getElem_cons_zero])
                  go_simp
                (try simp only [List.getElem_toArray, List.getElem_cons_succ, List.getElem_cons_zero, Act.put, List.setIfInBounds_toArray, List.set_cons_zero, List.set_cons_succ])
                refine wpAnyE_done (by kernel_rfl) ?_ _
                go_wp2_with fail
                exact ⟨⟨j + 1, by omega, by go_num, by rw [HTK.out]; simp [alF], by rw [HTK.out]; simp [alF], hbj⟩, by simp [intOf]; omega⟩
          · have i1 : decide ((j : Int) < N) = false := by simp; omega
            have i2 : decide (j < N) = false := by simp; omega
            have hjN2 : j = steps.length := by rw [HS.out.2]; omega
            have htook : (alS (steps.take j)).2 = k := by rw [hjN2, List.take_of_length_le (Nat.le_refl _), ← HS.out.1]; exact HFACT.out.2.1
            rw [htook]
            generalize (alS (steps.take j)).1 = pa at *
            obtain ⟨L, hai⟩ := HRUN.out.inv
            have hkind : ∀ s ∈ R.1.seats, s.op.kind = 0 := by
              intro s hs
              obtain ⟨jj, hjj⟩ := List.getElem?_of_mem hs
              obtain ⟨s', h1', h2'⟩ := HFIN.out jj (by have := (List.getElem?_eq_some_iff.1 hjj).1; rw [HRUN.out.ns] at this; exact this)
              rw [hjj] at h1'
              injection h1' with h1'
              subst h1'
              exact h2'.1
            obtain ⟨hsum, hnod, hap⟩ := once_end hai hkind (by have := HMM.out; omega)
            have hwl : (gRun l gh0 R.2).went < 268435456 := by have := HRUN.out.went; simp at this; omega
            have hidx := (hai.idx HOK.out.lay hwl).1
            have hM' := HMM.out
            have hMn : l.c.nodes.toNat = M := by omega
            have hhs := HFACT.out.2.2
            rw [hMn] at hhs
            rw [hhs] at hsum
            have hLq : L.length = M - min k M := by omega
            have hin : ∀ a ∈ L, 1 ≤ a ∧ a ≤ l.c.nodes := fun a ha => by
              have h1 := hai.tot a
              have h3 := List.count_pos_iff.2 ha
              split at h1
              · assumption
              · omega
            have hTw := HTR.out.keep hbj
            obtain ⟨gm, cm, a1, a2, -⟩ := hTw.tab
            have HA := Lib.hid (own_slInt a2 rfl)
            obtain ⟨Z, hZ⟩ : ∃ Z, R.1.m.length = Z := ⟨_, rfl⟩
            rw [hZ] at a1
            obtain ⟨qL, hqL⟩ : ∃ y, L.length = y := ⟨_, rfl⟩
            have HAI := Lib.hid (And.intro hZ (And.intro hai.ml (And.intro hidx (And.intro hai.chain (And.intro hin (And.intro hnod hqL))))))
            have hly := HOK.out.lay
            have HLY := Lib.hid (And.intro hly.fr hly.nd)
            have hq6 : qL ≤ 1000 := by omega
            have hqv : (M : Int) - (min k M : Nat) = qL := by omega
            have HQV := Lib.hid hqv
            have hkn : k = min n 6 := by first | exact HKN.out | omega
            have hmin1 : ∀ (w : World) (ts : Array TypeId) (t : TypeId), (Builtin.min_ ts t #[.int .i64 n, .int .i64 6]).run Try.prog w = .ok (.int .i64 k) w := fun w ts t => by
              rw [run_min_int2]
              split <;> (congr 2; omega)
            have hmin2 : ∀ (w : World) (ts : Array TypeId) (t : TypeId), (Builtin.min_ ts t #[.int .i64 k, .int .i64 M]).run Try.prog w = .ok (.int .i64 (min k M : Nat)) w := fun w ts t => by
              rw [run_min_int2]
              split <;> (congr 2; omega)
            obtain ⟨mk, hmk⟩ : ∃ y, min k M = y := ⟨_, rfl⟩
            rw [hmk] at hmin2 HQV
            have HM1 := Lib.hid (And.intro hmin1 hmin2)
            have HK9 := Lib.hid (And.intro hkn hmk)
            have hmkb : mk ≤ 6 := by omega
            have qT := a1.cell 4
            have qT0 := a1.cell 0
            simp at qT qT0
            clear hai hkind hsum hnod hap hwl hidx hM' hMn hhs hLq hin hTw a2 hZ hqL hly hqv hkn hmin1 hmin2 hmk hjN2 htook
            go_upto_region 26 with fail
            refine wp_region_E (S := fun w' => Below wr.drew.heap.size wr.drew w') (E := fun _ => false) (by kernel_rfl) ?_
            replace a1 := a1.drew
            have kL7 := kL6.drew
            have hbb := (below_tr hbl5 hbj).drew
            have HA' : Hid (SlInt wr.drew wr.drew.heap.size (some ⟨gm, 0, none⟩) R.1.m) := Lib.hid HA.out
            clear HA kL6 qT qT0 qL1 hbj
            generalize wr.drew = w7 at *
            have hmin1 := HM1.out.1
            have hmin2 := HM1.out.2
            refine wpAnyE_take (i := 0) (oi := _) (v := .bool true) rfl (by kernel_rfl) (by kernel_rfl) (by kernel_rfl) (by kernel_rfl) (fun _ _ _ h => h) (Or.inl ⟨by rfl, ?_⟩) (Below.refl _ _) ?_
            · intro w' hSw
              (try simp only [List.getElem_toArray, List.getElem_cons_zero])
              go_simp
            (try simp only [List.getElem_toArray, List.getElem_cons_zero, Act.put, List.setIfInBounds_toArray, List.set_cons_zero, List.set_cons_succ])
            refine wpAnyE_take (i := 1) (oi := _) (v := .bool true) rfl (by kernel_rfl) (by kernel_rfl) (by kernel_rfl) (by kernel_rfl) (fun _ _ _ h => h) (Or.inl ⟨by rfl, ?_⟩) (Below.refl _ _) ?_
            · intro w' hSw
              (try simp only [List.getElem_toArray, List.getElem_cons_succ, List.getElem_cons_zero])
              go_simp
            (try simp only [List.getElem_toArray, List.getElem_cons_succ, List.getElem_cons_zero, Act.put, List.setIfInBounds_toArray, List.set_cons_zero, List.set_cons_succ])
            refine wpAnyE_take (i := 2) (oi := _) (v := .int .i64 (k : Nat)) rfl (by kernel_rfl) (by kernel_rfl) (by kernel_rfl) (by kernel_rfl) (fun _ _ _ h => h) (Or.inl ⟨by rfl, ?_⟩) (Below.refl _ _) ?_
            · intro w' hSw
              (try simp only [List.getElem_toArray, List.getElem_cons_succ, List.getElem_cons_zero])
              go_simp
            (try simp only [List.getElem_toArray, List.getElem_cons_succ, List.getElem_cons_zero, Act.put, List.setIfInBounds_toArray, List.set_cons_zero, List.set_cons_succ])
            refine wpAnyE_take (i := 3) (oi := _) (v := .int .i64 (n : Nat)) rfl (by kernel_rfl) (by kernel_rfl) (by kernel_rfl) (by kernel_rfl) (fun _ _ _ h => h) (Or.inl ⟨by rfl, ?_⟩) (Below.refl _ _) ?_
            · intro w' hSw
              (try simp only [List.getElem_toArray, List.getElem_cons_succ, List.getElem_cons_zero])
              go_simp
            (try simp only [List.getElem_toArray, List.getElem_cons_succ, List.getElem_cons_zero, Act.put, List.setIfInBounds_toArray, List.set_cons_zero, List.set_cons_succ])
            refine wpAnyE_take (i := 4) (oi := _) (v := .int .i64 (k : Nat)) rfl (by kernel_rfl) (by kernel_rfl) (by kernel_rfl) (by kernel_rfl) (fun _ _ _ h => h) (Or.inl ⟨by rfl, ?_⟩) (Below.refl _ _) ?_
            · intro w' hSw
              (try simp only [List.getElem_toArray, List.getElem_cons_succ, List.getElem_cons_zero])
              go_simp
            (try simp only [List.getElem_toArray, List.getElem_cons_succ, List.getElem_cons_zero, Act.put, List.setIfInBounds_toArray, List.set_cons_zero, List.set_cons_succ])
            refine wpAnyE_take (i := 5) (oi := _) (v := .bool true) rfl (by kernel_rfl) (by kernel_rfl) (by kernel_rfl) (by kernel_rfl) (fun _ _ _ h => h) (Or.inl ⟨by rfl, ?_⟩) (Below.refl _ _) ?_
            · intro w' hSw
              (try simp only [List.getElem_toArray, List.getElem_cons_succ, List.getElem_cons_zero])
              go_simp
            (try simp only [List.getElem_toArray, List.getElem_cons_succ, List.getElem_cons_zero, Act.put, List.setIfInBounds_toArray, List.set_cons_zero, List.set_cons_succ])
            refine wpAnyE_take (i := 6) (oi := _) (v := .bool true) rfl (by kernel_rfl) (by kernel_rfl) (by kernel_rfl) (by kernel_rfl) (fun _ _ _ h => h) (Or.inl ⟨by rfl, ?_⟩) (Below.refl _ _) ?_
            · intro w' hSw
              (try simp only [List.getElem_toArray, List.getElem_cons_succ, List.getElem_cons_zero])
              go_simp
            (try simp only [List.getElem_toArray, List.getElem_cons_succ, List.getElem_cons_zero, Act.put, List.setIfInBounds_toArray, List.set_cons_zero, List.set_cons_succ])
            refine wpAnyE_take (i := 7) (oi := _) (v := .bool true) rfl (by kernel_rfl) (by kernel_rfl) (by kernel_rfl) (by kernel_rfl) (fun _ _ _ h => h) (Or.inl ⟨by rfl, ?_⟩) (Below.refl _ _) ?_
            · intro w' hSw
              (try simp only [List.getElem_toArray, List.getElem_cons_succ, List.getElem_cons_zero])
              go_simp
            (try simp only [List.getElem_toArray, List.getElem_cons_succ, List.getElem_cons_zero, Act.put, List.setIfInBounds_toArray, List.set_cons_zero, List.set_cons_succ])
            refine wpAnyE_take (i := 8) (oi := _) (v := .agg (lyC l)) rfl (by kernel_rfl) (by kernel_rfl) (by kernel_rfl) (by kernel_rfl) (fun _ _ _ h => h) (Or.inl ⟨by rfl, ?_⟩) (Below.refl _ _) ?_
            · intro w' hSw
              (try simp only [List.getElem_toArray, List.getElem_cons_succ, List.getElem_cons_zero])
              simp only [execOp, Instr.loadAt, Instr.sureAddr, Sem.run_bind, Sem.run_pure]
              rw [show (Act.eval _ (Operand.tmp 7)) = Value.pointer (some ⟨bL, 0, none⟩) from rfl]
              simp only [Sem.run_pure, Result.andThen_ok, run_loadVar_row w' bL 31 31 (lyC l) (0, 0) _ (kL7.keep hSw) Try.underlying31 rfl (by kernel_rfl)]
            (try simp only [List.getElem_toArray, List.getElem_cons_succ, List.getElem_cons_zero, Act.put, List.setIfInBounds_toArray, List.set_cons_zero, List.set_cons_succ])
            refine wpAnyE_take (i := 9) (oi := _) (v := ptr gt) rfl (by kernel_rfl) (by kernel_rfl) (by kernel_rfl) (by kernel_rfl) (fun _ _ _ h => h) (Or.inl ⟨by rfl, ?_⟩) (Below.refl _ _) ?_
            · intro w' hSw
              (try simp only [List.getElem_toArray, List.getElem_cons_succ, List.getElem_cons_zero])
              go_simp
            (try simp only [List.getElem_toArray, List.getElem_cons_succ, List.getElem_cons_zero, Act.put, List.setIfInBounds_toArray, List.set_cons_zero, List.set_cons_succ])
            refine wpAnyE_take (i := 10) (oi := _) (v := ptr gt) rfl (by kernel_rfl) (by kernel_rfl) (by kernel_rfl) (by kernel_rfl) (fun _ _ _ h => h) (Or.inl ⟨by rfl, ?_⟩) (Below.refl _ _) ?_
            · intro w' hSw
              (try simp only [List.getElem_toArray, List.getElem_cons_succ, List.getElem_cons_zero])
              go_simp
            (try simp only [List.getElem_toArray, List.getElem_cons_succ, List.getElem_cons_zero, Act.put, List.setIfInBounds_toArray, List.set_cons_zero, List.set_cons_succ])
            refine wpAnyE_take (i := 11) (oi := _) (v := .pointer (some ⟨gt, 0, none⟩)) rfl (by kernel_rfl) (by kernel_rfl) (by kernel_rfl) (by kernel_rfl) (fun _ _ _ h => h) (Or.inl ⟨by rfl, ?_⟩) (Below.refl _ _) ?_
            · intro w' hSw
              (try simp only [List.getElem_toArray, List.getElem_cons_succ, List.getElem_cons_zero])
              go_simp
            (try simp only [List.getElem_toArray, List.getElem_cons_succ, List.getElem_cons_zero, Act.put, List.setIfInBounds_toArray, List.set_cons_zero, List.set_cons_succ])
            refine wpAnyE_take (i := 12) (oi := _) (v := .agg #[.slice (some ⟨gm, 0, none⟩) Z cm]) rfl (by kernel_rfl) (by kernel_rfl) (by kernel_rfl) (by kernel_rfl) (fun _ _ _ h => h) (Or.inl ⟨by rfl, ?_⟩) (Below.refl _ _) ?_
            · intro w' hSw
              have s1 := (a1.keep hSw).cell 0
              (try simp at s1)
              (try simp only [List.getElem_toArray, List.getElem_cons_succ, List.getElem_cons_zero])
              go_simp
            (try simp only [List.getElem_toArray, List.getElem_cons_succ, List.getElem_cons_zero, Act.put, List.setIfInBounds_toArray, List.set_cons_zero, List.set_cons_succ])
            refine wpAnyE_take (i := 15) (oi := _) (v := .pointer (some ⟨bL, 0, none⟩)) rfl (by kernel_rfl) (by kernel_rfl) (by kernel_rfl) (by kernel_rfl) (fun _ _ _ h => h) (Or.inl ⟨by rfl, ?_⟩) (Below.refl _ _) ?_
            · intro w' hSw
              (try simp only [List.getElem_toArray, List.getElem_cons_succ, List.getElem_cons_zero])
              go_simp
            (try simp only [List.getElem_toArray, List.getElem_cons_succ, List.getElem_cons_zero, Act.put, List.setIfInBounds_toArray, List.set_cons_zero, List.set_cons_succ])
            refine wpAnyE_take (i := 16) (oi := _) (v := .pointer (some ⟨bL, 1, none⟩)) rfl (by kernel_rfl) (by kernel_rfl) (by kernel_rfl) (by kernel_rfl) (fun _ _ _ h => h) (Or.inl ⟨by rfl, ?_⟩) (Below.refl _ _) ?_
            · intro w' hSw
              (try simp only [List.getElem_toArray, List.getElem_cons_succ, List.getElem_cons_zero])
              go_simp
            (try simp only [List.getElem_toArray, List.getElem_cons_succ, List.getElem_cons_zero, Act.put, List.setIfInBounds_toArray, List.set_cons_zero, List.set_cons_succ])
            refine wpAnyE_take (i := 17) (oi := _) (v := .int .i64 (M : Nat)) rfl (by kernel_rfl) (by kernel_rfl) (by kernel_rfl) (by kernel_rfl) (fun _ _ _ h => h) (Or.inl ⟨by rfl, ?_⟩) (Below.refl _ _) ?_
            · intro w' hSw
              have s1 := (kL7.keep hSw).cell 1
              (try simp at s1)
              (try simp only [List.getElem_toArray, List.getElem_cons_succ, List.getElem_cons_zero])
              go_simp
              exact HMM.out
            (try simp only [List.getElem_toArray, List.getElem_cons_succ, List.getElem_cons_zero, Act.put, List.setIfInBounds_toArray, List.set_cons_zero, List.set_cons_succ])
            refine wpAnyE_take (i := 18) (oi := _) (v := .int .i64 (k : Nat)) rfl (by kernel_rfl) (by kernel_rfl) (by kernel_rfl) (by kernel_rfl) (fun _ _ _ h => h) (Or.inl ⟨by rfl, ?_⟩) (Below.refl _ _) ?_
            · intro w' hSw
              (try simp only [List.getElem_toArray, List.getElem_cons_succ, List.getElem_cons_zero])
              go_simp
            (try simp only [List.getElem_toArray, List.getElem_cons_succ, List.getElem_cons_zero, Act.put, List.setIfInBounds_toArray, List.set_cons_zero, List.set_cons_succ])
            refine wpAnyE_take (i := 19) (oi := _) (v := .pointer (some ⟨bL, 0, none⟩)) rfl (by kernel_rfl) (by kernel_rfl) (by kernel_rfl) (by kernel_rfl) (fun _ _ _ h => h) (Or.inl ⟨by rfl, ?_⟩) (Below.refl _ _) ?_
            · intro w' hSw
              (try simp only [List.getElem_toArray, List.getElem_cons_succ, List.getElem_cons_zero])
              go_simp
            (try simp only [List.getElem_toArray, List.getElem_cons_succ, List.getElem_cons_zero, Act.put, List.setIfInBounds_toArray, List.set_cons_zero, List.set_cons_succ])
            refine wpAnyE_take (i := 20) (oi := _) (v := .pointer (some ⟨bL, 1, none⟩)) rfl (by kernel_rfl) (by kernel_rfl) (by kernel_rfl) (by kernel_rfl) (fun _ _ _ h => h) (Or.inl ⟨by rfl, ?_⟩) (Below.refl _ _) ?_
            · intro w' hSw
              (try simp only [List.getElem_toArray, List.getElem_cons_succ, List.getElem_cons_zero])
              go_simp
            (try simp only [List.getElem_toArray, List.getElem_cons_succ, List.getElem_cons_zero, Act.put, List.setIfInBounds_toArray, List.set_cons_zero, List.set_cons_succ])
            refine wpAnyE_take (i := 21) (oi := _) (v := .int .i64 (M : Nat)) rfl (by kernel_rfl) (by kernel_rfl) (by kernel_rfl) (by kernel_rfl) (fun _ _ _ h => h) (Or.inl ⟨by rfl, ?_⟩) (Below.refl _ _) ?_
            · intro w' hSw
              have s1 := (kL7.keep hSw).cell 1
              (try simp at s1)
              (try simp only [List.getElem_toArray, List.getElem_cons_succ, List.getElem_cons_zero])
              go_simp
              exact HMM.out
            (try simp only [List.getElem_toArray, List.getElem_cons_succ, List.getElem_cons_zero, Act.put, List.setIfInBounds_toArray, List.set_cons_zero, List.set_cons_succ])
            refine wpAnyE_take (i := 22) (oi := _) (v := .int .i64 (mk : Nat)) rfl (by kernel_rfl) (by kernel_rfl) (by kernel_rfl) (by kernel_rfl) (fun _ _ _ h => h) (Or.inl ⟨by rfl, ?_⟩) (Below.refl _ _) ?_
            · intro w' hSw
              (try simp only [List.getElem_toArray, List.getElem_cons_succ, List.getElem_cons_zero])
              go_simp
            (try simp only [List.getElem_toArray, List.getElem_cons_succ, List.getElem_cons_zero, Act.put, List.setIfInBounds_toArray, List.set_cons_zero, List.set_cons_succ])
            refine wpAnyE_take (i := 23) (oi := _) (v := .int .i64 (qL : Nat)) rfl (by kernel_rfl) (by kernel_rfl) (by kernel_rfl) (by kernel_rfl) (fun _ _ _ h => h) (Or.inl ⟨by rfl, ?_⟩) (Below.refl _ _) ?_
            · intro w' hSw
              have hx : IntKind.i64.wrap ((M : Int) - mk) = qL := by rw [IntWalk.i64_in _ (by omega)]; exact HQV.out
              (try simp only [List.getElem_toArray, List.getElem_cons_succ, List.getElem_cons_zero])
              go_simp
            (try simp only [List.getElem_toArray, List.getElem_cons_succ, List.getElem_cons_zero, Act.put, List.setIfInBounds_toArray, List.set_cons_zero, List.set_cons_succ])
            clear hmin1 hmin2
            refine wpAnyE_one (i := 13) (o := _) (by kernel_rfl) rfl (fun K hK => ?_)
            (try simp only [List.getElem_toArray, List.getElem_cons_succ, List.getElem_cons_zero])
            go_simp
            have hcall : Calls Try.prog 11 #[lyV l, .agg #[.slice (some ⟨gm, 0, none⟩) Z cm]] w7 fun e w' => ∃ B d, e = .returned (.slice B qL d) ∧ OwnInts w' w7.heap.size (.slice B qL d) L ∧ Below w7.heap.size w7 w' := by
              obtain ⟨z1, z2, z3, z4, z5, z6, z7⟩ := HAI.out
              obtain ⟨y1, y2⟩ := HLY.out
              have y3 := HMM.out
              have := list_any l (some ⟨gm, 0, none⟩) cm Z R.1.m L w7 HFL.out (by have := HMM.out; omega) HA'.out z1 (by omega) (fun a ha => by rw [nodeAt_of l ha (by omega)]; omega) z3 z4 z5 z6 (by omega)
              rw [z7] at this
              exact this
            refine hcall.mono ?_
            rintro e w8 ⟨B, d, rfl, hown, hb8⟩
            clear hcall
            refine hK.out _ _ (fun _ => hb8) ?_
            clear hK K
            (try simp only [List.getElem_toArray, List.getElem_cons_succ, List.getElem_cons_zero, Act.put, List.setIfInBounds_toArray, List.set_cons_zero, List.set_cons_succ])
            refine wpAnyE_take (i := 14) (oi := _) (v := .int .i64 (qL : Nat)) rfl (by kernel_rfl) (by kernel_rfl) (by kernel_rfl) (by kernel_rfl) (fun _ _ _ h => h) (Or.inl ⟨by rfl, ?_⟩) hb8 ?_
            · intro w' hSw
              (try simp only [List.getElem_toArray, List.getElem_cons_succ, List.getElem_cons_zero])
              go_simp
            (try simp only [List.getElem_toArray, List.getElem_cons_succ, List.getElem_cons_zero, Act.put, List.setIfInBounds_toArray, List.set_cons_zero, List.set_cons_succ])
            refine wpAnyE_take (i := 24) (oi := _) (v := .bool true) rfl (by kernel_rfl) (by kernel_rfl) (by kernel_rfl) (by kernel_rfl) (fun _ _ _ h => h) (Or.inl ⟨by rfl, ?_⟩) hb8 ?_
            · intro w' hSw
              (try simp only [List.getElem_toArray, List.getElem_cons_succ, List.getElem_cons_zero])
              go_simp
            (try simp only [List.getElem_toArray, List.getElem_cons_succ, List.getElem_cons_zero, Act.put, List.setIfInBounds_toArray, List.set_cons_zero, List.set_cons_succ])
            refine wpAnyE_take (i := 25) (oi := _) (v := .bool true) rfl (by kernel_rfl) (by kernel_rfl) (by kernel_rfl) (by kernel_rfl) (fun _ _ _ h => h) (Or.inl ⟨by rfl, ?_⟩) hb8 ?_
            · intro w' hSw
              (try simp only [List.getElem_toArray, List.getElem_cons_succ, List.getElem_cons_zero])
              go_simp
            (try simp only [List.getElem_toArray, List.getElem_cons_succ, List.getElem_cons_zero, Act.put, List.setIfInBounds_toArray, List.set_cons_zero, List.set_cons_succ])
            refine wpAnyE_take (i := 26) (oi := _) (v := .bool true) rfl (by kernel_rfl) (by kernel_rfl) (by kernel_rfl) (by kernel_rfl) (fun _ _ _ h => h) (Or.inl ⟨by rfl, ?_⟩) hb8 ?_
            · intro w' hSw
              (try simp only [List.getElem_toArray, List.getElem_cons_succ, List.getElem_cons_zero])
              go_simp
            (try simp only [List.getElem_toArray, List.getElem_cons_succ, List.getElem_cons_zero, Act.put, List.setIfInBounds_toArray, List.set_cons_zero, List.set_cons_succ])
            refine wpAnyE_done (by kernel_rfl) ?_ _
            go_wp2
            go_ret
            exact ⟨rfl, below_tr hbb hb8⟩
end Go.Proofs.Ytbcgjolcfagboaa
