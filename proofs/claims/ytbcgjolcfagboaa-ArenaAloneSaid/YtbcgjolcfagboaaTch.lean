/- ArenaTouches. Printed by laws_gen.py. -/
import Derived.Test.YtbcgjolcfagboaaAwk
namespace Go.Proofs.Ytbcgjolcfagboaa
open Go.RowKit
set_option linter.unusedVariables false
attribute [local go_sem ↓] Go.wp_at_zero Go.wp_at_succ

theorem SlU8s.more {w : World} {B B' : Nat} {A : Option Addr} {l : List (List Nat)} (h : SlU8s w B A l) (hB : B ≤ B') : SlU8s w B' A l := by
  intro hl
  obtain ⟨b, o, e, hbb, hc⟩ := h hl
  refine ⟨b, o, e, Nat.lt_of_lt_of_le hbb hB, fun k a ha => ?_⟩
  obtain ⟨A', c, h1, h2⟩ := hc k a ha
  exact ⟨A', c, h1, h2.more hB⟩
def TnRel (w6 : World) (M a0 : Nat) (lk : Bool) (v9 v10 v11 : Value) (wr : World) : Prop := ∃ j : Nat, j ≤ M ∧ v11 = .int .i64 (j + 1 : Nat) ∧ v9 = .bool (lk && decide (a0 ≤ j)) ∧ v10 = .bool (!lk && decide (a0 ≤ j)) ∧ Below w6.heap.size w6 wr
def TcRel (w5 : World) (N : Nat) (v7 : Value) (wr : World) : Prop := ∃ k : Nat, k ≤ N ∧ v7 = .int .i64 k ∧ Below w5.heap.size w5 wr
set_option maxRecDepth 1000000 in
set_option maxHeartbeats 16000000 in
theorem touches_any (t : Int) (W : Option Addr) (n c : Nat) (T : Option Addr) (m d : Nat) (want : List (List Nat)) (turns : List Nat) (w : World) (t0 : 0 ≤ t) (t1 : t < 256) (hn : want.length = n) (hm : turns.length = m) (hW : SlU8s w w.heap.size W want) (hT : SlU8 w w.heap.size T turns) :
    Calls Try.prog 5 #[.agg (playC t W n c T m d)] w (BoolBelow true w) := by
  have HW := Lib.hid hW
  have HT := Lib.hid hT
  have HN := Lib.hid hn
  have HM := Lib.hid hm
  clear hW hT hn hm
  have k0 := Bk.made w 25 (playC t W n c T m d)
  have hbl := below_al (Below.refl w.heap.size w) (.cells (playC t W n c T m d) 25)
  go_enter Try.func5, Try.ntmps5
  go_wp2_with fail
  (with_reducible refine (awake_any _).mono ?_)
  rintro e w1 ⟨rfl, hb⟩
  replace k0 := k0.keep hb
  replace hbl := below_tr hbl hb
  clear hb
  have q0 := k0.cell 0
  have q1 := k0.cell 1
  have q2 := k0.cell 2
  simp at q0 q1 q2
  go_wp2_with fail
  (with_reducible refine (few_any t W n c T m d want _ HN.out ((HW.out.below hbl).more hbl.size)).mono ?_)
  rintro e w2 ⟨b, rfl, hb, hbt⟩
  replace k0 := k0.keep hb
  replace hbl := below_tr hbl hb
  clear hb q0 q1 q2
  cases b with
  | false =>
    go_wp2
    go_ret
    exact ⟨rfl, hbl⟩
  | true =>
  obtain ⟨h1, h3, h200, hlen⟩ := hbt rfl
  have HLEN := Lib.hid hlen
  clear hbt hlen
  have q0 := k0.cell 0
  have q1 := k0.cell 1
  have q2 := k0.cell 2
  simp at q0 q1 q2
  go_wp2_with fail
  (with_reducible refine (where_any t W n c T m d _ t0 t1 h1 (by omega)).mono ?_)
  rintro e w3 ⟨rfl, hb⟩
  replace k0 := k0.keep hb
  replace hbl := below_tr hbl hb
  clear hb q0 q1 q2
  have HOK := Lib.hid (layOk_of (layB_play n t h1 h3))
  have HFL : Hid (LyFull (playL n t)) := Lib.hid (lyFull_of _ (playCf_can n t h1 (by omega)))
  obtain ⟨l, hl⟩ : ∃ l, playL n t = l := ⟨_, rfl⟩
  rw [hl] at HOK HFL
  rw [hl]
  have HL := Lib.hid hl
  clear hl
  go_upto_region 5 with (refine wpList_store_new rfl 31 (.tmp 4) (.tmp 18) rfl rfl w3.heap.size _ _ (lyC l) rfl rfl rfl rfl (by kernel_rfl) rfl (by simp [Value.oneCell']) ?_)
  have kL := Bk.made w3 31 (lyC l)
  replace k0 := k0.alloc (.cells (lyC l) 31)
  replace hbl := below_al hbl (.cells (lyC l) 31)
  generalize w3.alloc (.cells (lyC l) 31) = w4 at *
  generalize w3.heap.size = bL at *
  have q0 := k0.cell 0
  have q1 := k0.cell 1
  have q2 := k0.cell 2
  simp at q0 q1 q2
  go_wp2_with fail
  (with_reducible refine (played_any t W n c T m d want turns _ t0 t1 h1 h3 HN.out HM.out h200 ((HW.out.below hbl).more hbl.size) ((HT.out.below hbl).more hbl.size)).mono ?_)
  rintro e w5 ⟨A, cap, gt, go, gl, gn, gh, rfl, hst, hT, hb⟩
  rw [HL.out] at *
  obtain ⟨hrun, hfin⟩ := end_ok HOK.out n want turns h1 h3 (by rw [HM.out]; exact h200) HLEN.out
  have HSL := Lib.hid (StSl.of_own hst rfl)
  replace k0 := k0.keep hb
  replace kL := kL.keep hb
  replace hbl := below_tr hbl hb
  clear hb q0 q1 q2 hst
  generalize endA l n want turns = R at *
  have HRUN := Lib.hid hrun
  have HFIN := Lib.hid hfin
  have HTR := Lib.hid hT
  obtain ⟨steps, hsteps⟩ : ∃ x, R.2 = x := ⟨_, rfl⟩
  rw [hsteps] at HSL ⊢
  obtain ⟨N, hN⟩ : ∃ x, steps.length = x := ⟨_, rfl⟩
  rw [hN]
  have HS := Lib.hid hsteps
  have HNN := Lib.hid hN
  have hN4 : N ≤ 400 := by
    have := hrun.len
    rw [hsteps, hN, HM.out] at this
    omega
  have HSTEP : Hid (∀ (j : Nat) (st : StepA), steps[j]? = some st → StepOk l n (gRun l gh0 (steps.take j)) st) := Lib.hid (by rw [← hsteps]; exact hrun.steps)
  have hly := HOK.out.lay
  have n0 := hly.nn
  have n1 := hly.fr
  have n2 := hly.er
  have n3 := hly.nd
  clear hsteps hN hrun hfin hT hly
  go_wp2_with fail
  go_loopw [7] (fun v7 wr => TcRel w5 N v7 wr) (fun v7 _ => N - (intOf v7).toNat)
  case atStart => exact ⟨0, Nat.zero_le _, rfl, Below.refl _ _⟩
  case round =>
    obtain ⟨k, hk, rfl, hb⟩ := hrel
    by_cases hlt : k < N
    · have g1 : (k : Int) < N := by omega
      obtain ⟨x, hx⟩ : ∃ x, steps[k]? = some x := ⟨_, List.getElem?_eq_getElem (by rw [HNN.out]; exact hlt)⟩
      obtain ⟨bS, rfl, hbS, hcS⟩ := (HSL.out.below hb) (by rw [HNN.out]; omega)
      have hok := HSTEP.out k x hx
      have kLr := kL.keep hb
      have cl := hcS k x hx
      have d1 := cl 1 (by omega)
      have d5 := cl 5 (by omega)
      have d6 := cl 6 (by omega)
      have d7 := cl 7 (by omega)
      have d8 := cl 8 (by omega)
      have d11 := cl 11 (by omega)
      simp at d1 d5 d6 d7 d8 d11
      clear cl hcS
      obtain ⟨who, ⟨ok, oj, oa, ob⟩, ⟨ak, ac, ao, an⟩, res, done, val, is, err, point⟩ := x
      dsimp only at d1 d5 d6 d7 d8 d11
      have htc := hok.touch
      dsimp only at htc
      clear hok hx
      go_upto_region 10 with fail
      have kA := Bk.made wr 41 #[.int .i64 ak, .int .i64 ac, .int .i64 ao, .int .i64 an]
      have hba := below_al (Below.refl wr.heap.size wr) (.cells #[.int .i64 ak, .int .i64 ac, .int .i64 ao, .int .i64 an] 41)
      have hb6 := below_al hb (.cells #[.int .i64 ak, .int .i64 ac, .int .i64 ao, .int .i64 an] 41)
      have e1 := cell_keep hba d1
      have e11 := cell_keep hba d11
      have kL6 := kLr.keep hba
      clear d1 d5 d6 d7 d8 d11 hba kLr hb
      generalize wr.alloc (.cells #[.int .i64 ak, .int .i64 ac, .int .i64 ao, .int .i64 an] 41) = w6 at *
      generalize wr.heap.size = gA at *
      have qA0 := kA.cell 0
      have qA1 := kA.cell 1
      have qL11 := kL6.cell 11
      have qL12 := kL6.cell 12
      simp at qA0 qA1 qL11 qL12
      cases done with
      | true =>
        clear htc
        go_wp2_with fail
        exact ⟨⟨k + 1, by omega, by go_num, hb6⟩, by simp [intOf]; omega⟩
      | false =>
      have hcase : (ac = l.free ∧ ak ≠ 2) ∨ (ac = l.era ∧ ak = 1) ∨ (∃ (lk : Bool) (a0 : Nat), (1 ≤ a0 ∧ (a0 : Int) ≤ l.c.nodes) ∧ ac = l.node + (a0 - 1) * 8 + (if lk = true then 7 else 6) ∧ (lk = true → ak = 2 → ok = 2) ∧ (lk = false → ak = 2 ∧ ok = 1)) := by
        rcases htc with h | h | h | ⟨a, ha, h1, h2⟩ | ⟨a, ha, h1, h2, h3⟩
        · cases h
        · exact .inl h
        · exact .inr (.inl h)
        · refine .inr (.inr ⟨true, a.toNat, by omega, ?_, fun _ => h2, fun e => by cases e⟩)
          rw [h1, nodeAt_of l ha (by omega), if_pos rfl]
          omega
        · refine .inr (.inr ⟨false, a.toNat, by omega, ?_, (fun e => by cases e), fun _ => ⟨h2, h3⟩⟩)
          rw [h1, nodeAt_of l ha (by omega), if_neg (by decide)]
          omega
      clear htc
      rcases hcase with ⟨c1, c2⟩ | ⟨c1, c2⟩ | ⟨lk, a0, ha0, hac, hl1, hl2⟩
      · have p1 : (ac == l.free) = true := by simp [c1]
        have p2 : (ak != 2) = true := by simp [c2]
        have p3 : decide (ac = l.free) = true := by simp [c1]
        have p4 : decide (ak = 2) = false := by simp [c2]
        clear c1 c2
        go_wp2_with fail
        exact ⟨⟨k + 1, by omega, by go_num, hb6⟩, by simp [intOf]; omega⟩
      · have p1 : (ac == l.free) = false := by simp [c1]; omega
        have p2 : (ac == l.era) = true := by simp [c1]
        have p3 : (ak == 1) = true := by simp [c2]
        have p4 : decide (ac = l.free) = false := by simp [c1]; omega
        have p5 : decide (ac = l.era) = true := by simp [c1]
        have p6 : decide (ak = 1) = true := by simp [c2]
        clear c1 c2
        go_wp2_with fail
        exact ⟨⟨k + 1, by omega, by go_num, hb6⟩, by simp [intOf]; omega⟩
      · have p1 : (ac == l.free) = false := by simp [hac]; split <;> omega
        have p2 : (ac == l.era) = false := by simp [hac]; split <;> omega
        have p3 : decide (ac = l.free) = false := by simpa using p1
        have p4 : decide (ac = l.era) = false := by simpa using p2
        obtain ⟨M, hM⟩ : ∃ M : Nat, l.c.nodes = M := ⟨l.c.nodes.toNat, by omega⟩
        have qL1 := kL6.cell 1
        simp at qL1
        rw [hM] at qL1
        have hM6 : M ≤ 6 ∧ 1 ≤ a0 ∧ a0 ≤ M := by omega
        have HMM := Lib.hid (And.intro hM (And.intro hac (And.intro hl1 hl2)))
        clear hM hac hl1 hl2 ha0
        go_upto_region 14 with fail
        clear p1 p2 p3 p4 qL11 qL12 qA0 qL1
        go_loopw [9, 10, 11] (fun v9 v10 v11 wr => TnRel w6 M a0 lk v9 v10 v11 wr) (fun _ _ v11 _ => (M + 1) - (intOf v11).toNat)
        case atStart => exact ⟨0, Nat.zero_le _, rfl, by simp; omega, by simp; omega, Below.refl _ _⟩
        case round =>
          obtain ⟨j, hj, rfl, rfl, rfl, hbj⟩ := hrel
          have kL7 := kL6.keep hbj
          have kA7 := kA.keep hbj
          have qL1 := kL7.cell 1
          simp at qL1
          rw [HMM.out.1] at qL1
          by_cases hjM : j < M
          · have i1 : decide (((j + 1 : Nat) : Int) ≤ (M : Int)) = true := by simp; omega
            have i2 : ((j + 1 : Nat) : Int) ≤ M := by omega
            obtain ⟨j1, hj1⟩ : ∃ y : Int, ((j + 1 : Nat) : Int) = y := ⟨_, rfl⟩
            rw [hj1] at i1 i2
            rw [hj1]
            have HJ1 := Lib.hid hj1
            have hj1b : 1 ≤ j1 ∧ j1 ≤ 7 := by omega
            clear hj1
            cases lk with
            | true =>
              rcases Nat.lt_trichotomy a0 (j + 1) with ha | ha | ha
              · have e0 : decide (a0 ≤ j) = true := by simp; omega
                rw [e0]
                simp only [Bool.true_and, Bool.false_and, Bool.not_true]
                go_upto_region 16 with fail
                refine wp_region_E (S := fun w' => Below wr.drew.heap.size wr.drew w') (E := fun _ => false) (by kernel_rfl) ?_
                have kL8 := kL7.drew
                have kA8 := kA7.drew
                have hbj8 := hbj.drew
                clear kL7 kA7 hbj
                have hbj := hbj8
                clear hbj8
                generalize wr.drew = w8 at *
                refine wpAnyE_take (i := 0) (oi := _) (v := .bool true) rfl (by kernel_rfl) (by kernel_rfl) (by kernel_rfl) (by kernel_rfl) (fun _ _ _ h => h) (Or.inl ⟨by rfl, ?_⟩) (Below.refl _ _) ?_
                · intro w' hSw
                  (try simp only [List.getElem_toArray, List.getElem_cons_zero])
                  go_simp
                (try simp only [List.getElem_toArray, List.getElem_cons_zero, Act.put, List.setIfInBounds_toArray, List.set_cons_zero, List.set_cons_succ])
                refine wpAnyE_take (i := 1) (oi := _) (v := .bool true) rfl (by kernel_rfl) (by kernel_rfl) (by kernel_rfl) (by kernel_rfl) (fun _ _ _ h => h) (Or.inl ⟨by rfl, ?_⟩) (Below.refl _ _) ?_
                · intro w' hSw
                  (try simp only [List.getElem_toArray, List.getElem_cons_succ, List.getElem_cons_zero])
                  go_simp
                (try simp only [List.getElem_toArray, List.getElem_cons_succ, List.getElem_cons_zero, Act.put, List.setIfInBounds_toArray, List.set_cons_zero, List.set_cons_succ])
                refine wpAnyE_take (i := 2) (oi := _) (v := undef) rfl (by kernel_rfl) (by kernel_rfl) (by kernel_rfl) (by kernel_rfl) (fun _ _ _ h => h) (Or.inr ⟨by rfl, rfl⟩) (Below.refl _ _) ?_
                (try simp only [List.getElem_toArray, List.getElem_cons_succ, List.getElem_cons_zero, Act.put, List.setIfInBounds_toArray, List.set_cons_zero, List.set_cons_succ])
                refine wpAnyE_take (i := 3) (oi := _) (v := undef) rfl (by kernel_rfl) (by kernel_rfl) (by kernel_rfl) (by kernel_rfl) (fun _ _ _ h => h) (Or.inr ⟨by rfl, rfl⟩) (Below.refl _ _) ?_
                (try simp only [List.getElem_toArray, List.getElem_cons_succ, List.getElem_cons_zero, Act.put, List.setIfInBounds_toArray, List.set_cons_zero, List.set_cons_succ])
                refine wpAnyE_take (i := 4) (oi := _) (v := undef) rfl (by kernel_rfl) (by kernel_rfl) (by kernel_rfl) (by kernel_rfl) (fun _ _ _ h => h) (Or.inr ⟨by rfl, rfl⟩) (Below.refl _ _) ?_
                (try simp only [List.getElem_toArray, List.getElem_cons_succ, List.getElem_cons_zero, Act.put, List.setIfInBounds_toArray, List.set_cons_zero, List.set_cons_succ])
                refine wpAnyE_take (i := 5) (oi := _) (v := undef) rfl (by kernel_rfl) (by kernel_rfl) (by kernel_rfl) (by kernel_rfl) (fun _ _ _ h => h) (Or.inr ⟨by rfl, rfl⟩) (Below.refl _ _) ?_
                (try simp only [List.getElem_toArray, List.getElem_cons_succ, List.getElem_cons_zero, Act.put, List.setIfInBounds_toArray, List.set_cons_zero, List.set_cons_succ])
                refine wpAnyE_take (i := 6) (oi := _) (v := undef) rfl (by kernel_rfl) (by kernel_rfl) (by kernel_rfl) (by kernel_rfl) (fun _ _ _ h => h) (Or.inr ⟨by rfl, rfl⟩) (Below.refl _ _) ?_
                (try simp only [List.getElem_toArray, List.getElem_cons_succ, List.getElem_cons_zero, Act.put, List.setIfInBounds_toArray, List.set_cons_zero, List.set_cons_succ])
                refine wpAnyE_take (i := 7) (oi := _) (v := undef) rfl (by kernel_rfl) (by kernel_rfl) (by kernel_rfl) (by kernel_rfl) (fun _ _ _ h => h) (Or.inr ⟨by rfl, rfl⟩) (Below.refl _ _) ?_
                (try simp only [List.getElem_toArray, List.getElem_cons_succ, List.getElem_cons_zero, Act.put, List.setIfInBounds_toArray, List.set_cons_zero, List.set_cons_succ])
                refine wpAnyE_take (i := 8) (oi := _) (v := .bool true) rfl (by kernel_rfl) (by kernel_rfl) (by kernel_rfl) (by kernel_rfl) (fun _ _ _ h => h) (Or.inl ⟨by rfl, ?_⟩) (Below.refl _ _) ?_
                · intro w' hSw
                  (try simp only [List.getElem_toArray, List.getElem_cons_succ, List.getElem_cons_zero])
                  go_simp
                (try simp only [List.getElem_toArray, List.getElem_cons_succ, List.getElem_cons_zero, Act.put, List.setIfInBounds_toArray, List.set_cons_zero, List.set_cons_succ])
                refine wpAnyE_take (i := 9) (oi := _) (v := .bool true) rfl (by kernel_rfl) (by kernel_rfl) (by kernel_rfl) (by kernel_rfl) (fun _ _ _ h => h) (Or.inl ⟨by rfl, ?_⟩) (Below.refl _ _) ?_
                · intro w' hSw
                  (try simp only [List.getElem_toArray, List.getElem_cons_succ, List.getElem_cons_zero])
                  go_simp
                (try simp only [List.getElem_toArray, List.getElem_cons_succ, List.getElem_cons_zero, Act.put, List.setIfInBounds_toArray, List.set_cons_zero, List.set_cons_succ])
                refine wpAnyE_done (by kernel_rfl) ?_ _
                have kL7 := kL8
                have kA7 := kA8
                clear kL8 kA8
                generalize w8 = wx at *
                go_upto_region 17 with fail
                refine wp_region_E (S := fun w' => Below wx.drew.heap.size wx.drew w') (E := fun _ => false) (by kernel_rfl) ?_
                have kL8 := kL7.drew
                have kA8 := kA7.drew
                have hbj8 := hbj.drew
                clear kL7 kA7 hbj
                have hbj := hbj8
                clear hbj8
                generalize wx.drew = w10 at *
                refine wpAnyE_take (i := 0) (oi := _) (v := .bool false) rfl (by kernel_rfl) (by kernel_rfl) (by kernel_rfl) (by kernel_rfl) (fun _ _ _ h => h) (Or.inl ⟨by rfl, ?_⟩) (Below.refl _ _) ?_
                · intro w' hSw
                  (try simp only [List.getElem_toArray, List.getElem_cons_zero])
                  go_simp
                (try simp only [List.getElem_toArray, List.getElem_cons_zero, Act.put, List.setIfInBounds_toArray, List.set_cons_zero, List.set_cons_succ])
                refine wpAnyE_take (i := 1) (oi := _) (v := .bool false) rfl (by kernel_rfl) (by kernel_rfl) (by kernel_rfl) (by kernel_rfl) (fun _ _ _ h => h) (Or.inl ⟨by rfl, ?_⟩) (Below.refl _ _) ?_
                · intro w' hSw
                  (try simp only [List.getElem_toArray, List.getElem_cons_succ, List.getElem_cons_zero])
                  go_simp
                (try simp only [List.getElem_toArray, List.getElem_cons_succ, List.getElem_cons_zero, Act.put, List.setIfInBounds_toArray, List.set_cons_zero, List.set_cons_succ])
                refine wpAnyE_take (i := 2) (oi := _) (v := .pointer (some ⟨gA, 1, none⟩)) rfl (by kernel_rfl) (by kernel_rfl) (by kernel_rfl) (by kernel_rfl) (fun _ _ _ h => h) (Or.inl ⟨by rfl, ?_⟩) (Below.refl _ _) ?_
                · intro w' hSw
                  (try simp only [List.getElem_toArray, List.getElem_cons_succ, List.getElem_cons_zero])
                  go_simp
                (try simp only [List.getElem_toArray, List.getElem_cons_succ, List.getElem_cons_zero, Act.put, List.setIfInBounds_toArray, List.set_cons_zero, List.set_cons_succ])
                refine wpAnyE_take (i := 3) (oi := _) (v := .int .i64 ac) rfl (by kernel_rfl) (by kernel_rfl) (by kernel_rfl) (by kernel_rfl) (fun _ _ _ h => h) (Or.inl ⟨by rfl, ?_⟩) (Below.refl _ _) ?_
                · intro w' hSw
                  have s1 := (kA8.keep hSw).cell 1
                  (try simp at s1)
                  (try simp only [List.getElem_toArray, List.getElem_cons_succ, List.getElem_cons_zero])
                  go_simp
                (try simp only [List.getElem_toArray, List.getElem_cons_succ, List.getElem_cons_zero, Act.put, List.setIfInBounds_toArray, List.set_cons_zero, List.set_cons_succ])
                refine wpAnyE_take (i := 4) (oi := _) (v := .agg (lyC l)) rfl (by kernel_rfl) (by kernel_rfl) (by kernel_rfl) (by kernel_rfl) (fun _ _ _ h => h) (Or.inl ⟨by rfl, ?_⟩) (Below.refl _ _) ?_
                · intro w' hSw
                  (try simp only [List.getElem_toArray, List.getElem_cons_succ, List.getElem_cons_zero])
                  simp only [execOp, Instr.loadAt, Instr.sureAddr, Sem.run_bind, Sem.run_pure]
                  rw [show (Act.eval _ (Operand.tmp 4)) = Value.pointer (some ⟨bL, 0, none⟩) from rfl]
                  simp only [Sem.run_pure, Result.andThen_ok, run_loadVar_row w' bL 31 31 (lyC l) (0, 0) _ (kL8.keep hSw) Try.underlying31 rfl (by kernel_rfl)]
                (try simp only [List.getElem_toArray, List.getElem_cons_succ, List.getElem_cons_zero, Act.put, List.setIfInBounds_toArray, List.set_cons_zero, List.set_cons_succ])
                refine wpAnyE_take (i := 5) (oi := _) (v := .int .i64 j1) rfl (by kernel_rfl) (by kernel_rfl) (by kernel_rfl) (by kernel_rfl) (fun _ _ _ h => h) (Or.inl ⟨by rfl, ?_⟩) (Below.refl _ _) ?_
                · intro w' hSw
                  (try simp only [List.getElem_toArray, List.getElem_cons_succ, List.getElem_cons_zero])
                  go_simp
                (try simp only [List.getElem_toArray, List.getElem_cons_succ, List.getElem_cons_zero, Act.put, List.setIfInBounds_toArray, List.set_cons_zero, List.set_cons_succ])
                refine wpAnyE_one (i := 6) (o := _) (by kernel_rfl) rfl (fun K hK => ?_)
                (try simp only [List.getElem_toArray, List.getElem_cons_succ, List.getElem_cons_zero])
                go_simp
                (with_reducible refine (node_any l j1 6 _ HFL.out (by omega)).mono ?_)
                rintro e w11 ⟨rfl, hb9⟩
                obtain ⟨cx, hcx⟩ : ∃ y, nodeAt l j1 6 = y := ⟨_, rfl⟩
                rw [hcx]
                have hq : (ac == cx) = false := by
                  have h1 := HMM.out.1
                  have h2 := HMM.out.2.1
                  have h4 := HJ1.out
                  rw [← hcx, nodeAt_of l (by omega) (by omega), h2]
                  (simp; omega)
                clear hcx
                refine hK.out _ _ (fun _ => hb9) ?_
                clear hK K
                (try simp only [List.getElem_toArray, List.getElem_cons_succ, List.getElem_cons_zero, Act.put, List.setIfInBounds_toArray, List.set_cons_zero, List.set_cons_succ])
                refine wpAnyE_take (i := 7) (oi := _) (v := .bool false) rfl (by kernel_rfl) (by kernel_rfl) (by kernel_rfl) (by kernel_rfl) (fun _ _ _ h => h) (Or.inl ⟨by rfl, ?_⟩) hb9 ?_
                · intro w' hSw
                  (try simp only [List.getElem_toArray, List.getElem_cons_succ, List.getElem_cons_zero])
                  go_simp
                (try simp only [List.getElem_toArray, List.getElem_cons_succ, List.getElem_cons_zero, Act.put, List.setIfInBounds_toArray, List.set_cons_zero, List.set_cons_succ])
                refine wpAnyE_take (i := 8) (oi := _) (v := .bool false) rfl (by kernel_rfl) (by kernel_rfl) (by kernel_rfl) (by kernel_rfl) (fun _ _ _ h => h) (Or.inl ⟨by rfl, ?_⟩) hb9 ?_
                · intro w' hSw
                  (try simp only [List.getElem_toArray, List.getElem_cons_succ, List.getElem_cons_zero])
                  go_simp
                (try simp only [List.getElem_toArray, List.getElem_cons_succ, List.getElem_cons_zero, Act.put, List.setIfInBounds_toArray, List.set_cons_zero, List.set_cons_succ])
                refine wpAnyE_take (i := 9) (oi := _) (v := .bool false) rfl (by kernel_rfl) (by kernel_rfl) (by kernel_rfl) (by kernel_rfl) (fun _ _ _ h => h) (Or.inl ⟨by rfl, ?_⟩) hb9 ?_
                · intro w' hSw
                  (try simp only [List.getElem_toArray, List.getElem_cons_succ, List.getElem_cons_zero])
                  go_simp
                (try simp only [List.getElem_toArray, List.getElem_cons_succ, List.getElem_cons_zero, Act.put, List.setIfInBounds_toArray, List.set_cons_zero, List.set_cons_succ])
                refine wpAnyE_done (by kernel_rfl) ?_ _
                have kL7 := kL8.keep hb9
                have kA7 := kA8.keep hb9
                replace hbj := below_tr hbj hb9
                clear kL8 kA8 hb9 hq
                generalize w11 = wy at *
                go_wp2_with fail
                refine ⟨⟨j + 1, by omega, by have := HJ1.out; go_num, (by simp <;> omega), (by simp <;> omega), hbj⟩, by have := HJ1.out; simp [intOf]; omega⟩
              · have e0 : decide (a0 ≤ j) = false := by simp; omega
                rw [e0]
                simp only [Bool.true_and, Bool.false_and, Bool.not_true]
                go_upto_region 16 with fail
                refine wp_region_E (S := fun w' => Below wr.drew.heap.size wr.drew w') (E := fun _ => false) (by kernel_rfl) ?_
                have kL8 := kL7.drew
                have kA8 := kA7.drew
                have hbj8 := hbj.drew
                clear kL7 kA7 hbj
                have hbj := hbj8
                clear hbj8
                generalize wr.drew = w8 at *
                refine wpAnyE_take (i := 0) (oi := _) (v := .bool false) rfl (by kernel_rfl) (by kernel_rfl) (by kernel_rfl) (by kernel_rfl) (fun _ _ _ h => h) (Or.inl ⟨by rfl, ?_⟩) (Below.refl _ _) ?_
                · intro w' hSw
                  (try simp only [List.getElem_toArray, List.getElem_cons_zero])
                  go_simp
                (try simp only [List.getElem_toArray, List.getElem_cons_zero, Act.put, List.setIfInBounds_toArray, List.set_cons_zero, List.set_cons_succ])
                refine wpAnyE_take (i := 1) (oi := _) (v := .bool false) rfl (by kernel_rfl) (by kernel_rfl) (by kernel_rfl) (by kernel_rfl) (fun _ _ _ h => h) (Or.inl ⟨by rfl, ?_⟩) (Below.refl _ _) ?_
                · intro w' hSw
                  (try simp only [List.getElem_toArray, List.getElem_cons_succ, List.getElem_cons_zero])
                  go_simp
                (try simp only [List.getElem_toArray, List.getElem_cons_succ, List.getElem_cons_zero, Act.put, List.setIfInBounds_toArray, List.set_cons_zero, List.set_cons_succ])
                refine wpAnyE_take (i := 2) (oi := _) (v := .pointer (some ⟨gA, 1, none⟩)) rfl (by kernel_rfl) (by kernel_rfl) (by kernel_rfl) (by kernel_rfl) (fun _ _ _ h => h) (Or.inl ⟨by rfl, ?_⟩) (Below.refl _ _) ?_
                · intro w' hSw
                  (try simp only [List.getElem_toArray, List.getElem_cons_succ, List.getElem_cons_zero])
                  go_simp
                (try simp only [List.getElem_toArray, List.getElem_cons_succ, List.getElem_cons_zero, Act.put, List.setIfInBounds_toArray, List.set_cons_zero, List.set_cons_succ])
                refine wpAnyE_take (i := 3) (oi := _) (v := .int .i64 ac) rfl (by kernel_rfl) (by kernel_rfl) (by kernel_rfl) (by kernel_rfl) (fun _ _ _ h => h) (Or.inl ⟨by rfl, ?_⟩) (Below.refl _ _) ?_
                · intro w' hSw
                  have s1 := (kA8.keep hSw).cell 1
                  (try simp at s1)
                  (try simp only [List.getElem_toArray, List.getElem_cons_succ, List.getElem_cons_zero])
                  go_simp
                (try simp only [List.getElem_toArray, List.getElem_cons_succ, List.getElem_cons_zero, Act.put, List.setIfInBounds_toArray, List.set_cons_zero, List.set_cons_succ])
                refine wpAnyE_take (i := 4) (oi := _) (v := .agg (lyC l)) rfl (by kernel_rfl) (by kernel_rfl) (by kernel_rfl) (by kernel_rfl) (fun _ _ _ h => h) (Or.inl ⟨by rfl, ?_⟩) (Below.refl _ _) ?_
                · intro w' hSw
                  (try simp only [List.getElem_toArray, List.getElem_cons_succ, List.getElem_cons_zero])
                  simp only [execOp, Instr.loadAt, Instr.sureAddr, Sem.run_bind, Sem.run_pure]
                  rw [show (Act.eval _ (Operand.tmp 4)) = Value.pointer (some ⟨bL, 0, none⟩) from rfl]
                  simp only [Sem.run_pure, Result.andThen_ok, run_loadVar_row w' bL 31 31 (lyC l) (0, 0) _ (kL8.keep hSw) Try.underlying31 rfl (by kernel_rfl)]
                (try simp only [List.getElem_toArray, List.getElem_cons_succ, List.getElem_cons_zero, Act.put, List.setIfInBounds_toArray, List.set_cons_zero, List.set_cons_succ])
                refine wpAnyE_take (i := 5) (oi := _) (v := .int .i64 j1) rfl (by kernel_rfl) (by kernel_rfl) (by kernel_rfl) (by kernel_rfl) (fun _ _ _ h => h) (Or.inl ⟨by rfl, ?_⟩) (Below.refl _ _) ?_
                · intro w' hSw
                  (try simp only [List.getElem_toArray, List.getElem_cons_succ, List.getElem_cons_zero])
                  go_simp
                (try simp only [List.getElem_toArray, List.getElem_cons_succ, List.getElem_cons_zero, Act.put, List.setIfInBounds_toArray, List.set_cons_zero, List.set_cons_succ])
                refine wpAnyE_one (i := 6) (o := _) (by kernel_rfl) rfl (fun K hK => ?_)
                (try simp only [List.getElem_toArray, List.getElem_cons_succ, List.getElem_cons_zero])
                go_simp
                (with_reducible refine (node_any l j1 7 _ HFL.out (by omega)).mono ?_)
                rintro e w9 ⟨rfl, hb9⟩
                obtain ⟨cx, hcx⟩ : ∃ y, nodeAt l j1 7 = y := ⟨_, rfl⟩
                rw [hcx]
                have hq : (ac == cx) = true := by
                  have h1 := HMM.out.1
                  have h2 := HMM.out.2.1
                  have h4 := HJ1.out
                  rw [← hcx, nodeAt_of l (by omega) (by omega), h2]
                  (simp; omega)
                clear hcx
                refine hK.out _ _ (fun _ => hb9) ?_
                clear hK K
                (try simp only [List.getElem_toArray, List.getElem_cons_succ, List.getElem_cons_zero, Act.put, List.setIfInBounds_toArray, List.set_cons_zero, List.set_cons_succ])
                refine wpAnyE_take (i := 7) (oi := _) (v := .bool true) rfl (by kernel_rfl) (by kernel_rfl) (by kernel_rfl) (by kernel_rfl) (fun _ _ _ h => h) (Or.inl ⟨by rfl, ?_⟩) hb9 ?_
                · intro w' hSw
                  (try simp only [List.getElem_toArray, List.getElem_cons_succ, List.getElem_cons_zero])
                  go_simp
                (try simp only [List.getElem_toArray, List.getElem_cons_succ, List.getElem_cons_zero, Act.put, List.setIfInBounds_toArray, List.set_cons_zero, List.set_cons_succ])
                refine wpAnyE_take (i := 8) (oi := _) (v := .bool true) rfl (by kernel_rfl) (by kernel_rfl) (by kernel_rfl) (by kernel_rfl) (fun _ _ _ h => h) (Or.inl ⟨by rfl, ?_⟩) hb9 ?_
                · intro w' hSw
                  (try simp only [List.getElem_toArray, List.getElem_cons_succ, List.getElem_cons_zero])
                  go_simp
                (try simp only [List.getElem_toArray, List.getElem_cons_succ, List.getElem_cons_zero, Act.put, List.setIfInBounds_toArray, List.set_cons_zero, List.set_cons_succ])
                refine wpAnyE_take (i := 9) (oi := _) (v := .bool true) rfl (by kernel_rfl) (by kernel_rfl) (by kernel_rfl) (by kernel_rfl) (fun _ _ _ h => h) (Or.inl ⟨by rfl, ?_⟩) hb9 ?_
                · intro w' hSw
                  (try simp only [List.getElem_toArray, List.getElem_cons_succ, List.getElem_cons_zero])
                  go_simp
                (try simp only [List.getElem_toArray, List.getElem_cons_succ, List.getElem_cons_zero, Act.put, List.setIfInBounds_toArray, List.set_cons_zero, List.set_cons_succ])
                refine wpAnyE_done (by kernel_rfl) ?_ _
                have kL7 := kL8.keep hb9
                have kA7 := kA8.keep hb9
                replace hbj := below_tr hbj hb9
                clear kL8 kA8 hb9 hq
                generalize w9 = wx at *
                go_upto_region 17 with fail
                refine wp_region_E (S := fun w' => Below wx.drew.heap.size wx.drew w') (E := fun _ => false) (by kernel_rfl) ?_
                have kL8 := kL7.drew
                have kA8 := kA7.drew
                have hbj8 := hbj.drew
                clear kL7 kA7 hbj
                have hbj := hbj8
                clear hbj8
                generalize wx.drew = w10 at *
                refine wpAnyE_take (i := 0) (oi := _) (v := .bool false) rfl (by kernel_rfl) (by kernel_rfl) (by kernel_rfl) (by kernel_rfl) (fun _ _ _ h => h) (Or.inl ⟨by rfl, ?_⟩) (Below.refl _ _) ?_
                · intro w' hSw
                  (try simp only [List.getElem_toArray, List.getElem_cons_zero])
                  go_simp
                (try simp only [List.getElem_toArray, List.getElem_cons_zero, Act.put, List.setIfInBounds_toArray, List.set_cons_zero, List.set_cons_succ])
                refine wpAnyE_take (i := 1) (oi := _) (v := .bool false) rfl (by kernel_rfl) (by kernel_rfl) (by kernel_rfl) (by kernel_rfl) (fun _ _ _ h => h) (Or.inl ⟨by rfl, ?_⟩) (Below.refl _ _) ?_
                · intro w' hSw
                  (try simp only [List.getElem_toArray, List.getElem_cons_succ, List.getElem_cons_zero])
                  go_simp
                (try simp only [List.getElem_toArray, List.getElem_cons_succ, List.getElem_cons_zero, Act.put, List.setIfInBounds_toArray, List.set_cons_zero, List.set_cons_succ])
                refine wpAnyE_take (i := 2) (oi := _) (v := .pointer (some ⟨gA, 1, none⟩)) rfl (by kernel_rfl) (by kernel_rfl) (by kernel_rfl) (by kernel_rfl) (fun _ _ _ h => h) (Or.inl ⟨by rfl, ?_⟩) (Below.refl _ _) ?_
                · intro w' hSw
                  (try simp only [List.getElem_toArray, List.getElem_cons_succ, List.getElem_cons_zero])
                  go_simp
                (try simp only [List.getElem_toArray, List.getElem_cons_succ, List.getElem_cons_zero, Act.put, List.setIfInBounds_toArray, List.set_cons_zero, List.set_cons_succ])
                refine wpAnyE_take (i := 3) (oi := _) (v := .int .i64 ac) rfl (by kernel_rfl) (by kernel_rfl) (by kernel_rfl) (by kernel_rfl) (fun _ _ _ h => h) (Or.inl ⟨by rfl, ?_⟩) (Below.refl _ _) ?_
                · intro w' hSw
                  have s1 := (kA8.keep hSw).cell 1
                  (try simp at s1)
                  (try simp only [List.getElem_toArray, List.getElem_cons_succ, List.getElem_cons_zero])
                  go_simp
                (try simp only [List.getElem_toArray, List.getElem_cons_succ, List.getElem_cons_zero, Act.put, List.setIfInBounds_toArray, List.set_cons_zero, List.set_cons_succ])
                refine wpAnyE_take (i := 4) (oi := _) (v := .agg (lyC l)) rfl (by kernel_rfl) (by kernel_rfl) (by kernel_rfl) (by kernel_rfl) (fun _ _ _ h => h) (Or.inl ⟨by rfl, ?_⟩) (Below.refl _ _) ?_
                · intro w' hSw
                  (try simp only [List.getElem_toArray, List.getElem_cons_succ, List.getElem_cons_zero])
                  simp only [execOp, Instr.loadAt, Instr.sureAddr, Sem.run_bind, Sem.run_pure]
                  rw [show (Act.eval _ (Operand.tmp 4)) = Value.pointer (some ⟨bL, 0, none⟩) from rfl]
                  simp only [Sem.run_pure, Result.andThen_ok, run_loadVar_row w' bL 31 31 (lyC l) (0, 0) _ (kL8.keep hSw) Try.underlying31 rfl (by kernel_rfl)]
                (try simp only [List.getElem_toArray, List.getElem_cons_succ, List.getElem_cons_zero, Act.put, List.setIfInBounds_toArray, List.set_cons_zero, List.set_cons_succ])
                refine wpAnyE_take (i := 5) (oi := _) (v := .int .i64 j1) rfl (by kernel_rfl) (by kernel_rfl) (by kernel_rfl) (by kernel_rfl) (fun _ _ _ h => h) (Or.inl ⟨by rfl, ?_⟩) (Below.refl _ _) ?_
                · intro w' hSw
                  (try simp only [List.getElem_toArray, List.getElem_cons_succ, List.getElem_cons_zero])
                  go_simp
                (try simp only [List.getElem_toArray, List.getElem_cons_succ, List.getElem_cons_zero, Act.put, List.setIfInBounds_toArray, List.set_cons_zero, List.set_cons_succ])
                refine wpAnyE_one (i := 6) (o := _) (by kernel_rfl) rfl (fun K hK => ?_)
                (try simp only [List.getElem_toArray, List.getElem_cons_succ, List.getElem_cons_zero])
                go_simp
                (with_reducible refine (node_any l j1 6 _ HFL.out (by omega)).mono ?_)
                rintro e w11 ⟨rfl, hb9⟩
                obtain ⟨cx, hcx⟩ : ∃ y, nodeAt l j1 6 = y := ⟨_, rfl⟩
                rw [hcx]
                have hq : (ac == cx) = false := by
                  have h1 := HMM.out.1
                  have h2 := HMM.out.2.1
                  have h4 := HJ1.out
                  rw [← hcx, nodeAt_of l (by omega) (by omega), h2]
                  (simp; omega)
                clear hcx
                refine hK.out _ _ (fun _ => hb9) ?_
                clear hK K
                (try simp only [List.getElem_toArray, List.getElem_cons_succ, List.getElem_cons_zero, Act.put, List.setIfInBounds_toArray, List.set_cons_zero, List.set_cons_succ])
                refine wpAnyE_take (i := 7) (oi := _) (v := .bool false) rfl (by kernel_rfl) (by kernel_rfl) (by kernel_rfl) (by kernel_rfl) (fun _ _ _ h => h) (Or.inl ⟨by rfl, ?_⟩) hb9 ?_
                · intro w' hSw
                  (try simp only [List.getElem_toArray, List.getElem_cons_succ, List.getElem_cons_zero])
                  go_simp
                (try simp only [List.getElem_toArray, List.getElem_cons_succ, List.getElem_cons_zero, Act.put, List.setIfInBounds_toArray, List.set_cons_zero, List.set_cons_succ])
                refine wpAnyE_take (i := 8) (oi := _) (v := .bool false) rfl (by kernel_rfl) (by kernel_rfl) (by kernel_rfl) (by kernel_rfl) (fun _ _ _ h => h) (Or.inl ⟨by rfl, ?_⟩) hb9 ?_
                · intro w' hSw
                  (try simp only [List.getElem_toArray, List.getElem_cons_succ, List.getElem_cons_zero])
                  go_simp
                (try simp only [List.getElem_toArray, List.getElem_cons_succ, List.getElem_cons_zero, Act.put, List.setIfInBounds_toArray, List.set_cons_zero, List.set_cons_succ])
                refine wpAnyE_take (i := 9) (oi := _) (v := .bool false) rfl (by kernel_rfl) (by kernel_rfl) (by kernel_rfl) (by kernel_rfl) (fun _ _ _ h => h) (Or.inl ⟨by rfl, ?_⟩) hb9 ?_
                · intro w' hSw
                  (try simp only [List.getElem_toArray, List.getElem_cons_succ, List.getElem_cons_zero])
                  go_simp
                (try simp only [List.getElem_toArray, List.getElem_cons_succ, List.getElem_cons_zero, Act.put, List.setIfInBounds_toArray, List.set_cons_zero, List.set_cons_succ])
                refine wpAnyE_done (by kernel_rfl) ?_ _
                have kL7 := kL8.keep hb9
                have kA7 := kA8.keep hb9
                replace hbj := below_tr hbj hb9
                clear kL8 kA8 hb9 hq
                generalize w11 = wy at *
                go_wp2_with fail
                refine ⟨⟨j + 1, by omega, by have := HJ1.out; go_num, (by simp <;> omega), (by simp <;> omega), hbj⟩, by have := HJ1.out; simp [intOf]; omega⟩
              · have e0 : decide (a0 ≤ j) = false := by simp; omega
                rw [e0]
                simp only [Bool.true_and, Bool.false_and, Bool.not_true]
                go_upto_region 16 with fail
                refine wp_region_E (S := fun w' => Below wr.drew.heap.size wr.drew w') (E := fun _ => false) (by kernel_rfl) ?_
                have kL8 := kL7.drew
                have kA8 := kA7.drew
                have hbj8 := hbj.drew
                clear kL7 kA7 hbj
                have hbj := hbj8
                clear hbj8
                generalize wr.drew = w8 at *
                refine wpAnyE_take (i := 0) (oi := _) (v := .bool false) rfl (by kernel_rfl) (by kernel_rfl) (by kernel_rfl) (by kernel_rfl) (fun _ _ _ h => h) (Or.inl ⟨by rfl, ?_⟩) (Below.refl _ _) ?_
                · intro w' hSw
                  (try simp only [List.getElem_toArray, List.getElem_cons_zero])
                  go_simp
                (try simp only [List.getElem_toArray, List.getElem_cons_zero, Act.put, List.setIfInBounds_toArray, List.set_cons_zero, List.set_cons_succ])
                refine wpAnyE_take (i := 1) (oi := _) (v := .bool false) rfl (by kernel_rfl) (by kernel_rfl) (by kernel_rfl) (by kernel_rfl) (fun _ _ _ h => h) (Or.inl ⟨by rfl, ?_⟩) (Below.refl _ _) ?_
                · intro w' hSw
                  (try simp only [List.getElem_toArray, List.getElem_cons_succ, List.getElem_cons_zero])
                  go_simp
                (try simp only [List.getElem_toArray, List.getElem_cons_succ, List.getElem_cons_zero, Act.put, List.setIfInBounds_toArray, List.set_cons_zero, List.set_cons_succ])
                refine wpAnyE_take (i := 2) (oi := _) (v := .pointer (some ⟨gA, 1, none⟩)) rfl (by kernel_rfl) (by kernel_rfl) (by kernel_rfl) (by kernel_rfl) (fun _ _ _ h => h) (Or.inl ⟨by rfl, ?_⟩) (Below.refl _ _) ?_
                · intro w' hSw
                  (try simp only [List.getElem_toArray, List.getElem_cons_succ, List.getElem_cons_zero])
                  go_simp
                (try simp only [List.getElem_toArray, List.getElem_cons_succ, List.getElem_cons_zero, Act.put, List.setIfInBounds_toArray, List.set_cons_zero, List.set_cons_succ])
                refine wpAnyE_take (i := 3) (oi := _) (v := .int .i64 ac) rfl (by kernel_rfl) (by kernel_rfl) (by kernel_rfl) (by kernel_rfl) (fun _ _ _ h => h) (Or.inl ⟨by rfl, ?_⟩) (Below.refl _ _) ?_
                · intro w' hSw
                  have s1 := (kA8.keep hSw).cell 1
                  (try simp at s1)
                  (try simp only [List.getElem_toArray, List.getElem_cons_succ, List.getElem_cons_zero])
                  go_simp
                (try simp only [List.getElem_toArray, List.getElem_cons_succ, List.getElem_cons_zero, Act.put, List.setIfInBounds_toArray, List.set_cons_zero, List.set_cons_succ])
                refine wpAnyE_take (i := 4) (oi := _) (v := .agg (lyC l)) rfl (by kernel_rfl) (by kernel_rfl) (by kernel_rfl) (by kernel_rfl) (fun _ _ _ h => h) (Or.inl ⟨by rfl, ?_⟩) (Below.refl _ _) ?_
                · intro w' hSw
                  (try simp only [List.getElem_toArray, List.getElem_cons_succ, List.getElem_cons_zero])
                  simp only [execOp, Instr.loadAt, Instr.sureAddr, Sem.run_bind, Sem.run_pure]
                  rw [show (Act.eval _ (Operand.tmp 4)) = Value.pointer (some ⟨bL, 0, none⟩) from rfl]
                  simp only [Sem.run_pure, Result.andThen_ok, run_loadVar_row w' bL 31 31 (lyC l) (0, 0) _ (kL8.keep hSw) Try.underlying31 rfl (by kernel_rfl)]
                (try simp only [List.getElem_toArray, List.getElem_cons_succ, List.getElem_cons_zero, Act.put, List.setIfInBounds_toArray, List.set_cons_zero, List.set_cons_succ])
                refine wpAnyE_take (i := 5) (oi := _) (v := .int .i64 j1) rfl (by kernel_rfl) (by kernel_rfl) (by kernel_rfl) (by kernel_rfl) (fun _ _ _ h => h) (Or.inl ⟨by rfl, ?_⟩) (Below.refl _ _) ?_
                · intro w' hSw
                  (try simp only [List.getElem_toArray, List.getElem_cons_succ, List.getElem_cons_zero])
                  go_simp
                (try simp only [List.getElem_toArray, List.getElem_cons_succ, List.getElem_cons_zero, Act.put, List.setIfInBounds_toArray, List.set_cons_zero, List.set_cons_succ])
                refine wpAnyE_one (i := 6) (o := _) (by kernel_rfl) rfl (fun K hK => ?_)
                (try simp only [List.getElem_toArray, List.getElem_cons_succ, List.getElem_cons_zero])
                go_simp
                (with_reducible refine (node_any l j1 7 _ HFL.out (by omega)).mono ?_)
                rintro e w9 ⟨rfl, hb9⟩
                obtain ⟨cx, hcx⟩ : ∃ y, nodeAt l j1 7 = y := ⟨_, rfl⟩
                rw [hcx]
                have hq : (ac == cx) = false := by
                  have h1 := HMM.out.1
                  have h2 := HMM.out.2.1
                  have h4 := HJ1.out
                  rw [← hcx, nodeAt_of l (by omega) (by omega), h2]
                  (simp; omega)
                clear hcx
                refine hK.out _ _ (fun _ => hb9) ?_
                clear hK K
                (try simp only [List.getElem_toArray, List.getElem_cons_succ, List.getElem_cons_zero, Act.put, List.setIfInBounds_toArray, List.set_cons_zero, List.set_cons_succ])
                refine wpAnyE_take (i := 7) (oi := _) (v := .bool false) rfl (by kernel_rfl) (by kernel_rfl) (by kernel_rfl) (by kernel_rfl) (fun _ _ _ h => h) (Or.inl ⟨by rfl, ?_⟩) hb9 ?_
                · intro w' hSw
                  (try simp only [List.getElem_toArray, List.getElem_cons_succ, List.getElem_cons_zero])
                  go_simp
                (try simp only [List.getElem_toArray, List.getElem_cons_succ, List.getElem_cons_zero, Act.put, List.setIfInBounds_toArray, List.set_cons_zero, List.set_cons_succ])
                refine wpAnyE_take (i := 8) (oi := _) (v := .bool false) rfl (by kernel_rfl) (by kernel_rfl) (by kernel_rfl) (by kernel_rfl) (fun _ _ _ h => h) (Or.inl ⟨by rfl, ?_⟩) hb9 ?_
                · intro w' hSw
                  (try simp only [List.getElem_toArray, List.getElem_cons_succ, List.getElem_cons_zero])
                  go_simp
                (try simp only [List.getElem_toArray, List.getElem_cons_succ, List.getElem_cons_zero, Act.put, List.setIfInBounds_toArray, List.set_cons_zero, List.set_cons_succ])
                refine wpAnyE_take (i := 9) (oi := _) (v := .bool false) rfl (by kernel_rfl) (by kernel_rfl) (by kernel_rfl) (by kernel_rfl) (fun _ _ _ h => h) (Or.inl ⟨by rfl, ?_⟩) hb9 ?_
                · intro w' hSw
                  (try simp only [List.getElem_toArray, List.getElem_cons_succ, List.getElem_cons_zero])
                  go_simp
                (try simp only [List.getElem_toArray, List.getElem_cons_succ, List.getElem_cons_zero, Act.put, List.setIfInBounds_toArray, List.set_cons_zero, List.set_cons_succ])
                refine wpAnyE_done (by kernel_rfl) ?_ _
                have kL7 := kL8.keep hb9
                have kA7 := kA8.keep hb9
                replace hbj := below_tr hbj hb9
                clear kL8 kA8 hb9 hq
                generalize w9 = wx at *
                go_upto_region 17 with fail
                refine wp_region_E (S := fun w' => Below wx.drew.heap.size wx.drew w') (E := fun _ => false) (by kernel_rfl) ?_
                have kL8 := kL7.drew
                have kA8 := kA7.drew
                have hbj8 := hbj.drew
                clear kL7 kA7 hbj
                have hbj := hbj8
                clear hbj8
                generalize wx.drew = w10 at *
                refine wpAnyE_take (i := 0) (oi := _) (v := .bool false) rfl (by kernel_rfl) (by kernel_rfl) (by kernel_rfl) (by kernel_rfl) (fun _ _ _ h => h) (Or.inl ⟨by rfl, ?_⟩) (Below.refl _ _) ?_
                · intro w' hSw
                  (try simp only [List.getElem_toArray, List.getElem_cons_zero])
                  go_simp
                (try simp only [List.getElem_toArray, List.getElem_cons_zero, Act.put, List.setIfInBounds_toArray, List.set_cons_zero, List.set_cons_succ])
                refine wpAnyE_take (i := 1) (oi := _) (v := .bool false) rfl (by kernel_rfl) (by kernel_rfl) (by kernel_rfl) (by kernel_rfl) (fun _ _ _ h => h) (Or.inl ⟨by rfl, ?_⟩) (Below.refl _ _) ?_
                · intro w' hSw
                  (try simp only [List.getElem_toArray, List.getElem_cons_succ, List.getElem_cons_zero])
                  go_simp
                (try simp only [List.getElem_toArray, List.getElem_cons_succ, List.getElem_cons_zero, Act.put, List.setIfInBounds_toArray, List.set_cons_zero, List.set_cons_succ])
                refine wpAnyE_take (i := 2) (oi := _) (v := .pointer (some ⟨gA, 1, none⟩)) rfl (by kernel_rfl) (by kernel_rfl) (by kernel_rfl) (by kernel_rfl) (fun _ _ _ h => h) (Or.inl ⟨by rfl, ?_⟩) (Below.refl _ _) ?_
                · intro w' hSw
                  (try simp only [List.getElem_toArray, List.getElem_cons_succ, List.getElem_cons_zero])
                  go_simp
                (try simp only [List.getElem_toArray, List.getElem_cons_succ, List.getElem_cons_zero, Act.put, List.setIfInBounds_toArray, List.set_cons_zero, List.set_cons_succ])
                refine wpAnyE_take (i := 3) (oi := _) (v := .int .i64 ac) rfl (by kernel_rfl) (by kernel_rfl) (by kernel_rfl) (by kernel_rfl) (fun _ _ _ h => h) (Or.inl ⟨by rfl, ?_⟩) (Below.refl _ _) ?_
                · intro w' hSw
                  have s1 := (kA8.keep hSw).cell 1
                  (try simp at s1)
                  (try simp only [List.getElem_toArray, List.getElem_cons_succ, List.getElem_cons_zero])
                  go_simp
                (try simp only [List.getElem_toArray, List.getElem_cons_succ, List.getElem_cons_zero, Act.put, List.setIfInBounds_toArray, List.set_cons_zero, List.set_cons_succ])
                refine wpAnyE_take (i := 4) (oi := _) (v := .agg (lyC l)) rfl (by kernel_rfl) (by kernel_rfl) (by kernel_rfl) (by kernel_rfl) (fun _ _ _ h => h) (Or.inl ⟨by rfl, ?_⟩) (Below.refl _ _) ?_
                · intro w' hSw
                  (try simp only [List.getElem_toArray, List.getElem_cons_succ, List.getElem_cons_zero])
                  simp only [execOp, Instr.loadAt, Instr.sureAddr, Sem.run_bind, Sem.run_pure]
                  rw [show (Act.eval _ (Operand.tmp 4)) = Value.pointer (some ⟨bL, 0, none⟩) from rfl]
                  simp only [Sem.run_pure, Result.andThen_ok, run_loadVar_row w' bL 31 31 (lyC l) (0, 0) _ (kL8.keep hSw) Try.underlying31 rfl (by kernel_rfl)]
                (try simp only [List.getElem_toArray, List.getElem_cons_succ, List.getElem_cons_zero, Act.put, List.setIfInBounds_toArray, List.set_cons_zero, List.set_cons_succ])
                refine wpAnyE_take (i := 5) (oi := _) (v := .int .i64 j1) rfl (by kernel_rfl) (by kernel_rfl) (by kernel_rfl) (by kernel_rfl) (fun _ _ _ h => h) (Or.inl ⟨by rfl, ?_⟩) (Below.refl _ _) ?_
                · intro w' hSw
                  (try simp only [List.getElem_toArray, List.getElem_cons_succ, List.getElem_cons_zero])
                  go_simp
                (try simp only [List.getElem_toArray, List.getElem_cons_succ, List.getElem_cons_zero, Act.put, List.setIfInBounds_toArray, List.set_cons_zero, List.set_cons_succ])
                refine wpAnyE_one (i := 6) (o := _) (by kernel_rfl) rfl (fun K hK => ?_)
                (try simp only [List.getElem_toArray, List.getElem_cons_succ, List.getElem_cons_zero])
                go_simp
                (with_reducible refine (node_any l j1 6 _ HFL.out (by omega)).mono ?_)
                rintro e w11 ⟨rfl, hb9⟩
                obtain ⟨cx, hcx⟩ : ∃ y, nodeAt l j1 6 = y := ⟨_, rfl⟩
                rw [hcx]
                have hq : (ac == cx) = false := by
                  have h1 := HMM.out.1
                  have h2 := HMM.out.2.1
                  have h4 := HJ1.out
                  rw [← hcx, nodeAt_of l (by omega) (by omega), h2]
                  (simp; omega)
                clear hcx
                refine hK.out _ _ (fun _ => hb9) ?_
                clear hK K
                (try simp only [List.getElem_toArray, List.getElem_cons_succ, List.getElem_cons_zero, Act.put, List.setIfInBounds_toArray, List.set_cons_zero, List.set_cons_succ])
                refine wpAnyE_take (i := 7) (oi := _) (v := .bool false) rfl (by kernel_rfl) (by kernel_rfl) (by kernel_rfl) (by kernel_rfl) (fun _ _ _ h => h) (Or.inl ⟨by rfl, ?_⟩) hb9 ?_
                · intro w' hSw
                  (try simp only [List.getElem_toArray, List.getElem_cons_succ, List.getElem_cons_zero])
                  go_simp
                (try simp only [List.getElem_toArray, List.getElem_cons_succ, List.getElem_cons_zero, Act.put, List.setIfInBounds_toArray, List.set_cons_zero, List.set_cons_succ])
                refine wpAnyE_take (i := 8) (oi := _) (v := .bool false) rfl (by kernel_rfl) (by kernel_rfl) (by kernel_rfl) (by kernel_rfl) (fun _ _ _ h => h) (Or.inl ⟨by rfl, ?_⟩) hb9 ?_
                · intro w' hSw
                  (try simp only [List.getElem_toArray, List.getElem_cons_succ, List.getElem_cons_zero])
                  go_simp
                (try simp only [List.getElem_toArray, List.getElem_cons_succ, List.getElem_cons_zero, Act.put, List.setIfInBounds_toArray, List.set_cons_zero, List.set_cons_succ])
                refine wpAnyE_take (i := 9) (oi := _) (v := .bool false) rfl (by kernel_rfl) (by kernel_rfl) (by kernel_rfl) (by kernel_rfl) (fun _ _ _ h => h) (Or.inl ⟨by rfl, ?_⟩) hb9 ?_
                · intro w' hSw
                  (try simp only [List.getElem_toArray, List.getElem_cons_succ, List.getElem_cons_zero])
                  go_simp
                (try simp only [List.getElem_toArray, List.getElem_cons_succ, List.getElem_cons_zero, Act.put, List.setIfInBounds_toArray, List.set_cons_zero, List.set_cons_succ])
                refine wpAnyE_done (by kernel_rfl) ?_ _
                have kL7 := kL8.keep hb9
                have kA7 := kA8.keep hb9
                replace hbj := below_tr hbj hb9
                clear kL8 kA8 hb9 hq
                generalize w11 = wy at *
                go_wp2_with fail
                refine ⟨⟨j + 1, by omega, by have := HJ1.out; go_num, (by simp <;> omega), (by simp <;> omega), hbj⟩, by have := HJ1.out; simp [intOf]; omega⟩
            | false =>
              rcases Nat.lt_trichotomy a0 (j + 1) with ha | ha | ha
              · have e0 : decide (a0 ≤ j) = true := by simp; omega
                rw [e0]
                simp only [Bool.true_and, Bool.false_and, Bool.not_false]
                go_upto_region 16 with fail
                refine wp_region_E (S := fun w' => Below wr.drew.heap.size wr.drew w') (E := fun _ => false) (by kernel_rfl) ?_
                have kL8 := kL7.drew
                have kA8 := kA7.drew
                have hbj8 := hbj.drew
                clear kL7 kA7 hbj
                have hbj := hbj8
                clear hbj8
                generalize wr.drew = w8 at *
                refine wpAnyE_take (i := 0) (oi := _) (v := .bool false) rfl (by kernel_rfl) (by kernel_rfl) (by kernel_rfl) (by kernel_rfl) (fun _ _ _ h => h) (Or.inl ⟨by rfl, ?_⟩) (Below.refl _ _) ?_
                · intro w' hSw
                  (try simp only [List.getElem_toArray, List.getElem_cons_zero])
                  go_simp
                (try simp only [List.getElem_toArray, List.getElem_cons_zero, Act.put, List.setIfInBounds_toArray, List.set_cons_zero, List.set_cons_succ])
                refine wpAnyE_take (i := 1) (oi := _) (v := .bool false) rfl (by kernel_rfl) (by kernel_rfl) (by kernel_rfl) (by kernel_rfl) (fun _ _ _ h => h) (Or.inl ⟨by rfl, ?_⟩) (Below.refl _ _) ?_
                · intro w' hSw
                  (try simp only [List.getElem_toArray, List.getElem_cons_succ, List.getElem_cons_zero])
                  go_simp
                (try simp only [List.getElem_toArray, List.getElem_cons_succ, List.getElem_cons_zero, Act.put, List.setIfInBounds_toArray, List.set_cons_zero, List.set_cons_succ])
                refine wpAnyE_take (i := 2) (oi := _) (v := .pointer (some ⟨gA, 1, none⟩)) rfl (by kernel_rfl) (by kernel_rfl) (by kernel_rfl) (by kernel_rfl) (fun _ _ _ h => h) (Or.inl ⟨by rfl, ?_⟩) (Below.refl _ _) ?_
                · intro w' hSw
                  (try simp only [List.getElem_toArray, List.getElem_cons_succ, List.getElem_cons_zero])
                  go_simp
                (try simp only [List.getElem_toArray, List.getElem_cons_succ, List.getElem_cons_zero, Act.put, List.setIfInBounds_toArray, List.set_cons_zero, List.set_cons_succ])
                refine wpAnyE_take (i := 3) (oi := _) (v := .int .i64 ac) rfl (by kernel_rfl) (by kernel_rfl) (by kernel_rfl) (by kernel_rfl) (fun _ _ _ h => h) (Or.inl ⟨by rfl, ?_⟩) (Below.refl _ _) ?_
                · intro w' hSw
                  have s1 := (kA8.keep hSw).cell 1
                  (try simp at s1)
                  (try simp only [List.getElem_toArray, List.getElem_cons_succ, List.getElem_cons_zero])
                  go_simp
                (try simp only [List.getElem_toArray, List.getElem_cons_succ, List.getElem_cons_zero, Act.put, List.setIfInBounds_toArray, List.set_cons_zero, List.set_cons_succ])
                refine wpAnyE_take (i := 4) (oi := _) (v := .agg (lyC l)) rfl (by kernel_rfl) (by kernel_rfl) (by kernel_rfl) (by kernel_rfl) (fun _ _ _ h => h) (Or.inl ⟨by rfl, ?_⟩) (Below.refl _ _) ?_
                · intro w' hSw
                  (try simp only [List.getElem_toArray, List.getElem_cons_succ, List.getElem_cons_zero])
                  simp only [execOp, Instr.loadAt, Instr.sureAddr, Sem.run_bind, Sem.run_pure]
                  rw [show (Act.eval _ (Operand.tmp 4)) = Value.pointer (some ⟨bL, 0, none⟩) from rfl]
                  simp only [Sem.run_pure, Result.andThen_ok, run_loadVar_row w' bL 31 31 (lyC l) (0, 0) _ (kL8.keep hSw) Try.underlying31 rfl (by kernel_rfl)]
                (try simp only [List.getElem_toArray, List.getElem_cons_succ, List.getElem_cons_zero, Act.put, List.setIfInBounds_toArray, List.set_cons_zero, List.set_cons_succ])
                refine wpAnyE_take (i := 5) (oi := _) (v := .int .i64 j1) rfl (by kernel_rfl) (by kernel_rfl) (by kernel_rfl) (by kernel_rfl) (fun _ _ _ h => h) (Or.inl ⟨by rfl, ?_⟩) (Below.refl _ _) ?_
                · intro w' hSw
                  (try simp only [List.getElem_toArray, List.getElem_cons_succ, List.getElem_cons_zero])
                  go_simp
                (try simp only [List.getElem_toArray, List.getElem_cons_succ, List.getElem_cons_zero, Act.put, List.setIfInBounds_toArray, List.set_cons_zero, List.set_cons_succ])
                refine wpAnyE_one (i := 6) (o := _) (by kernel_rfl) rfl (fun K hK => ?_)
                (try simp only [List.getElem_toArray, List.getElem_cons_succ, List.getElem_cons_zero])
                go_simp
                (with_reducible refine (node_any l j1 7 _ HFL.out (by omega)).mono ?_)
                rintro e w9 ⟨rfl, hb9⟩
                obtain ⟨cx, hcx⟩ : ∃ y, nodeAt l j1 7 = y := ⟨_, rfl⟩
                rw [hcx]
                have hq : (ac == cx) = false := by
                  have h1 := HMM.out.1
                  have h2 := HMM.out.2.1
                  have h4 := HJ1.out
                  rw [← hcx, nodeAt_of l (by omega) (by omega), h2]
                  (simp; omega)
                clear hcx
                refine hK.out _ _ (fun _ => hb9) ?_
                clear hK K
                (try simp only [List.getElem_toArray, List.getElem_cons_succ, List.getElem_cons_zero, Act.put, List.setIfInBounds_toArray, List.set_cons_zero, List.set_cons_succ])
                refine wpAnyE_take (i := 7) (oi := _) (v := .bool false) rfl (by kernel_rfl) (by kernel_rfl) (by kernel_rfl) (by kernel_rfl) (fun _ _ _ h => h) (Or.inl ⟨by rfl, ?_⟩) hb9 ?_
                · intro w' hSw
                  (try simp only [List.getElem_toArray, List.getElem_cons_succ, List.getElem_cons_zero])
                  go_simp
                (try simp only [List.getElem_toArray, List.getElem_cons_succ, List.getElem_cons_zero, Act.put, List.setIfInBounds_toArray, List.set_cons_zero, List.set_cons_succ])
                refine wpAnyE_take (i := 8) (oi := _) (v := .bool false) rfl (by kernel_rfl) (by kernel_rfl) (by kernel_rfl) (by kernel_rfl) (fun _ _ _ h => h) (Or.inl ⟨by rfl, ?_⟩) hb9 ?_
                · intro w' hSw
                  (try simp only [List.getElem_toArray, List.getElem_cons_succ, List.getElem_cons_zero])
                  go_simp
                (try simp only [List.getElem_toArray, List.getElem_cons_succ, List.getElem_cons_zero, Act.put, List.setIfInBounds_toArray, List.set_cons_zero, List.set_cons_succ])
                refine wpAnyE_take (i := 9) (oi := _) (v := .bool false) rfl (by kernel_rfl) (by kernel_rfl) (by kernel_rfl) (by kernel_rfl) (fun _ _ _ h => h) (Or.inl ⟨by rfl, ?_⟩) hb9 ?_
                · intro w' hSw
                  (try simp only [List.getElem_toArray, List.getElem_cons_succ, List.getElem_cons_zero])
                  go_simp
                (try simp only [List.getElem_toArray, List.getElem_cons_succ, List.getElem_cons_zero, Act.put, List.setIfInBounds_toArray, List.set_cons_zero, List.set_cons_succ])
                refine wpAnyE_done (by kernel_rfl) ?_ _
                have kL7 := kL8.keep hb9
                have kA7 := kA8.keep hb9
                replace hbj := below_tr hbj hb9
                clear kL8 kA8 hb9 hq
                generalize w9 = wx at *
                go_upto_region 17 with fail
                refine wp_region_E (S := fun w' => Below wx.drew.heap.size wx.drew w') (E := fun _ => false) (by kernel_rfl) ?_
                have kL8 := kL7.drew
                have kA8 := kA7.drew
                have hbj8 := hbj.drew
                clear kL7 kA7 hbj
                have hbj := hbj8
                clear hbj8
                generalize wx.drew = w10 at *
                refine wpAnyE_take (i := 0) (oi := _) (v := .bool true) rfl (by kernel_rfl) (by kernel_rfl) (by kernel_rfl) (by kernel_rfl) (fun _ _ _ h => h) (Or.inl ⟨by rfl, ?_⟩) (Below.refl _ _) ?_
                · intro w' hSw
                  (try simp only [List.getElem_toArray, List.getElem_cons_zero])
                  go_simp
                (try simp only [List.getElem_toArray, List.getElem_cons_zero, Act.put, List.setIfInBounds_toArray, List.set_cons_zero, List.set_cons_succ])
                refine wpAnyE_take (i := 1) (oi := _) (v := .bool true) rfl (by kernel_rfl) (by kernel_rfl) (by kernel_rfl) (by kernel_rfl) (fun _ _ _ h => h) (Or.inl ⟨by rfl, ?_⟩) (Below.refl _ _) ?_
                · intro w' hSw
                  (try simp only [List.getElem_toArray, List.getElem_cons_succ, List.getElem_cons_zero])
                  go_simp
                (try simp only [List.getElem_toArray, List.getElem_cons_succ, List.getElem_cons_zero, Act.put, List.setIfInBounds_toArray, List.set_cons_zero, List.set_cons_succ])
                refine wpAnyE_take (i := 2) (oi := _) (v := undef) rfl (by kernel_rfl) (by kernel_rfl) (by kernel_rfl) (by kernel_rfl) (fun _ _ _ h => h) (Or.inr ⟨by rfl, rfl⟩) (Below.refl _ _) ?_
                (try simp only [List.getElem_toArray, List.getElem_cons_succ, List.getElem_cons_zero, Act.put, List.setIfInBounds_toArray, List.set_cons_zero, List.set_cons_succ])
                refine wpAnyE_take (i := 3) (oi := _) (v := undef) rfl (by kernel_rfl) (by kernel_rfl) (by kernel_rfl) (by kernel_rfl) (fun _ _ _ h => h) (Or.inr ⟨by rfl, rfl⟩) (Below.refl _ _) ?_
                (try simp only [List.getElem_toArray, List.getElem_cons_succ, List.getElem_cons_zero, Act.put, List.setIfInBounds_toArray, List.set_cons_zero, List.set_cons_succ])
                refine wpAnyE_take (i := 4) (oi := _) (v := undef) rfl (by kernel_rfl) (by kernel_rfl) (by kernel_rfl) (by kernel_rfl) (fun _ _ _ h => h) (Or.inr ⟨by rfl, rfl⟩) (Below.refl _ _) ?_
                (try simp only [List.getElem_toArray, List.getElem_cons_succ, List.getElem_cons_zero, Act.put, List.setIfInBounds_toArray, List.set_cons_zero, List.set_cons_succ])
                refine wpAnyE_take (i := 5) (oi := _) (v := undef) rfl (by kernel_rfl) (by kernel_rfl) (by kernel_rfl) (by kernel_rfl) (fun _ _ _ h => h) (Or.inr ⟨by rfl, rfl⟩) (Below.refl _ _) ?_
                (try simp only [List.getElem_toArray, List.getElem_cons_succ, List.getElem_cons_zero, Act.put, List.setIfInBounds_toArray, List.set_cons_zero, List.set_cons_succ])
                refine wpAnyE_take (i := 6) (oi := _) (v := undef) rfl (by kernel_rfl) (by kernel_rfl) (by kernel_rfl) (by kernel_rfl) (fun _ _ _ h => h) (Or.inr ⟨by rfl, rfl⟩) (Below.refl _ _) ?_
                (try simp only [List.getElem_toArray, List.getElem_cons_succ, List.getElem_cons_zero, Act.put, List.setIfInBounds_toArray, List.set_cons_zero, List.set_cons_succ])
                refine wpAnyE_take (i := 7) (oi := _) (v := undef) rfl (by kernel_rfl) (by kernel_rfl) (by kernel_rfl) (by kernel_rfl) (fun _ _ _ h => h) (Or.inr ⟨by rfl, rfl⟩) (Below.refl _ _) ?_
                (try simp only [List.getElem_toArray, List.getElem_cons_succ, List.getElem_cons_zero, Act.put, List.setIfInBounds_toArray, List.set_cons_zero, List.set_cons_succ])
                refine wpAnyE_take (i := 8) (oi := _) (v := .bool true) rfl (by kernel_rfl) (by kernel_rfl) (by kernel_rfl) (by kernel_rfl) (fun _ _ _ h => h) (Or.inl ⟨by rfl, ?_⟩) (Below.refl _ _) ?_
                · intro w' hSw
                  (try simp only [List.getElem_toArray, List.getElem_cons_succ, List.getElem_cons_zero])
                  go_simp
                (try simp only [List.getElem_toArray, List.getElem_cons_succ, List.getElem_cons_zero, Act.put, List.setIfInBounds_toArray, List.set_cons_zero, List.set_cons_succ])
                refine wpAnyE_take (i := 9) (oi := _) (v := .bool true) rfl (by kernel_rfl) (by kernel_rfl) (by kernel_rfl) (by kernel_rfl) (fun _ _ _ h => h) (Or.inl ⟨by rfl, ?_⟩) (Below.refl _ _) ?_
                · intro w' hSw
                  (try simp only [List.getElem_toArray, List.getElem_cons_succ, List.getElem_cons_zero])
                  go_simp
                (try simp only [List.getElem_toArray, List.getElem_cons_succ, List.getElem_cons_zero, Act.put, List.setIfInBounds_toArray, List.set_cons_zero, List.set_cons_succ])
                refine wpAnyE_done (by kernel_rfl) ?_ _
                have kL7 := kL8
                have kA7 := kA8
                clear kL8 kA8
                generalize w10 = wy at *
                go_wp2_with fail
                refine ⟨⟨j + 1, by omega, by have := HJ1.out; go_num, (by simp <;> omega), (by simp <;> omega), hbj⟩, by have := HJ1.out; simp [intOf]; omega⟩
              · have e0 : decide (a0 ≤ j) = false := by simp; omega
                rw [e0]
                simp only [Bool.true_and, Bool.false_and, Bool.not_false]
                go_upto_region 16 with fail
                refine wp_region_E (S := fun w' => Below wr.drew.heap.size wr.drew w') (E := fun _ => false) (by kernel_rfl) ?_
                have kL8 := kL7.drew
                have kA8 := kA7.drew
                have hbj8 := hbj.drew
                clear kL7 kA7 hbj
                have hbj := hbj8
                clear hbj8
                generalize wr.drew = w8 at *
                refine wpAnyE_take (i := 0) (oi := _) (v := .bool false) rfl (by kernel_rfl) (by kernel_rfl) (by kernel_rfl) (by kernel_rfl) (fun _ _ _ h => h) (Or.inl ⟨by rfl, ?_⟩) (Below.refl _ _) ?_
                · intro w' hSw
                  (try simp only [List.getElem_toArray, List.getElem_cons_zero])
                  go_simp
                (try simp only [List.getElem_toArray, List.getElem_cons_zero, Act.put, List.setIfInBounds_toArray, List.set_cons_zero, List.set_cons_succ])
                refine wpAnyE_take (i := 1) (oi := _) (v := .bool false) rfl (by kernel_rfl) (by kernel_rfl) (by kernel_rfl) (by kernel_rfl) (fun _ _ _ h => h) (Or.inl ⟨by rfl, ?_⟩) (Below.refl _ _) ?_
                · intro w' hSw
                  (try simp only [List.getElem_toArray, List.getElem_cons_succ, List.getElem_cons_zero])
                  go_simp
                (try simp only [List.getElem_toArray, List.getElem_cons_succ, List.getElem_cons_zero, Act.put, List.setIfInBounds_toArray, List.set_cons_zero, List.set_cons_succ])
                refine wpAnyE_take (i := 2) (oi := _) (v := .pointer (some ⟨gA, 1, none⟩)) rfl (by kernel_rfl) (by kernel_rfl) (by kernel_rfl) (by kernel_rfl) (fun _ _ _ h => h) (Or.inl ⟨by rfl, ?_⟩) (Below.refl _ _) ?_
                · intro w' hSw
                  (try simp only [List.getElem_toArray, List.getElem_cons_succ, List.getElem_cons_zero])
                  go_simp
                (try simp only [List.getElem_toArray, List.getElem_cons_succ, List.getElem_cons_zero, Act.put, List.setIfInBounds_toArray, List.set_cons_zero, List.set_cons_succ])
                refine wpAnyE_take (i := 3) (oi := _) (v := .int .i64 ac) rfl (by kernel_rfl) (by kernel_rfl) (by kernel_rfl) (by kernel_rfl) (fun _ _ _ h => h) (Or.inl ⟨by rfl, ?_⟩) (Below.refl _ _) ?_
                · intro w' hSw
                  have s1 := (kA8.keep hSw).cell 1
                  (try simp at s1)
                  (try simp only [List.getElem_toArray, List.getElem_cons_succ, List.getElem_cons_zero])
                  go_simp
                (try simp only [List.getElem_toArray, List.getElem_cons_succ, List.getElem_cons_zero, Act.put, List.setIfInBounds_toArray, List.set_cons_zero, List.set_cons_succ])
                refine wpAnyE_take (i := 4) (oi := _) (v := .agg (lyC l)) rfl (by kernel_rfl) (by kernel_rfl) (by kernel_rfl) (by kernel_rfl) (fun _ _ _ h => h) (Or.inl ⟨by rfl, ?_⟩) (Below.refl _ _) ?_
                · intro w' hSw
                  (try simp only [List.getElem_toArray, List.getElem_cons_succ, List.getElem_cons_zero])
                  simp only [execOp, Instr.loadAt, Instr.sureAddr, Sem.run_bind, Sem.run_pure]
                  rw [show (Act.eval _ (Operand.tmp 4)) = Value.pointer (some ⟨bL, 0, none⟩) from rfl]
                  simp only [Sem.run_pure, Result.andThen_ok, run_loadVar_row w' bL 31 31 (lyC l) (0, 0) _ (kL8.keep hSw) Try.underlying31 rfl (by kernel_rfl)]
                (try simp only [List.getElem_toArray, List.getElem_cons_succ, List.getElem_cons_zero, Act.put, List.setIfInBounds_toArray, List.set_cons_zero, List.set_cons_succ])
                refine wpAnyE_take (i := 5) (oi := _) (v := .int .i64 j1) rfl (by kernel_rfl) (by kernel_rfl) (by kernel_rfl) (by kernel_rfl) (fun _ _ _ h => h) (Or.inl ⟨by rfl, ?_⟩) (Below.refl _ _) ?_
                · intro w' hSw
                  (try simp only [List.getElem_toArray, List.getElem_cons_succ, List.getElem_cons_zero])
                  go_simp
                (try simp only [List.getElem_toArray, List.getElem_cons_succ, List.getElem_cons_zero, Act.put, List.setIfInBounds_toArray, List.set_cons_zero, List.set_cons_succ])
                refine wpAnyE_one (i := 6) (o := _) (by kernel_rfl) rfl (fun K hK => ?_)
                (try simp only [List.getElem_toArray, List.getElem_cons_succ, List.getElem_cons_zero])
                go_simp
                (with_reducible refine (node_any l j1 7 _ HFL.out (by omega)).mono ?_)
                rintro e w9 ⟨rfl, hb9⟩
                obtain ⟨cx, hcx⟩ : ∃ y, nodeAt l j1 7 = y := ⟨_, rfl⟩
                rw [hcx]
                have hq : (ac == cx) = false := by
                  have h1 := HMM.out.1
                  have h2 := HMM.out.2.1
                  have h4 := HJ1.out
                  rw [← hcx, nodeAt_of l (by omega) (by omega), h2]
                  (simp; omega)
                clear hcx
                refine hK.out _ _ (fun _ => hb9) ?_
                clear hK K
                (try simp only [List.getElem_toArray, List.getElem_cons_succ, List.getElem_cons_zero, Act.put, List.setIfInBounds_toArray, List.set_cons_zero, List.set_cons_succ])
                refine wpAnyE_take (i := 7) (oi := _) (v := .bool false) rfl (by kernel_rfl) (by kernel_rfl) (by kernel_rfl) (by kernel_rfl) (fun _ _ _ h => h) (Or.inl ⟨by rfl, ?_⟩) hb9 ?_
                · intro w' hSw
                  (try simp only [List.getElem_toArray, List.getElem_cons_succ, List.getElem_cons_zero])
                  go_simp
                (try simp only [List.getElem_toArray, List.getElem_cons_succ, List.getElem_cons_zero, Act.put, List.setIfInBounds_toArray, List.set_cons_zero, List.set_cons_succ])
                refine wpAnyE_take (i := 8) (oi := _) (v := .bool false) rfl (by kernel_rfl) (by kernel_rfl) (by kernel_rfl) (by kernel_rfl) (fun _ _ _ h => h) (Or.inl ⟨by rfl, ?_⟩) hb9 ?_
                · intro w' hSw
                  (try simp only [List.getElem_toArray, List.getElem_cons_succ, List.getElem_cons_zero])
                  go_simp
                (try simp only [List.getElem_toArray, List.getElem_cons_succ, List.getElem_cons_zero, Act.put, List.setIfInBounds_toArray, List.set_cons_zero, List.set_cons_succ])
                refine wpAnyE_take (i := 9) (oi := _) (v := .bool false) rfl (by kernel_rfl) (by kernel_rfl) (by kernel_rfl) (by kernel_rfl) (fun _ _ _ h => h) (Or.inl ⟨by rfl, ?_⟩) hb9 ?_
                · intro w' hSw
                  (try simp only [List.getElem_toArray, List.getElem_cons_succ, List.getElem_cons_zero])
                  go_simp
                (try simp only [List.getElem_toArray, List.getElem_cons_succ, List.getElem_cons_zero, Act.put, List.setIfInBounds_toArray, List.set_cons_zero, List.set_cons_succ])
                refine wpAnyE_done (by kernel_rfl) ?_ _
                have kL7 := kL8.keep hb9
                have kA7 := kA8.keep hb9
                replace hbj := below_tr hbj hb9
                clear kL8 kA8 hb9 hq
                generalize w9 = wx at *
                go_upto_region 17 with fail
                refine wp_region_E (S := fun w' => Below wx.drew.heap.size wx.drew w') (E := fun _ => false) (by kernel_rfl) ?_
                have kL8 := kL7.drew
                have kA8 := kA7.drew
                have hbj8 := hbj.drew
                clear kL7 kA7 hbj
                have hbj := hbj8
                clear hbj8
                generalize wx.drew = w10 at *
                refine wpAnyE_take (i := 0) (oi := _) (v := .bool false) rfl (by kernel_rfl) (by kernel_rfl) (by kernel_rfl) (by kernel_rfl) (fun _ _ _ h => h) (Or.inl ⟨by rfl, ?_⟩) (Below.refl _ _) ?_
                · intro w' hSw
                  (try simp only [List.getElem_toArray, List.getElem_cons_zero])
                  go_simp
                (try simp only [List.getElem_toArray, List.getElem_cons_zero, Act.put, List.setIfInBounds_toArray, List.set_cons_zero, List.set_cons_succ])
                refine wpAnyE_take (i := 1) (oi := _) (v := .bool false) rfl (by kernel_rfl) (by kernel_rfl) (by kernel_rfl) (by kernel_rfl) (fun _ _ _ h => h) (Or.inl ⟨by rfl, ?_⟩) (Below.refl _ _) ?_
                · intro w' hSw
                  (try simp only [List.getElem_toArray, List.getElem_cons_succ, List.getElem_cons_zero])
                  go_simp
                (try simp only [List.getElem_toArray, List.getElem_cons_succ, List.getElem_cons_zero, Act.put, List.setIfInBounds_toArray, List.set_cons_zero, List.set_cons_succ])
                refine wpAnyE_take (i := 2) (oi := _) (v := .pointer (some ⟨gA, 1, none⟩)) rfl (by kernel_rfl) (by kernel_rfl) (by kernel_rfl) (by kernel_rfl) (fun _ _ _ h => h) (Or.inl ⟨by rfl, ?_⟩) (Below.refl _ _) ?_
                · intro w' hSw
                  (try simp only [List.getElem_toArray, List.getElem_cons_succ, List.getElem_cons_zero])
                  go_simp
                (try simp only [List.getElem_toArray, List.getElem_cons_succ, List.getElem_cons_zero, Act.put, List.setIfInBounds_toArray, List.set_cons_zero, List.set_cons_succ])
                refine wpAnyE_take (i := 3) (oi := _) (v := .int .i64 ac) rfl (by kernel_rfl) (by kernel_rfl) (by kernel_rfl) (by kernel_rfl) (fun _ _ _ h => h) (Or.inl ⟨by rfl, ?_⟩) (Below.refl _ _) ?_
                · intro w' hSw
                  have s1 := (kA8.keep hSw).cell 1
                  (try simp at s1)
                  (try simp only [List.getElem_toArray, List.getElem_cons_succ, List.getElem_cons_zero])
                  go_simp
                (try simp only [List.getElem_toArray, List.getElem_cons_succ, List.getElem_cons_zero, Act.put, List.setIfInBounds_toArray, List.set_cons_zero, List.set_cons_succ])
                refine wpAnyE_take (i := 4) (oi := _) (v := .agg (lyC l)) rfl (by kernel_rfl) (by kernel_rfl) (by kernel_rfl) (by kernel_rfl) (fun _ _ _ h => h) (Or.inl ⟨by rfl, ?_⟩) (Below.refl _ _) ?_
                · intro w' hSw
                  (try simp only [List.getElem_toArray, List.getElem_cons_succ, List.getElem_cons_zero])
                  simp only [execOp, Instr.loadAt, Instr.sureAddr, Sem.run_bind, Sem.run_pure]
                  rw [show (Act.eval _ (Operand.tmp 4)) = Value.pointer (some ⟨bL, 0, none⟩) from rfl]
                  simp only [Sem.run_pure, Result.andThen_ok, run_loadVar_row w' bL 31 31 (lyC l) (0, 0) _ (kL8.keep hSw) Try.underlying31 rfl (by kernel_rfl)]
                (try simp only [List.getElem_toArray, List.getElem_cons_succ, List.getElem_cons_zero, Act.put, List.setIfInBounds_toArray, List.set_cons_zero, List.set_cons_succ])
                refine wpAnyE_take (i := 5) (oi := _) (v := .int .i64 j1) rfl (by kernel_rfl) (by kernel_rfl) (by kernel_rfl) (by kernel_rfl) (fun _ _ _ h => h) (Or.inl ⟨by rfl, ?_⟩) (Below.refl _ _) ?_
                · intro w' hSw
                  (try simp only [List.getElem_toArray, List.getElem_cons_succ, List.getElem_cons_zero])
                  go_simp
                (try simp only [List.getElem_toArray, List.getElem_cons_succ, List.getElem_cons_zero, Act.put, List.setIfInBounds_toArray, List.set_cons_zero, List.set_cons_succ])
                refine wpAnyE_one (i := 6) (o := _) (by kernel_rfl) rfl (fun K hK => ?_)
                (try simp only [List.getElem_toArray, List.getElem_cons_succ, List.getElem_cons_zero])
                go_simp
                (with_reducible refine (node_any l j1 6 _ HFL.out (by omega)).mono ?_)
                rintro e w11 ⟨rfl, hb9⟩
                obtain ⟨cx, hcx⟩ : ∃ y, nodeAt l j1 6 = y := ⟨_, rfl⟩
                rw [hcx]
                have hq : (ac == cx) = true := by
                  have h1 := HMM.out.1
                  have h2 := HMM.out.2.1
                  have h4 := HJ1.out
                  rw [← hcx, nodeAt_of l (by omega) (by omega), h2]
                  (simp; omega)
                clear hcx
                refine hK.out _ _ (fun _ => hb9) ?_
                clear hK K
                (try simp only [List.getElem_toArray, List.getElem_cons_succ, List.getElem_cons_zero, Act.put, List.setIfInBounds_toArray, List.set_cons_zero, List.set_cons_succ])
                refine wpAnyE_take (i := 7) (oi := _) (v := .bool true) rfl (by kernel_rfl) (by kernel_rfl) (by kernel_rfl) (by kernel_rfl) (fun _ _ _ h => h) (Or.inl ⟨by rfl, ?_⟩) hb9 ?_
                · intro w' hSw
                  (try simp only [List.getElem_toArray, List.getElem_cons_succ, List.getElem_cons_zero])
                  go_simp
                (try simp only [List.getElem_toArray, List.getElem_cons_succ, List.getElem_cons_zero, Act.put, List.setIfInBounds_toArray, List.set_cons_zero, List.set_cons_succ])
                refine wpAnyE_take (i := 8) (oi := _) (v := .bool true) rfl (by kernel_rfl) (by kernel_rfl) (by kernel_rfl) (by kernel_rfl) (fun _ _ _ h => h) (Or.inl ⟨by rfl, ?_⟩) hb9 ?_
                · intro w' hSw
                  (try simp only [List.getElem_toArray, List.getElem_cons_succ, List.getElem_cons_zero])
                  go_simp
                (try simp only [List.getElem_toArray, List.getElem_cons_succ, List.getElem_cons_zero, Act.put, List.setIfInBounds_toArray, List.set_cons_zero, List.set_cons_succ])
                refine wpAnyE_take (i := 9) (oi := _) (v := .bool true) rfl (by kernel_rfl) (by kernel_rfl) (by kernel_rfl) (by kernel_rfl) (fun _ _ _ h => h) (Or.inl ⟨by rfl, ?_⟩) hb9 ?_
                · intro w' hSw
                  (try simp only [List.getElem_toArray, List.getElem_cons_succ, List.getElem_cons_zero])
                  go_simp
                (try simp only [List.getElem_toArray, List.getElem_cons_succ, List.getElem_cons_zero, Act.put, List.setIfInBounds_toArray, List.set_cons_zero, List.set_cons_succ])
                refine wpAnyE_done (by kernel_rfl) ?_ _
                have kL7 := kL8.keep hb9
                have kA7 := kA8.keep hb9
                replace hbj := below_tr hbj hb9
                clear kL8 kA8 hb9 hq
                generalize w11 = wy at *
                go_wp2_with fail
                refine ⟨⟨j + 1, by omega, by have := HJ1.out; go_num, (by simp <;> omega), (by simp <;> omega), hbj⟩, by have := HJ1.out; simp [intOf]; omega⟩
              · have e0 : decide (a0 ≤ j) = false := by simp; omega
                rw [e0]
                simp only [Bool.true_and, Bool.false_and, Bool.not_false]
                go_upto_region 16 with fail
                refine wp_region_E (S := fun w' => Below wr.drew.heap.size wr.drew w') (E := fun _ => false) (by kernel_rfl) ?_
                have kL8 := kL7.drew
                have kA8 := kA7.drew
                have hbj8 := hbj.drew
                clear kL7 kA7 hbj
                have hbj := hbj8
                clear hbj8
                generalize wr.drew = w8 at *
                refine wpAnyE_take (i := 0) (oi := _) (v := .bool false) rfl (by kernel_rfl) (by kernel_rfl) (by kernel_rfl) (by kernel_rfl) (fun _ _ _ h => h) (Or.inl ⟨by rfl, ?_⟩) (Below.refl _ _) ?_
                · intro w' hSw
                  (try simp only [List.getElem_toArray, List.getElem_cons_zero])
                  go_simp
                (try simp only [List.getElem_toArray, List.getElem_cons_zero, Act.put, List.setIfInBounds_toArray, List.set_cons_zero, List.set_cons_succ])
                refine wpAnyE_take (i := 1) (oi := _) (v := .bool false) rfl (by kernel_rfl) (by kernel_rfl) (by kernel_rfl) (by kernel_rfl) (fun _ _ _ h => h) (Or.inl ⟨by rfl, ?_⟩) (Below.refl _ _) ?_
                · intro w' hSw
                  (try simp only [List.getElem_toArray, List.getElem_cons_succ, List.getElem_cons_zero])
                  go_simp
                (try simp only [List.getElem_toArray, List.getElem_cons_succ, List.getElem_cons_zero, Act.put, List.setIfInBounds_toArray, List.set_cons_zero, List.set_cons_succ])
                refine wpAnyE_take (i := 2) (oi := _) (v := .pointer (some ⟨gA, 1, none⟩)) rfl (by kernel_rfl) (by kernel_rfl) (by kernel_rfl) (by kernel_rfl) (fun _ _ _ h => h) (Or.inl ⟨by rfl, ?_⟩) (Below.refl _ _) ?_
                · intro w' hSw
                  (try simp only [List.getElem_toArray, List.getElem_cons_succ, List.getElem_cons_zero])
                  go_simp
                (try simp only [List.getElem_toArray, List.getElem_cons_succ, List.getElem_cons_zero, Act.put, List.setIfInBounds_toArray, List.set_cons_zero, List.set_cons_succ])
                refine wpAnyE_take (i := 3) (oi := _) (v := .int .i64 ac) rfl (by kernel_rfl) (by kernel_rfl) (by kernel_rfl) (by kernel_rfl) (fun _ _ _ h => h) (Or.inl ⟨by rfl, ?_⟩) (Below.refl _ _) ?_
                · intro w' hSw
                  have s1 := (kA8.keep hSw).cell 1
                  (try simp at s1)
                  (try simp only [List.getElem_toArray, List.getElem_cons_succ, List.getElem_cons_zero])
                  go_simp
                (try simp only [List.getElem_toArray, List.getElem_cons_succ, List.getElem_cons_zero, Act.put, List.setIfInBounds_toArray, List.set_cons_zero, List.set_cons_succ])
                refine wpAnyE_take (i := 4) (oi := _) (v := .agg (lyC l)) rfl (by kernel_rfl) (by kernel_rfl) (by kernel_rfl) (by kernel_rfl) (fun _ _ _ h => h) (Or.inl ⟨by rfl, ?_⟩) (Below.refl _ _) ?_
                · intro w' hSw
                  (try simp only [List.getElem_toArray, List.getElem_cons_succ, List.getElem_cons_zero])
                  simp only [execOp, Instr.loadAt, Instr.sureAddr, Sem.run_bind, Sem.run_pure]
                  rw [show (Act.eval _ (Operand.tmp 4)) = Value.pointer (some ⟨bL, 0, none⟩) from rfl]
                  simp only [Sem.run_pure, Result.andThen_ok, run_loadVar_row w' bL 31 31 (lyC l) (0, 0) _ (kL8.keep hSw) Try.underlying31 rfl (by kernel_rfl)]
                (try simp only [List.getElem_toArray, List.getElem_cons_succ, List.getElem_cons_zero, Act.put, List.setIfInBounds_toArray, List.set_cons_zero, List.set_cons_succ])
                refine wpAnyE_take (i := 5) (oi := _) (v := .int .i64 j1) rfl (by kernel_rfl) (by kernel_rfl) (by kernel_rfl) (by kernel_rfl) (fun _ _ _ h => h) (Or.inl ⟨by rfl, ?_⟩) (Below.refl _ _) ?_
                · intro w' hSw
                  (try simp only [List.getElem_toArray, List.getElem_cons_succ, List.getElem_cons_zero])
                  go_simp
                (try simp only [List.getElem_toArray, List.getElem_cons_succ, List.getElem_cons_zero, Act.put, List.setIfInBounds_toArray, List.set_cons_zero, List.set_cons_succ])
                refine wpAnyE_one (i := 6) (o := _) (by kernel_rfl) rfl (fun K hK => ?_)
                (try simp only [List.getElem_toArray, List.getElem_cons_succ, List.getElem_cons_zero])
                go_simp
                (with_reducible refine (node_any l j1 7 _ HFL.out (by omega)).mono ?_)
                rintro e w9 ⟨rfl, hb9⟩
                obtain ⟨cx, hcx⟩ : ∃ y, nodeAt l j1 7 = y := ⟨_, rfl⟩
                rw [hcx]
                have hq : (ac == cx) = false := by
                  have h1 := HMM.out.1
                  have h2 := HMM.out.2.1
                  have h4 := HJ1.out
                  rw [← hcx, nodeAt_of l (by omega) (by omega), h2]
                  (simp; omega)
                clear hcx
                refine hK.out _ _ (fun _ => hb9) ?_
                clear hK K
                (try simp only [List.getElem_toArray, List.getElem_cons_succ, List.getElem_cons_zero, Act.put, List.setIfInBounds_toArray, List.set_cons_zero, List.set_cons_succ])
                refine wpAnyE_take (i := 7) (oi := _) (v := .bool false) rfl (by kernel_rfl) (by kernel_rfl) (by kernel_rfl) (by kernel_rfl) (fun _ _ _ h => h) (Or.inl ⟨by rfl, ?_⟩) hb9 ?_
                · intro w' hSw
                  (try simp only [List.getElem_toArray, List.getElem_cons_succ, List.getElem_cons_zero])
                  go_simp
                (try simp only [List.getElem_toArray, List.getElem_cons_succ, List.getElem_cons_zero, Act.put, List.setIfInBounds_toArray, List.set_cons_zero, List.set_cons_succ])
                refine wpAnyE_take (i := 8) (oi := _) (v := .bool false) rfl (by kernel_rfl) (by kernel_rfl) (by kernel_rfl) (by kernel_rfl) (fun _ _ _ h => h) (Or.inl ⟨by rfl, ?_⟩) hb9 ?_
                · intro w' hSw
                  (try simp only [List.getElem_toArray, List.getElem_cons_succ, List.getElem_cons_zero])
                  go_simp
                (try simp only [List.getElem_toArray, List.getElem_cons_succ, List.getElem_cons_zero, Act.put, List.setIfInBounds_toArray, List.set_cons_zero, List.set_cons_succ])
                refine wpAnyE_take (i := 9) (oi := _) (v := .bool false) rfl (by kernel_rfl) (by kernel_rfl) (by kernel_rfl) (by kernel_rfl) (fun _ _ _ h => h) (Or.inl ⟨by rfl, ?_⟩) hb9 ?_
                · intro w' hSw
                  (try simp only [List.getElem_toArray, List.getElem_cons_succ, List.getElem_cons_zero])
                  go_simp
                (try simp only [List.getElem_toArray, List.getElem_cons_succ, List.getElem_cons_zero, Act.put, List.setIfInBounds_toArray, List.set_cons_zero, List.set_cons_succ])
                refine wpAnyE_done (by kernel_rfl) ?_ _
                have kL7 := kL8.keep hb9
                have kA7 := kA8.keep hb9
                replace hbj := below_tr hbj hb9
                clear kL8 kA8 hb9 hq
                generalize w9 = wx at *
                go_upto_region 17 with fail
                refine wp_region_E (S := fun w' => Below wx.drew.heap.size wx.drew w') (E := fun _ => false) (by kernel_rfl) ?_
                have kL8 := kL7.drew
                have kA8 := kA7.drew
                have hbj8 := hbj.drew
                clear kL7 kA7 hbj
                have hbj := hbj8
                clear hbj8
                generalize wx.drew = w10 at *
                refine wpAnyE_take (i := 0) (oi := _) (v := .bool false) rfl (by kernel_rfl) (by kernel_rfl) (by kernel_rfl) (by kernel_rfl) (fun _ _ _ h => h) (Or.inl ⟨by rfl, ?_⟩) (Below.refl _ _) ?_
                · intro w' hSw
                  (try simp only [List.getElem_toArray, List.getElem_cons_zero])
                  go_simp
                (try simp only [List.getElem_toArray, List.getElem_cons_zero, Act.put, List.setIfInBounds_toArray, List.set_cons_zero, List.set_cons_succ])
                refine wpAnyE_take (i := 1) (oi := _) (v := .bool false) rfl (by kernel_rfl) (by kernel_rfl) (by kernel_rfl) (by kernel_rfl) (fun _ _ _ h => h) (Or.inl ⟨by rfl, ?_⟩) (Below.refl _ _) ?_
                · intro w' hSw
                  (try simp only [List.getElem_toArray, List.getElem_cons_succ, List.getElem_cons_zero])
                  go_simp
                (try simp only [List.getElem_toArray, List.getElem_cons_succ, List.getElem_cons_zero, Act.put, List.setIfInBounds_toArray, List.set_cons_zero, List.set_cons_succ])
                refine wpAnyE_take (i := 2) (oi := _) (v := .pointer (some ⟨gA, 1, none⟩)) rfl (by kernel_rfl) (by kernel_rfl) (by kernel_rfl) (by kernel_rfl) (fun _ _ _ h => h) (Or.inl ⟨by rfl, ?_⟩) (Below.refl _ _) ?_
                · intro w' hSw
                  (try simp only [List.getElem_toArray, List.getElem_cons_succ, List.getElem_cons_zero])
                  go_simp
                (try simp only [List.getElem_toArray, List.getElem_cons_succ, List.getElem_cons_zero, Act.put, List.setIfInBounds_toArray, List.set_cons_zero, List.set_cons_succ])
                refine wpAnyE_take (i := 3) (oi := _) (v := .int .i64 ac) rfl (by kernel_rfl) (by kernel_rfl) (by kernel_rfl) (by kernel_rfl) (fun _ _ _ h => h) (Or.inl ⟨by rfl, ?_⟩) (Below.refl _ _) ?_
                · intro w' hSw
                  have s1 := (kA8.keep hSw).cell 1
                  (try simp at s1)
                  (try simp only [List.getElem_toArray, List.getElem_cons_succ, List.getElem_cons_zero])
                  go_simp
                (try simp only [List.getElem_toArray, List.getElem_cons_succ, List.getElem_cons_zero, Act.put, List.setIfInBounds_toArray, List.set_cons_zero, List.set_cons_succ])
                refine wpAnyE_take (i := 4) (oi := _) (v := .agg (lyC l)) rfl (by kernel_rfl) (by kernel_rfl) (by kernel_rfl) (by kernel_rfl) (fun _ _ _ h => h) (Or.inl ⟨by rfl, ?_⟩) (Below.refl _ _) ?_
                · intro w' hSw
                  (try simp only [List.getElem_toArray, List.getElem_cons_succ, List.getElem_cons_zero])
                  simp only [execOp, Instr.loadAt, Instr.sureAddr, Sem.run_bind, Sem.run_pure]
                  rw [show (Act.eval _ (Operand.tmp 4)) = Value.pointer (some ⟨bL, 0, none⟩) from rfl]
                  simp only [Sem.run_pure, Result.andThen_ok, run_loadVar_row w' bL 31 31 (lyC l) (0, 0) _ (kL8.keep hSw) Try.underlying31 rfl (by kernel_rfl)]
                (try simp only [List.getElem_toArray, List.getElem_cons_succ, List.getElem_cons_zero, Act.put, List.setIfInBounds_toArray, List.set_cons_zero, List.set_cons_succ])
                refine wpAnyE_take (i := 5) (oi := _) (v := .int .i64 j1) rfl (by kernel_rfl) (by kernel_rfl) (by kernel_rfl) (by kernel_rfl) (fun _ _ _ h => h) (Or.inl ⟨by rfl, ?_⟩) (Below.refl _ _) ?_
                · intro w' hSw
                  (try simp only [List.getElem_toArray, List.getElem_cons_succ, List.getElem_cons_zero])
                  go_simp
                (try simp only [List.getElem_toArray, List.getElem_cons_succ, List.getElem_cons_zero, Act.put, List.setIfInBounds_toArray, List.set_cons_zero, List.set_cons_succ])
                refine wpAnyE_one (i := 6) (o := _) (by kernel_rfl) rfl (fun K hK => ?_)
                (try simp only [List.getElem_toArray, List.getElem_cons_succ, List.getElem_cons_zero])
                go_simp
                (with_reducible refine (node_any l j1 6 _ HFL.out (by omega)).mono ?_)
                rintro e w11 ⟨rfl, hb9⟩
                obtain ⟨cx, hcx⟩ : ∃ y, nodeAt l j1 6 = y := ⟨_, rfl⟩
                rw [hcx]
                have hq : (ac == cx) = false := by
                  have h1 := HMM.out.1
                  have h2 := HMM.out.2.1
                  have h4 := HJ1.out
                  rw [← hcx, nodeAt_of l (by omega) (by omega), h2]
                  (simp; omega)
                clear hcx
                refine hK.out _ _ (fun _ => hb9) ?_
                clear hK K
                (try simp only [List.getElem_toArray, List.getElem_cons_succ, List.getElem_cons_zero, Act.put, List.setIfInBounds_toArray, List.set_cons_zero, List.set_cons_succ])
                refine wpAnyE_take (i := 7) (oi := _) (v := .bool false) rfl (by kernel_rfl) (by kernel_rfl) (by kernel_rfl) (by kernel_rfl) (fun _ _ _ h => h) (Or.inl ⟨by rfl, ?_⟩) hb9 ?_
                · intro w' hSw
                  (try simp only [List.getElem_toArray, List.getElem_cons_succ, List.getElem_cons_zero])
                  go_simp
                (try simp only [List.getElem_toArray, List.getElem_cons_succ, List.getElem_cons_zero, Act.put, List.setIfInBounds_toArray, List.set_cons_zero, List.set_cons_succ])
                refine wpAnyE_take (i := 8) (oi := _) (v := .bool false) rfl (by kernel_rfl) (by kernel_rfl) (by kernel_rfl) (by kernel_rfl) (fun _ _ _ h => h) (Or.inl ⟨by rfl, ?_⟩) hb9 ?_
                · intro w' hSw
                  (try simp only [List.getElem_toArray, List.getElem_cons_succ, List.getElem_cons_zero])
                  go_simp
                (try simp only [List.getElem_toArray, List.getElem_cons_succ, List.getElem_cons_zero, Act.put, List.setIfInBounds_toArray, List.set_cons_zero, List.set_cons_succ])
                refine wpAnyE_take (i := 9) (oi := _) (v := .bool false) rfl (by kernel_rfl) (by kernel_rfl) (by kernel_rfl) (by kernel_rfl) (fun _ _ _ h => h) (Or.inl ⟨by rfl, ?_⟩) hb9 ?_
                · intro w' hSw
                  (try simp only [List.getElem_toArray, List.getElem_cons_succ, List.getElem_cons_zero])
                  go_simp
                (try simp only [List.getElem_toArray, List.getElem_cons_succ, List.getElem_cons_zero, Act.put, List.setIfInBounds_toArray, List.set_cons_zero, List.set_cons_succ])
                refine wpAnyE_done (by kernel_rfl) ?_ _
                have kL7 := kL8.keep hb9
                have kA7 := kA8.keep hb9
                replace hbj := below_tr hbj hb9
                clear kL8 kA8 hb9 hq
                generalize w11 = wy at *
                go_wp2_with fail
                refine ⟨⟨j + 1, by omega, by have := HJ1.out; go_num, (by simp <;> omega), (by simp <;> omega), hbj⟩, by have := HJ1.out; simp [intOf]; omega⟩
          · have i1 : decide (((j + 1 : Nat) : Int) ≤ (M : Int)) = false := by simp; omega
            have hjM2 : j = M := by omega
            subst hjM2
            have e0 : decide (a0 ≤ j) = true := by simp; omega
            rw [e0]
            have qS0 := kA7.cell 0
            have e1' := cell_keep hbj e1
            simp at qS0
            cases lk with
            | true =>
              rcases Classical.em (ak = 2) with h2 | h2
              · have h3' := HMM.out.2.2.1 rfl h2
                subst h2 h3'
                go_wp2_with fail
                exact ⟨⟨k + 1, by omega, by go_num, below_tr hb6 hbj⟩, by simp [intOf]; omega⟩
              · have p1 : (ak == 2) = false := by simp [h2]
                have p2 : decide (ak = 2) = false := by simp [h2]
                clear h2
                go_wp2_with fail
                exact ⟨⟨k + 1, by omega, by go_num, below_tr hb6 hbj⟩, by simp [intOf]; omega⟩
            | false =>
              obtain ⟨h2, h3'⟩ := HMM.out.2.2.2 rfl
              subst h2 h3'
              go_wp2_with fail
              exact ⟨⟨k + 1, by omega, by go_num, below_tr hb6 hbj⟩, by simp [intOf]; omega⟩
    · have g1 : decide ((k : Int) < N) = false := by simp; omega
      go_wp2
      go_ret
      exact ⟨rfl, below_tr hbl hb⟩
end Go.Proofs.Ytbcgjolcfagboaa
