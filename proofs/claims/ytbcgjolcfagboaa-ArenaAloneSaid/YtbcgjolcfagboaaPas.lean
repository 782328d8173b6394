/- ArenaPassed. Printed by laws_gen.py. -/
import Derived.Test.YtbcgjolcfagboaaTch
namespace Go.Proofs.Ytbcgjolcfagboaa
open Go.RowKit
set_option linter.unusedVariables false
attribute [local go_sem ↓] Go.wp_at_zero Go.wp_at_succ

def lookC (n : Nat) (g : GhA) : Array Value := ((List.range n).map fun j => Value.int .i64 (g.look j)).toArray
theorem lookC_get (n : Nat) (g : GhA) {j : Nat} (h : j < n) : (lookC n g)[j]? = some (.int .i64 (g.look j)) := by simp [lookC, h]
theorem lookC_set (n : Nat) (g g' : GhA) (j : Nat) (v : Int) (h : j < n) (h1 : g'.look j = v) (h2 : ∀ i, i ≠ j → g'.look i = g.look i) : (lookC n g).setIfInBounds j (.int .i64 v) = lookC n g' := by
  apply Array.ext
  · simp [lookC]
  · intro i a b
    simp [lookC]
    by_cases e : j = i
    · subst e; simp [h1]
    · simp [e, h2 i (fun q => e q.symm)]
theorem lookC_same (n : Nat) (g g' : GhA) (h : ∀ i, g'.look i = g.look i) : lookC n g = lookC n g' := by simp [lookC, h]
theorem bk_look {w : World} {g n : Nat} {G G' : GhA} (k : Bk w g 3 (lookC n G)) (h : ∀ i, G'.look i = G.look i) : Bk w g 3 (lookC n G') := lookC_same n G G' h ▸ k
theorem lookC_start (n : Nat) : (ints (List.replicate n 0)).toArray = lookC n gh0 := by
  apply Array.ext
  · simp [lookC, ints]
  · intro i a b
    simp [lookC, ints, gh0]
theorem gRun_take (l : Ly) (g : GhA) (steps : List StepA) {k : Nat} {x : StepA} (hx : steps[k]? = some x) : gRun l g (steps.take (k + 1)) = ghA l (gRun l g (steps.take k)) x := by
  rw [List.take_add_one, hx, gRun_append]
  rfl
def PsRel (w5 : World) (gK n N : Nat) (l : Ly) (steps : List StepA) (v7 v9 : Value) (wr : World) : Prop :=
  ∃ k : Nat, k ≤ N ∧ v9 = .int .i64 k ∧ v7 = .int .i64 ((gRun l gh0 (steps.take k)).went : Nat) ∧ (gRun l gh0 (steps.take k)).went ≤ k ∧ Bk wr gK 3 (lookC n (gRun l gh0 (steps.take k))) ∧ Below w5.heap.size w5 wr
def psT : Nat → Nat | 6 => 91 | 7 => 92 | _ => 11
def psP : Nat → List Nat | 7 => [6] | _ => []
def psR (fw : Int) (B : Nat) (i : Nat) (val : Nat → Option Value) (v : Value) (w : World) : Prop :=
  match i with
  | 6 => v = .int .i64 fw
  | 7 => v = refV (fw % 65536) (fw / 65536 % 2 == 1) (fw / 131072 % 268435456)
  | 8 => ∃ g, v = .pointer (some ⟨g, 0, none⟩) ∧ B ≤ g ∧ Bk w g 63 #[.int .i64 0, .bool false, .int .i64 0]
  | _ => True
theorem psR_keep (fw : Int) (B : Nat) (i : Nat) (val val' : Nat → Option Value) (v : Value) (w1 w2 : World) (hv : ∀ j u, val j = some u → val' j = some u) (hb : Below w1.heap.size w1 w2) (h : psR fw B i val v w1) : psR fw B i val' v w2 := by
  unfold psR at *
  split
  · exact h
  · exact h
  · obtain ⟨g, h1, h2, h3⟩ := h; exact ⟨g, h1, h2, h3.keep hb⟩
  · trivial
set_option maxRecDepth 1000000 in
set_option maxHeartbeats 16000000 in
theorem passed_any (t : Int) (W : Option Addr) (n c : Nat) (T : Option Addr) (m d : Nat) (want : List (List Nat)) (turns : List Nat) (w : World) (t0 : 0 ≤ t) (t1 : t < 256) (hn : want.length = n) (hm : turns.length = m) (hW : SlU8s w w.heap.size W want) (hT : SlU8 w w.heap.size T turns) :
    Calls Try.prog 6 #[.agg (playC t W n c T m d)] w (BoolBelow true w) := by
  have HW := Lib.hid hW
  have HT := Lib.hid hT
  have HN := Lib.hid hn
  have HM := Lib.hid hm
  clear hW hT hn hm
  have k0 := Bk.made w 25 (playC t W n c T m d)
  have hbl := below_al (Below.refl w.heap.size w) (.cells (playC t W n c T m d) 25)
  go_enter Try.func6, Try.ntmps6
  go_wp2_with fail
  (with_reducible refine (awake_any _).mono ?_)
  rintro e w1 ⟨rfl, hb⟩
  replace k0 := k0.keep hb
  replace hbl := below_tr hbl hb
  clear hb
  have q0 := k0.cell 0
  have q1 := k0.cell 1
  have q2 := k0.cell 2
  simp at q0 q1 q2
  go_wp2_with fail
  (with_reducible refine (few_any t W n c T m d want _ HN.out ((HW.out.below hbl).more hbl.size)).mono ?_)
  rintro e w2 ⟨b, rfl, hb, hbt⟩
  replace k0 := k0.keep hb
  replace hbl := below_tr hbl hb
  clear hb q0 q1 q2
  cases b with
  | false =>
    go_wp2
    go_ret
    exact ⟨rfl, hbl⟩
  | true =>
  obtain ⟨h1, h3, h200, hlen⟩ := hbt rfl
  have HLEN := Lib.hid hlen
  clear hbt hlen
  have q0 := k0.cell 0
  have q1 := k0.cell 1
  have q2 := k0.cell 2
  simp at q0 q1 q2
  go_wp2_with fail
  (with_reducible refine (where_any t W n c T m d _ t0 t1 h1 (by omega)).mono ?_)
  rintro e w3 ⟨rfl, hb⟩
  replace k0 := k0.keep hb
  replace hbl := below_tr hbl hb
  clear hb q0 q1 q2
  have HOK := Lib.hid (layOk_of (layB_play n t h1 h3))
  have HFL : Hid (LyFull (playL n t)) := Lib.hid (lyFull_of _ (playCf_can n t h1 (by omega)))
  obtain ⟨l, hl⟩ : ∃ l, playL n t = l := ⟨_, rfl⟩
  rw [hl] at HOK HFL
  rw [hl]
  have HL := Lib.hid hl
  clear hl
  go_upto_region 5 with (refine wpList_store_new rfl 31 (.tmp 4) (.tmp 18) rfl rfl w3.heap.size _ _ (lyC l) rfl rfl rfl rfl (by kernel_rfl) rfl (by simp [Value.oneCell']) ?_)
  have kL := Bk.made w3 31 (lyC l)
  replace k0 := k0.alloc (.cells (lyC l) 31)
  replace hbl := below_al hbl (.cells (lyC l) 31)
  generalize w3.alloc (.cells (lyC l) 31) = w4 at *
  generalize w3.heap.size = bL at *
  have q0 := k0.cell 0
  have q1 := k0.cell 1
  have q2 := k0.cell 2
  simp at q0 q1 q2
  go_wp2_with fail
  (with_reducible refine (played_any t W n c T m d want turns _ t0 t1 h1 h3 HN.out HM.out h200 ((HW.out.below hbl).more hbl.size) ((HT.out.below hbl).more hbl.size)).mono ?_)
  rintro e w5 ⟨A, cap, gt, go, gl, gn, gh, rfl, hst, hT, hb⟩
  rw [HL.out] at *
  obtain ⟨hrun, hfin⟩ := end_ok HOK.out n want turns h1 h3 (by rw [HM.out]; exact h200) HLEN.out
  have HSL := Lib.hid (StSl.of_own hst rfl)
  replace k0 := k0.keep hb
  replace kL := kL.keep hb
  replace hbl := below_tr hbl hb
  clear hb q0 q1 q2 hst
  generalize endA l n want turns = R at *
  have HRUN := Lib.hid hrun
  have HFIN := Lib.hid hfin
  have HTR := Lib.hid hT
  obtain ⟨steps, hsteps⟩ : ∃ x, R.2 = x := ⟨_, rfl⟩
  rw [hsteps] at HSL ⊢
  obtain ⟨N, hN⟩ : ∃ x, steps.length = x := ⟨_, rfl⟩
  rw [hN]
  have HS := Lib.hid hsteps
  have HNN := Lib.hid hN
  have hN4 : N ≤ 400 := by
    have := hrun.len
    rw [hsteps, hN, HM.out] at this
    omega
  have HSTEP : Hid (∀ (j : Nat) (st : StepA), steps[j]? = some st → StepOk l n (gRun l gh0 (steps.take j)) st) := Lib.hid (by rw [← hsteps]; exact hrun.steps)
  have hly := HOK.out.lay
  have n0 := hly.nn
  have n1 := hly.fr
  have n2 := hly.er
  have n3 := hly.nd
  clear hsteps hN hrun hfin hT hly
  have q1 := k0.cell 1
  simp at q1
  go_wp2_with (refine wpList_make_row rfl _ _ rfl n _ rfl rfl (run_make_ints _ n (by omega)) ?_)
  clear q1
  have kK := Bk.made w5 3 (ints (List.replicate n 0)).toArray
  have hbK := below_al (Below.refl w5.heap.size w5) (.cells (ints (List.replicate n 0)).toArray 3)
  rw [lookC_start] at *
  have HK := Lib.hid (And.intro kK hbK)
  clear kK hbK
  go_loopw [7, 9] (fun v7 v9 wr => PsRel w5 w5.heap.size n N l steps v7 v9 wr) (fun _ v9 _ => N - (intOf v9).toNat)
  case atStart => exact ⟨0, Nat.zero_le _, rfl, rfl, Nat.zero_le _, HK.out.1, HK.out.2⟩
  case round =>
    clear HK
    obtain ⟨k, hk, rfl, rfl, hwl, kKr, hb⟩ := hrel
    have kLr := kL.keep hb
    have qL := kLr.cell 12
    simp at qL
    obtain ⟨G, hG⟩ : ∃ G, gRun l gh0 (steps.take k) = G := ⟨_, rfl⟩
    rw [hG] at hwl kKr ⊢
    by_cases hlt : k < N
    · have g1 : (k : Int) < N := by omega
      obtain ⟨x, hx⟩ : ∃ x, steps[k]? = some x := ⟨_, List.getElem?_eq_getElem (by rw [HNN.out]; exact hlt)⟩
      obtain ⟨bS, rfl, hbS, hcS⟩ := (HSL.out.below hb) (by rw [HNN.out]; omega)
      have hok := HSTEP.out k x hx
      rw [hG] at hok
      have hnx : gRun l gh0 (steps.take (k + 1)) = ghA l G x := by rw [gRun_take l gh0 steps hx, hG]
      have HNX := Lib.hid hnx
      have cl := hcS k x hx
      have hwho := hok.who
      have hps := hok.pass
      have HCL := Lib.hid (fun j v (h : (stepC x).toList[j]? = some v) => by
        have hj : j < 17 := by have := (List.getElem?_eq_some_iff.1 h).1; simpa using this
        have := cl j hj
        rw [show wr.cell? ⟨bS, k * 17 + j, none⟩ = some v from by rw [this]; simpa using h] : ∀ (j : Nat) (v : Value), (stepC x).toList[j]? = some v → wr.cell? ⟨bS, k * 17 + j, none⟩ = some v)
      clear cl hcS hx hok hnx hG
      obtain ⟨who, ⟨ok, oj, oa, ob⟩, ⟨ak, ac, ao, an⟩, ⟨rv, rok⟩, done, val, is, err, point⟩ := x
      dsimp only at hwho hps
      have HPS := Lib.hid hps
      clear hps qL
      go_upto_region 12 with (first
        | (refine wpList_load_mid rfl 49 (.tmp 36) rfl bS (k * 17) rfl [.int .i64 (who : Nat), .int .i64 ok, .int .i64 oj, .int .i64 oa, .int .i64 ob, .int .i64 ak, .int .i64 ac, .int .i64 ao, .int .i64 an, .int .i64 rv, .bool rok, .bool done, .int .i64 val, .bool is, .int .i64 err, .int .i64 point, .slice none 0 0] _ HCL.out Try.underlying49 rfl (by kernel_rfl) ?_)
        | (refine wpList_store_new rfl 49 (.tmp 10) (.tmp 37) rfl rfl wr.heap.size _ _ #[.int .i64 (who : Nat), .int .i64 ok, .int .i64 oj, .int .i64 oa, .int .i64 ob, .int .i64 ak, .int .i64 ac, .int .i64 ao, .int .i64 an, .int .i64 rv, .bool rok, .bool done, .int .i64 val, .bool is, .int .i64 err, .int .i64 point, .slice none 0 0] rfl rfl rfl rfl (by kernel_rfl) rfl (by simp [Value.oneCell']) ?_))
      have kX := Bk.made wr 49 #[.int .i64 (who : Nat), .int .i64 ok, .int .i64 oj, .int .i64 oa, .int .i64 ob, .int .i64 ak, .int .i64 ac, .int .i64 ao, .int .i64 an, .int .i64 rv, .bool rok, .bool done, .int .i64 val, .bool is, .int .i64 err, .int .i64 point, .slice none 0 0]
      have hba := below_al (Below.refl wr.heap.size wr) (.cells #[.int .i64 (who : Nat), .int .i64 ok, .int .i64 oj, .int .i64 oa, .int .i64 ob, .int .i64 ak, .int .i64 ac, .int .i64 ao, .int .i64 an, .int .i64 rv, .bool rok, .bool done, .int .i64 val, .bool is, .int .i64 err, .int .i64 point, .slice none 0 0] 49)
      have kK6 := kKr.keep hba
      have kL6 := kLr.keep hba
      have hb6 := below_tr hb hba
      clear kKr kLr hb hba HCL
      generalize wr.alloc (.cells #[.int .i64 (who : Nat), .int .i64 ok, .int .i64 oj, .int .i64 oa, .int .i64 ob, .int .i64 ak, .int .i64 ac, .int .i64 ao, .int .i64 an, .int .i64 rv, .bool rok, .bool done, .int .i64 val, .bool is, .int .i64 err, .int .i64 point, .slice none 0 0] 49) = w6 at *
      generalize wr.heap.size = gX at *
      have x0 := kX.cell 0
      have x5 := kX.cell 5
      have x6 := kX.cell 6
      have x10 := kX.cell 10
      have qL := kL6.cell 12
      have qK := (kK6.cell who).trans (lookC_get n G hwho)
      have fK := kK6.free who
      have lK := kK6.lt
      simp at x0 x5 x6 x10 qL
      have g2 : decide ((who : Int) < 0) = false := by simp
      have g3 : decide ((n : Int) ≤ who) = false := by simp; omega
      have g4 : (who : Int) < n := by omega
      rcases Classical.em (ak = 3) with h3 | h3
      · subst h3
        have hp := HPS.out rfl
        cases rok with
        | true =>
          have p1 : (G.look who == (G.went : Int)) = true := by simp only [beq_iff_eq]; exact of_decide_eq_true hp.symm
          have p2 : decide (G.look who = (G.went : Int)) = true := hp.symm
          have HP := Lib.hid hp
          clear hp
          go_upto_region 17 with fail
          refine wp_region_E (S := fun w' => Below w6.drew.heap.size w6.drew w') (E := fun _ => false) (by kernel_rfl) ?_
          replace kX := kX.drew
          replace kK6 := kK6.drew
          replace hb6 := hb6.drew
          replace qK : w6.drew.cell? ⟨w5.heap.size, who, none⟩ = some (.int .i64 (G.look who)) := qK
          clear x0 x5 x6 x10 qL fK lK kL6
          generalize w6.drew = w7 at *
          refine wpAnyE_take (i := 0) (oi := _) (v := .pointer (some ⟨gX, 9, none⟩)) rfl (by kernel_rfl) (by kernel_rfl) (by kernel_rfl) (by kernel_rfl) (fun _ _ _ h => h) (Or.inl ⟨by rfl, ?_⟩) (Below.refl _ _) ?_
          · intro w' hSw
            (try simp only [List.getElem_toArray, List.getElem_cons_zero])
            go_simp
          (try simp only [List.getElem_toArray, List.getElem_cons_zero, Act.put, List.setIfInBounds_toArray, List.set_cons_zero, List.set_cons_succ])
          refine wpAnyE_take (i := 1) (oi := _) (v := .pointer (some ⟨gX, 10, none⟩)) rfl (by kernel_rfl) (by kernel_rfl) (by kernel_rfl) (by kernel_rfl) (fun _ _ _ h => h) (Or.inl ⟨by rfl, ?_⟩) (Below.refl _ _) ?_
          · intro w' hSw
            (try simp only [List.getElem_toArray, List.getElem_cons_succ, List.getElem_cons_zero])
            go_simp
          (try simp only [List.getElem_toArray, List.getElem_cons_succ, List.getElem_cons_zero, Act.put, List.setIfInBounds_toArray, List.set_cons_zero, List.set_cons_succ])
          refine wpAnyE_take (i := 2) (oi := _) (v := .bool true) rfl (by kernel_rfl) (by kernel_rfl) (by kernel_rfl) (by kernel_rfl) (fun _ _ _ h => h) (Or.inl ⟨by rfl, ?_⟩) (Below.refl _ _) ?_
          · intro w' hSw
            have s1 := (kX.keep hSw).cell 10
            (try simp at s1)
            (try simp only [List.getElem_toArray, List.getElem_cons_succ, List.getElem_cons_zero])
            go_simp
          (try simp only [List.getElem_toArray, List.getElem_cons_succ, List.getElem_cons_zero, Act.put, List.setIfInBounds_toArray, List.set_cons_zero, List.set_cons_succ])
          refine wpAnyE_take (i := 3) (oi := _) (v := .slice (some ⟨w5.heap.size, 0, none⟩) n n) rfl (by kernel_rfl) (by kernel_rfl) (by kernel_rfl) (by kernel_rfl) (fun _ _ _ h => h) (Or.inl ⟨by rfl, ?_⟩) (Below.refl _ _) ?_
          · intro w' hSw
            (try simp only [List.getElem_toArray, List.getElem_cons_succ, List.getElem_cons_zero])
            go_simp
          (try simp only [List.getElem_toArray, List.getElem_cons_succ, List.getElem_cons_zero, Act.put, List.setIfInBounds_toArray, List.set_cons_zero, List.set_cons_succ])
          refine wpAnyE_take (i := 4) (oi := _) (v := .pointer (some ⟨gX, 0, none⟩)) rfl (by kernel_rfl) (by kernel_rfl) (by kernel_rfl) (by kernel_rfl) (fun _ _ _ h => h) (Or.inl ⟨by rfl, ?_⟩) (Below.refl _ _) ?_
          · intro w' hSw
            (try simp only [List.getElem_toArray, List.getElem_cons_succ, List.getElem_cons_zero])
            go_simp
          (try simp only [List.getElem_toArray, List.getElem_cons_succ, List.getElem_cons_zero, Act.put, List.setIfInBounds_toArray, List.set_cons_zero, List.set_cons_succ])
          refine wpAnyE_take (i := 5) (oi := _) (v := .int .i64 (who : Nat)) rfl (by kernel_rfl) (by kernel_rfl) (by kernel_rfl) (by kernel_rfl) (fun _ _ _ h => h) (Or.inl ⟨by rfl, ?_⟩) (Below.refl _ _) ?_
          · intro w' hSw
            have s1 := (kX.keep hSw).cell 0
            (try simp at s1)
            (try simp only [List.getElem_toArray, List.getElem_cons_succ, List.getElem_cons_zero])
            go_simp
          (try simp only [List.getElem_toArray, List.getElem_cons_succ, List.getElem_cons_zero, Act.put, List.setIfInBounds_toArray, List.set_cons_zero, List.set_cons_succ])
          refine wpAnyE_take (i := 6) (oi := _) (v := .pointer (some ⟨w5.heap.size, who, none⟩)) rfl (by kernel_rfl) (by kernel_rfl) (by kernel_rfl) (by kernel_rfl) (fun _ _ _ h => h) (Or.inl ⟨by rfl, ?_⟩) (Below.refl _ _) ?_
          · intro w' hSw
            (try simp only [List.getElem_toArray, List.getElem_cons_succ, List.getElem_cons_zero])
            go_simp
          (try simp only [List.getElem_toArray, List.getElem_cons_succ, List.getElem_cons_zero, Act.put, List.setIfInBounds_toArray, List.set_cons_zero, List.set_cons_succ])
          refine wpAnyE_take (i := 7) (oi := _) (v := .int .i64 (G.look who)) rfl (by kernel_rfl) (by kernel_rfl) (by kernel_rfl) (by kernel_rfl) (fun _ _ _ h => h) (Or.inl ⟨by rfl, ?_⟩) (Below.refl _ _) ?_
          · intro w' hSw
            have s1 := cell_keep hSw qK
            (try simp at s1)
            (try simp only [List.getElem_toArray, List.getElem_cons_succ, List.getElem_cons_zero])
            go_simp
          (try simp only [List.getElem_toArray, List.getElem_cons_succ, List.getElem_cons_zero, Act.put, List.setIfInBounds_toArray, List.set_cons_zero, List.set_cons_succ])
          refine wpAnyE_take (i := 8) (oi := _) (v := .int .i64 (G.went : Nat)) rfl (by kernel_rfl) (by kernel_rfl) (by kernel_rfl) (by kernel_rfl) (fun _ _ _ h => h) (Or.inl ⟨by rfl, ?_⟩) (Below.refl _ _) ?_
          · intro w' hSw
            (try simp only [List.getElem_toArray, List.getElem_cons_succ, List.getElem_cons_zero])
            go_simp
          (try simp only [List.getElem_toArray, List.getElem_cons_succ, List.getElem_cons_zero, Act.put, List.setIfInBounds_toArray, List.set_cons_zero, List.set_cons_succ])
          refine wpAnyE_take (i := 9) (oi := _) (v := .bool true) rfl (by kernel_rfl) (by kernel_rfl) (by kernel_rfl) (by kernel_rfl) (fun _ _ _ h => h) (Or.inl ⟨by rfl, ?_⟩) (Below.refl _ _) ?_
          · intro w' hSw
            (try simp only [List.getElem_toArray, List.getElem_cons_succ, List.getElem_cons_zero])
            go_simp
          (try simp only [List.getElem_toArray, List.getElem_cons_succ, List.getElem_cons_zero, Act.put, List.setIfInBounds_toArray, List.set_cons_zero, List.set_cons_succ])
          refine wpAnyE_take (i := 10) (oi := _) (v := .bool false) rfl (by kernel_rfl) (by kernel_rfl) (by kernel_rfl) (by kernel_rfl) (fun _ _ _ h => h) (Or.inl ⟨by rfl, ?_⟩) (Below.refl _ _) ?_
          · intro w' hSw
            (try simp only [List.getElem_toArray, List.getElem_cons_succ, List.getElem_cons_zero])
            go_simp
          (try simp only [List.getElem_toArray, List.getElem_cons_succ, List.getElem_cons_zero, Act.put, List.setIfInBounds_toArray, List.set_cons_zero, List.set_cons_succ])
          refine wpAnyE_done (by kernel_rfl) ?_ _
          have x10 := kX.cell 10
          simp at x10
          go_wp2_with fail
          exact ⟨⟨k + 1, by omega, by go_num, by rw [HNX.out]; rfl, by rw [HNX.out]; exact Nat.succ_le_succ hwl, by rw [HNX.out]; exact bk_look kK6 (fun i => by simp [ghA]), hb6⟩, by simp [intOf]; omega⟩
        | false =>
          have p1 : (G.look who == (G.went : Int)) = false := by simp only [beq_eq_false_iff_ne]; exact of_decide_eq_false hp.symm
          have p2 : decide (G.look who = (G.went : Int)) = false := hp.symm
          have HP := Lib.hid hp
          clear hp
          go_upto_region 17 with fail
          refine wp_region_E (S := fun w' => Below w6.drew.heap.size w6.drew w') (E := fun _ => false) (by kernel_rfl) ?_
          replace kX := kX.drew
          replace kK6 := kK6.drew
          replace hb6 := hb6.drew
          replace qK : w6.drew.cell? ⟨w5.heap.size, who, none⟩ = some (.int .i64 (G.look who)) := qK
          clear x0 x5 x6 x10 qL fK lK kL6
          generalize w6.drew = w7 at *
          refine wpAnyE_take (i := 0) (oi := _) (v := .pointer (some ⟨gX, 9, none⟩)) rfl (by kernel_rfl) (by kernel_rfl) (by kernel_rfl) (by kernel_rfl) (fun _ _ _ h => h) (Or.inl ⟨by rfl, ?_⟩) (Below.refl _ _) ?_
          · intro w' hSw
            (try simp only [List.getElem_toArray, List.getElem_cons_zero])
            go_simp
          (try simp only [List.getElem_toArray, List.getElem_cons_zero, Act.put, List.setIfInBounds_toArray, List.set_cons_zero, List.set_cons_succ])
          refine wpAnyE_take (i := 1) (oi := _) (v := .pointer (some ⟨gX, 10, none⟩)) rfl (by kernel_rfl) (by kernel_rfl) (by kernel_rfl) (by kernel_rfl) (fun _ _ _ h => h) (Or.inl ⟨by rfl, ?_⟩) (Below.refl _ _) ?_
          · intro w' hSw
            (try simp only [List.getElem_toArray, List.getElem_cons_succ, List.getElem_cons_zero])
            go_simp
          (try simp only [List.getElem_toArray, List.getElem_cons_succ, List.getElem_cons_zero, Act.put, List.setIfInBounds_toArray, List.set_cons_zero, List.set_cons_succ])
          refine wpAnyE_take (i := 2) (oi := _) (v := .bool false) rfl (by kernel_rfl) (by kernel_rfl) (by kernel_rfl) (by kernel_rfl) (fun _ _ _ h => h) (Or.inl ⟨by rfl, ?_⟩) (Below.refl _ _) ?_
          · intro w' hSw
            have s1 := (kX.keep hSw).cell 10
            (try simp at s1)
            (try simp only [List.getElem_toArray, List.getElem_cons_succ, List.getElem_cons_zero])
            go_simp
          (try simp only [List.getElem_toArray, List.getElem_cons_succ, List.getElem_cons_zero, Act.put, List.setIfInBounds_toArray, List.set_cons_zero, List.set_cons_succ])
          refine wpAnyE_take (i := 3) (oi := _) (v := .slice (some ⟨w5.heap.size, 0, none⟩) n n) rfl (by kernel_rfl) (by kernel_rfl) (by kernel_rfl) (by kernel_rfl) (fun _ _ _ h => h) (Or.inl ⟨by rfl, ?_⟩) (Below.refl _ _) ?_
          · intro w' hSw
            (try simp only [List.getElem_toArray, List.getElem_cons_succ, List.getElem_cons_zero])
            go_simp
          (try simp only [List.getElem_toArray, List.getElem_cons_succ, List.getElem_cons_zero, Act.put, List.setIfInBounds_toArray, List.set_cons_zero, List.set_cons_succ])
          refine wpAnyE_take (i := 4) (oi := _) (v := .pointer (some ⟨gX, 0, none⟩)) rfl (by kernel_rfl) (by kernel_rfl) (by kernel_rfl) (by kernel_rfl) (fun _ _ _ h => h) (Or.inl ⟨by rfl, ?_⟩) (Below.refl _ _) ?_
          · intro w' hSw
            (try simp only [List.getElem_toArray, List.getElem_cons_succ, List.getElem_cons_zero])
            go_simp
          (try simp only [List.getElem_toArray, List.getElem_cons_succ, List.getElem_cons_zero, Act.put, List.setIfInBounds_toArray, List.set_cons_zero, List.set_cons_succ])
          refine wpAnyE_take (i := 5) (oi := _) (v := .int .i64 (who : Nat)) rfl (by kernel_rfl) (by kernel_rfl) (by kernel_rfl) (by kernel_rfl) (fun _ _ _ h => h) (Or.inl ⟨by rfl, ?_⟩) (Below.refl _ _) ?_
          · intro w' hSw
            have s1 := (kX.keep hSw).cell 0
            (try simp at s1)
            (try simp only [List.getElem_toArray, List.getElem_cons_succ, List.getElem_cons_zero])
            go_simp
          (try simp only [List.getElem_toArray, List.getElem_cons_succ, List.getElem_cons_zero, Act.put, List.setIfInBounds_toArray, List.set_cons_zero, List.set_cons_succ])
          refine wpAnyE_take (i := 6) (oi := _) (v := .pointer (some ⟨w5.heap.size, who, none⟩)) rfl (by kernel_rfl) (by kernel_rfl) (by kernel_rfl) (by kernel_rfl) (fun _ _ _ h => h) (Or.inl ⟨by rfl, ?_⟩) (Below.refl _ _) ?_
          · intro w' hSw
            (try simp only [List.getElem_toArray, List.getElem_cons_succ, List.getElem_cons_zero])
            go_simp
          (try simp only [List.getElem_toArray, List.getElem_cons_succ, List.getElem_cons_zero, Act.put, List.setIfInBounds_toArray, List.set_cons_zero, List.set_cons_succ])
          refine wpAnyE_take (i := 7) (oi := _) (v := .int .i64 (G.look who)) rfl (by kernel_rfl) (by kernel_rfl) (by kernel_rfl) (by kernel_rfl) (fun _ _ _ h => h) (Or.inl ⟨by rfl, ?_⟩) (Below.refl _ _) ?_
          · intro w' hSw
            have s1 := cell_keep hSw qK
            (try simp at s1)
            (try simp only [List.getElem_toArray, List.getElem_cons_succ, List.getElem_cons_zero])
            go_simp
          (try simp only [List.getElem_toArray, List.getElem_cons_succ, List.getElem_cons_zero, Act.put, List.setIfInBounds_toArray, List.set_cons_zero, List.set_cons_succ])
          refine wpAnyE_take (i := 8) (oi := _) (v := .int .i64 (G.went : Nat)) rfl (by kernel_rfl) (by kernel_rfl) (by kernel_rfl) (by kernel_rfl) (fun _ _ _ h => h) (Or.inl ⟨by rfl, ?_⟩) (Below.refl _ _) ?_
          · intro w' hSw
            (try simp only [List.getElem_toArray, List.getElem_cons_succ, List.getElem_cons_zero])
            go_simp
          (try simp only [List.getElem_toArray, List.getElem_cons_succ, List.getElem_cons_zero, Act.put, List.setIfInBounds_toArray, List.set_cons_zero, List.set_cons_succ])
          refine wpAnyE_take (i := 9) (oi := _) (v := .bool false) rfl (by kernel_rfl) (by kernel_rfl) (by kernel_rfl) (by kernel_rfl) (fun _ _ _ h => h) (Or.inl ⟨by rfl, ?_⟩) (Below.refl _ _) ?_
          · intro w' hSw
            (try simp only [List.getElem_toArray, List.getElem_cons_succ, List.getElem_cons_zero])
            go_simp
          (try simp only [List.getElem_toArray, List.getElem_cons_succ, List.getElem_cons_zero, Act.put, List.setIfInBounds_toArray, List.set_cons_zero, List.set_cons_succ])
          refine wpAnyE_take (i := 10) (oi := _) (v := .bool false) rfl (by kernel_rfl) (by kernel_rfl) (by kernel_rfl) (by kernel_rfl) (fun _ _ _ h => h) (Or.inl ⟨by rfl, ?_⟩) (Below.refl _ _) ?_
          · intro w' hSw
            (try simp only [List.getElem_toArray, List.getElem_cons_succ, List.getElem_cons_zero])
            go_simp
          (try simp only [List.getElem_toArray, List.getElem_cons_succ, List.getElem_cons_zero, Act.put, List.setIfInBounds_toArray, List.set_cons_zero, List.set_cons_succ])
          refine wpAnyE_done (by kernel_rfl) ?_ _
          have x10 := kX.cell 10
          simp at x10
          go_wp2_with fail
          exact ⟨⟨k + 1, by omega, by go_num, by rw [HNX.out]; rfl, by rw [HNX.out]; exact Nat.le_succ_of_le hwl, by rw [HNX.out]; exact bk_look kK6 (fun i => by simp [ghA]), hb6⟩, by simp [intOf]; omega⟩
      · have p3 : (ak != 3) = true := by simp [h3]
        have p4 : decide (ak = 3) = false := by simp [h3]
        have H3 := Lib.hid h3
        clear h3
        rcases Classical.em (ak = 1 ∧ ac = l.free) with ⟨h1', h2'⟩ | h12
        · subst h1' h2'
          have hset := lookC_set n G (ghA l G ⟨who, ⟨ok, oj, oa, ob⟩, ⟨1, l.free, ao, an⟩, (rv, rok), done, val, is, err, point⟩) who G.went hwho (by simp [ghA]) (fun i hi => by simp [ghA, hi])
          have kK7 := kK6.stored who (.int .i64 (G.went : Nat))
          rw [hset] at kK7
          have hb7 := below_set hb6 (p := ⟨w5.heap.size, who, none⟩) (Nat.le_refl _) (.int .i64 (G.went : Nat))
          have hwx : w5.heap.size ≠ gX := by have := bk_ne kK6 kX (by decide); exact this
          have HK7 := Lib.hid (And.intro kK7 hb7)
          clear hset kK7 hb7
          go_wp2_with fail
          exact ⟨⟨k + 1, by omega, by go_num, by rw [HNX.out]; rfl, by rw [HNX.out]; exact Nat.le_succ_of_le hwl, by rw [HNX.out]; exact HK7.out.1, HK7.out.2⟩, by simp [intOf]; omega⟩
        · have hlk : ∀ i, (ghA l G ⟨who, ⟨ok, oj, oa, ob⟩, ⟨ak, ac, ao, an⟩, (rv, rok), done, val, is, err, point⟩).look i = G.look i := fun i => by
            simp only [ghA]
            rw [if_neg (fun q => h12 ⟨q.1, q.2.1⟩)]
          have hwt : (ghA l G ⟨who, ⟨ok, oj, oa, ob⟩, ⟨ak, ac, ao, an⟩, (rv, rok), done, val, is, err, point⟩).went = G.went := by
            simp only [ghA]
            rw [if_neg (fun q => H3.out q.1)]
          have kK7 := (lookC_same n G _ hlk) ▸ kK6
          have HK7 := Lib.hid (And.intro kK7 hwt)
          clear hlk hwt kK7
          rcases Classical.em (ak = 1) with h1' | h1'
          · subst h1'
            have p5 : (ac == l.free) = false := by simp; exact fun q => h12 ⟨rfl, q⟩
            have p6 : decide (ac = l.free) = false := by simp; exact fun q => h12 ⟨rfl, q⟩
            clear h12
            go_wp2_with fail
            exact ⟨⟨k + 1, by omega, by go_num, by rw [HNX.out, HK7.out.2], by rw [HNX.out, HK7.out.2]; exact Nat.le_succ_of_le hwl, by rw [HNX.out]; exact HK7.out.1, hb6⟩, by simp [intOf]; omega⟩
          · have p5 : (ak == 1) = false := by simp [h1']
            have p6 : decide (ak = 1) = false := by simp [h1']
            clear h12 h1'
            go_wp2_with fail
            exact ⟨⟨k + 1, by omega, by go_num, by rw [HNX.out, HK7.out.2], by rw [HNX.out, HK7.out.2]; exact Nat.le_succ_of_le hwl, by rw [HNX.out]; exact HK7.out.1, hb6⟩, by simp [intOf]; omega⟩
    · have g1 : decide ((k : Int) < N) = false := by simp; omega
      have hkN : k = steps.length := by have := HNN.out; omega
      rw [hkN, List.take_of_length_le (Nat.le_refl _)] at hG
      obtain ⟨L, hai⟩ := HRUN.out.inv
      rw [HS.out, hG] at hai
      have hTw := HTR.out.keep hb
      obtain ⟨gm, cm, a1, a2, -⟩ := hTw.tab
      have hml := hai.ml
      have hfr := hai.fr
      have hhd := hai.head HOK.out.lay
      have HA := Lib.hid (own_slInt a2 rfl)
      obtain ⟨M, hM⟩ : ∃ M, R.1.m.length = M := ⟨_, rfl⟩
      rw [hM] at a1
      have HMM := Lib.hid (And.intro hM (And.intro hml (And.intro hfr hhd)))
      clear hai hM hml hfr hhd a2 hTw hkN hG kKr
      go_upto_region 21 with fail
      refine wp_region_E (S := fun w' => Below wr.drew.heap.size wr.drew w') (E := fun i => i == 9) (by kernel_rfl) ?_
      replace a1 := a1.drew
      replace kLr := kLr.drew
      have hbb := below_tr hbl hb
      replace hbb := hbb.drew
      have HA' : Hid (SlInt wr.drew wr.drew.heap.size (some ⟨gm, 0, none⟩) R.1.m) := Lib.hid HA.out
      clear qL HA hb
      generalize wr.drew = w7 at *
      obtain ⟨fw, hfw⟩ : ∃ x, freeOf l R.1.m = x := ⟨_, rfl⟩
      have HFW := Lib.hid hfw
      clear hfw
      refine wpAnyE_take (i := 0) (oi := _) (v := ptr gt) rfl (by kernel_rfl) (by kernel_rfl) (by kernel_rfl) (by kernel_rfl) (fun _ _ _ h => h) (Or.inl ⟨by rfl, ?_⟩) (Below.refl _ _) ?_
      · intro w' hSw
        (try simp only [List.getElem_toArray, List.getElem_cons_zero])
        go_simp
      (try simp only [List.getElem_toArray, List.getElem_cons_zero, Act.put, List.setIfInBounds_toArray, List.set_cons_zero, List.set_cons_succ])
      refine wpAnyE_take (i := 1) (oi := _) (v := ptr gt) rfl (by kernel_rfl) (by kernel_rfl) (by kernel_rfl) (by kernel_rfl) (fun _ _ _ h => h) (Or.inl ⟨by rfl, ?_⟩) (Below.refl _ _) ?_
      · intro w' hSw
        (try simp only [List.getElem_toArray, List.getElem_cons_succ, List.getElem_cons_zero])
        go_simp
      (try simp only [List.getElem_toArray, List.getElem_cons_succ, List.getElem_cons_zero, Act.put, List.setIfInBounds_toArray, List.set_cons_zero, List.set_cons_succ])
      refine wpAnyE_take (i := 2) (oi := _) (v := .pointer (some ⟨gt, 0, none⟩)) rfl (by kernel_rfl) (by kernel_rfl) (by kernel_rfl) (by kernel_rfl) (fun _ _ _ h => h) (Or.inl ⟨by rfl, ?_⟩) (Below.refl _ _) ?_
      · intro w' hSw
        (try simp only [List.getElem_toArray, List.getElem_cons_succ, List.getElem_cons_zero])
        go_simp
      (try simp only [List.getElem_toArray, List.getElem_cons_succ, List.getElem_cons_zero, Act.put, List.setIfInBounds_toArray, List.set_cons_zero, List.set_cons_succ])
      refine wpAnyE_take (i := 3) (oi := _) (v := .agg #[.slice (some ⟨gm, 0, none⟩) M cm]) rfl (by kernel_rfl) (by kernel_rfl) (by kernel_rfl) (by kernel_rfl) (fun _ _ _ h => h) (Or.inl ⟨by rfl, ?_⟩) (Below.refl _ _) ?_
      · intro w' hSw
        have s1 := (a1.keep hSw).cell 0
        (try simp at s1)
        (try simp only [List.getElem_toArray, List.getElem_cons_succ, List.getElem_cons_zero])
        go_simp
      (try simp only [List.getElem_toArray, List.getElem_cons_succ, List.getElem_cons_zero, Act.put, List.setIfInBounds_toArray, List.set_cons_zero, List.set_cons_succ])
      refine wpAnyE_take (i := 4) (oi := _) (v := .pointer (some ⟨bL, 12, none⟩)) rfl (by kernel_rfl) (by kernel_rfl) (by kernel_rfl) (by kernel_rfl) (fun _ _ _ h => h) (Or.inl ⟨by rfl, ?_⟩) (Below.refl _ _) ?_
      · intro w' hSw
        (try simp only [List.getElem_toArray, List.getElem_cons_succ, List.getElem_cons_zero])
        go_simp
      (try simp only [List.getElem_toArray, List.getElem_cons_succ, List.getElem_cons_zero, Act.put, List.setIfInBounds_toArray, List.set_cons_zero, List.set_cons_succ])
      refine wpAnyE_take (i := 5) (oi := _) (v := .int .i64 l.free) rfl (by kernel_rfl) (by kernel_rfl) (by kernel_rfl) (by kernel_rfl) (fun _ _ _ h => h) (Or.inl ⟨by rfl, ?_⟩) (Below.refl _ _) ?_
      · intro w' hSw
        have s1 := (kLr.keep hSw).cell 12
        (try simp at s1)
        (try simp only [List.getElem_toArray, List.getElem_cons_succ, List.getElem_cons_zero])
        go_simp
      (try simp only [List.getElem_toArray, List.getElem_cons_succ, List.getElem_cons_zero, Act.put, List.setIfInBounds_toArray, List.set_cons_zero, List.set_cons_succ])
      refine wpAnyE_dagB (U := [6, 7, 8]) (tmp := psT) (pre := psP) (R := psR fw w7.heap.size) (by kernel_rfl) (by decide) (fun w2 h => h) (psR_keep fw w7.heap.size) (fun i hi => ?_) 1 (fun val w8 hall hb8 => ?_)
      · simp only [List.mem_cons, List.not_mem_nil, or_false] at hi
        rcases hi with rfl | rfl | rfl
        · refine ⟨_, rfl, fun val w2 K hb2 hpre hK => ?_⟩
          simp only [psP, actOf] at hK ⊢
          go_simp
          have hcl := cell_any (some ⟨gm, 0, none⟩) cm R.1.m l.free w2 ((HA'.out.below hb2).more hb2.size)
          rw [HMM.out.1] at hcl
          have hcn : cellN R.1.m l.free = fw := by
            unfold cellN
            rw [if_neg (by have := HMM.out.1; have := HMM.out.2.1; omega), ← HFW.out]
            rfl
          rw [hcn] at hcl
          refine hcl.mono ?_
          rintro e w9 ⟨rfl, hb9⟩
          exact hK _ _ rfl hb9
        · refine ⟨_, rfl, fun val w2 K hb2 hpre hK => ?_⟩
          obtain ⟨v, e, hv⟩ := hpre 6 (by simp [psP])
          obtain rfl : v = .int .i64 fw := hv
          simp only [psP, actOf, e, psT] at hK ⊢
          go_simp
          (with_reducible refine (of_any fw _).mono ?_)
          rintro e w9 ⟨rfl, hb9⟩
          exact hK _ _ rfl hb9
        · refine ⟨_, rfl, fun val w2 K hb2 hpre hK => ?_⟩
          simp only [psP, actOf] at hK ⊢
          go_simp
          exact hK _ _ ⟨_, rfl, hb2.size, Bk.made _ _ _⟩ (below_al (Below.refl _ _) _)
      obtain ⟨v6, e6, h6⟩ := hall 6 (by simp)
      obtain rfl : v6 = .int .i64 fw := h6
      obtain ⟨v7, e7, h7⟩ := hall 7 (by simp)
      obtain rfl : v7 = refV (fw % 65536) (fw / 65536 % 2 == 1) (fw / 131072 % 268435456) := h7
      obtain ⟨v8, e8, gf, rfl, hgf, kf⟩ := hall 8 (by simp)
      clear hall
      simp only [actOf, lstOf, e6, e7, e8, psT, Option.isSome_some, if_true]
      clear e6 e7 e8
      have hix : fw % 65536 = fw % 65536 := rfl
      have hcnt : fw / 131072 % 268435456 = (G.went : Nat) := by
        have h1 := HMM.out.2.2.1
        have h2 := HMM.out.2.2.2
        rw [HFW.out] at h1
        rw [h1]
        simp only [packI, Bool.false_eq_true, if_false]
        omega
      have hmk : (fw / 65536 % 2 == 1) = false := by
        have h1 := HMM.out.2.2.1
        have h2 := HMM.out.2.2.2
        rw [HFW.out] at h1
        rw [h1]
        simp only [packI, Bool.false_eq_true, if_false, beq_eq_false_iff_ne]
        omega
      rw [hcnt, hmk]
      clear hix hcnt hmk
      generalize fw % 65536 = ix at *
      (try simp only [Act.put, List.setIfInBounds_toArray, List.set_cons_zero, List.set_cons_succ])
      have f0 := kf.cell 0
      have f1 := kf.cell 1
      have f2 := kf.cell 2
      have fz0 := kf.free 0
      have fz1 := kf.free 1
      have fz2 := kf.free 2
      have lf := kf.lt
      simp at f0 f1 f2
      refine wpAnyE_one (i := 9) (o := _) (by kernel_rfl) rfl (fun K hK => ?_)
      (try simp only [List.getElem_toArray, List.getElem_cons_succ, List.getElem_cons_zero])
      go_simp
      refine hK.out _ _ (fun h => absurd h (by decide)) ?_
      clear hK K
      refine wpAnyE_done (by kernel_rfl) ?_ _
      have kf3 := ((kf.stored 0 (.int .i64 ix)).stored 1 (.bool false)).stored 2 (.int .i64 (G.went : Nat))
      have hb9 := below_set (below_set (below_set (below_tr hbb hb8) (p := ⟨gf, 0, none⟩) (by have := hbb.size; dsimp only; omega) (.int .i64 ix)) (p := ⟨gf, 1, none⟩) (by have := hbb.size; dsimp only; omega) (.bool false)) (p := ⟨gf, 2, none⟩) (by have := hbb.size; dsimp only; omega) (.int .i64 (G.went : Nat))
      clear f0 f1 f2 fz0 fz1 fz2 lf kf hb8
      generalize ((w8.setCell ⟨gf, 0, none⟩ (.int .i64 ix)).setCell ⟨gf, 1, none⟩ (.bool false)).setCell ⟨gf, 2, none⟩ (.int .i64 (G.went : Nat)) = w9 at *
      have f1 := kf3.cell 1
      have f2 := kf3.cell 2
      simp at f1 f2
      go_wp2
      go_ret
      exact ⟨rfl, hb9⟩
end Go.Proofs.Ytbcgjolcfagboaa
