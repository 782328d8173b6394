/- ArenaOnce. Printed by laws_gen.py. -/
import Derived.Test.YtbcgjolcfagboaaPas
namespace Go.Proofs.Ytbcgjolcfagboaa
open Go.RowKit
set_option linter.unusedVariables false
attribute [local go_sem ↓] Go.wp_at_zero Go.wp_at_succ

theorem own_idle {s : SeatA} (h : s.op.kind = 0) : s.own = s.has := by
  have hp : s.ph = .no := by simp [SeatA.ph, phOf, h]
  rw [SeatA.own, gives_of hp, mid_of hp]
  simp [Ph.gv, Ph.md]
theorem sumc_flat (v : Int) : ∀ ss : List SeatA, (∀ s ∈ ss, s.op.kind = 0) → (ss.flatMap (·.has)).count v = sumc SeatA.own v ss
  | [], _ => rfl
  | s :: ss, h => by
    rw [List.flatMap_cons, List.count_append, sumc, own_idle (h s (by simp)), sumc_flat v ss (fun u hu => h u (by simp [hu]))]
def hasSum (ss : List SeatA) : Nat := (ss.map fun s => s.has.length).sum
theorem hasSum_flat : ∀ ss : List SeatA, (ss.flatMap (·.has)).length = hasSum ss
  | [] => rfl
  | s :: ss => by rw [List.flatMap_cons, List.length_append, hasSum_flat ss]; simp [hasSum]
theorem hasSum_take {ss : List SeatA} {k : Nat} {s : SeatA} (h : ss[k]? = some s) : hasSum (ss.take (k + 1)) = hasSum (ss.take k) + s.has.length := by
  rw [List.take_add_one, h]
  simp [hasSum]
theorem hasSum_le : ∀ (ss : List SeatA) (k : Nat), hasSum (ss.take k) ≤ hasSum ss
  | _, 0 => by simp [hasSum]
  | [], _ + 1 => by simp [hasSum]
  | s :: ss, k + 1 => by have := hasSum_le ss k; simp [hasSum] at *; omega
/-- What there is in the end: what nobody has is free, once, and nothing else is. -/
theorem once_end {l : Ly} {sz : Nat} {t : TabA} {L : List Int} {went : Nat} (h : AI l sz t L went) (hk : ∀ s ∈ t.seats, s.op.kind = 0) (hn : 0 ≤ l.c.nodes) : ((L.length + hasSum t.seats : Nat) : Int) = l.c.nodes ∧ L.Nodup ∧ ∀ s ∈ t.seats, ∀ z ∈ s.has, ¬ z ∈ L := by
  have hc : ∀ v, (L ++ t.seats.flatMap (·.has)).count v = (upTo l.c.nodes.toNat).count v := fun v => by
    rw [List.count_append, sumc_flat v t.seats hk, h.tot v, count_upTo]
    have : ((l.c.nodes.toNat : Nat) : Int) = l.c.nodes := by omega
    rw [this]
  have hp := (List.perm_iff_count.2 hc).length_eq
  rw [List.length_append, hasSum_flat] at hp
  refine ⟨by rw [hp]; simp [upTo]; omega, List.nodup_iff_count.2 fun a => ?_, fun s hs z hz hin => ?_⟩
  · have := h.tot a
    split at this <;> omega
  · obtain ⟨j, hj⟩ := List.getElem?_of_mem hs
    have h1 := h.tot z
    have h2 := sumc_le SeatA.own z t.seats j s hj
    rw [own_idle (hk s hs)] at h2
    have h3 := List.count_pos_iff.2 hz
    have h4 := List.count_pos_iff.2 hin
    split at h1 <;> omega
theorem ghA_had (l : Ly) (g : GhA) (st : StepA) (v : Int) : (ghA l g st).had v = if st.op.kind = 2 ∧ st.acc.kind = 3 ∧ st.res.2 = true then (if v = st.op.a then false else g.had v) else if st.done = true ∧ st.op.kind = 1 ∧ st.is = true then (if v = st.val then true else g.had v) else g.had v := rfl
def hadC (M : Nat) (g : GhA) : Array Value := ((List.range (M + 1)).map fun (a : Nat) => Value.bool (g.had a)).toArray
theorem hadC_get (M : Nat) (g : GhA) {j : Nat} (h : j ≤ M) : (hadC M g)[j]? = some (.bool (g.had j)) := by
  have : j < M + 1 := by omega
  simp [hadC, this]
theorem hadC_set (M : Nat) (g g' : GhA) (j : Nat) (v : Bool) (h : j ≤ M) (h1 : g'.had j = v) (h2 : ∀ i : Nat, i ≠ j → g'.had i = g.had i) : (hadC M g).setIfInBounds j (.bool v) = hadC M g' := by
  apply Array.ext
  · simp [hadC]
  · intro i a b
    simp [hadC]
    by_cases e : j = i
    · subst e; simp [h1]
    · simp [e, h2 i (fun q => e q.symm)]
theorem bk_had {w : World} {g M : Nat} {G G' : GhA} (k : Bk w g 4 (hadC M G)) (h : ∀ i, G'.had i = G.had i) : Bk w g 4 (hadC M G') := by
  have e : hadC M G = hadC M G' := by simp [hadC, h]
  exact e ▸ k
theorem hadC_start (M : Nat) : madeCells #[Value.bool false] ((M + 1) * 1) = hadC M gh0 := by
  apply Array.ext
  · simp [hadC, madeCells]
  · intro i a b
    simp [hadC, madeCells, gh0, Nat.mod_one]
def OnRel (w5 : World) (gK M N : Nat) (l : Ly) (steps : List StepA) (v8 : Value) (wr : World) : Prop :=
  ∃ k : Nat, k ≤ N ∧ v8 = .int .i64 k ∧ Bk wr gK 4 (hadC M (gRun l gh0 (steps.take k))) ∧ Below w5.heap.size w5 wr
def On2Rel (w8 : World) (n q : Nat) (ss : List SeatA) (v11 v12 : Value) (wr : World) : Prop :=
  ∃ k : Nat, k ≤ n ∧ v12 = .int .i64 k ∧ v11 = .int .i64 ((q + hasSum (ss.take k) : Nat)) ∧ Below w8.heap.size w8 wr
def On3Rel (w8 : World) (n : Nat) (v13 : Value) (wr : World) : Prop :=
  ∃ k : Nat, k ≤ n ∧ v13 = .int .i64 k ∧ Below w8.heap.size w8 wr
set_option maxRecDepth 1000000 in
set_option maxHeartbeats 16000000 in
theorem once_any (t : Int) (W : Option Addr) (n c : Nat) (T : Option Addr) (m d : Nat) (want : List (List Nat)) (turns : List Nat) (w : World) (t0 : 0 ≤ t) (t1 : t < 256) (hn : want.length = n) (hm : turns.length = m) (hW : SlU8s w w.heap.size W want) (hT : SlU8 w w.heap.size T turns) :
    Calls Try.prog 3 #[.agg (playC t W n c T m d)] w (BoolBelow true w) := by
  have HW := Lib.hid hW
  have HT := Lib.hid hT
  have HN := Lib.hid hn
  have HM := Lib.hid hm
  clear hW hT hn hm
  have k0 := Bk.made w 25 (playC t W n c T m d)
  have hbl := below_al (Below.refl w.heap.size w) (.cells (playC t W n c T m d) 25)
  go_enter Try.func3, Try.ntmps3
  go_wp2_with fail
  (with_reducible refine (awake_any _).mono ?_)
  rintro e w1 ⟨rfl, hb⟩
  replace k0 := k0.keep hb
  replace hbl := below_tr hbl hb
  clear hb
  have q0 := k0.cell 0
  have q1 := k0.cell 1
  have q2 := k0.cell 2
  simp at q0 q1 q2
  go_wp2_with fail
  (with_reducible refine (few_any t W n c T m d want _ HN.out ((HW.out.below hbl).more hbl.size)).mono ?_)
  rintro e w2 ⟨b, rfl, hb, hbt⟩
  replace k0 := k0.keep hb
  replace hbl := below_tr hbl hb
  clear hb q0 q1 q2
  cases b with
  | false =>
    go_wp2
    go_ret
    exact ⟨rfl, hbl⟩
  | true =>
  obtain ⟨h1, h3, h200, hlen⟩ := hbt rfl
  have HLEN := Lib.hid hlen
  clear hbt hlen
  have q0 := k0.cell 0
  have q1 := k0.cell 1
  have q2 := k0.cell 2
  simp at q0 q1 q2
  go_wp2_with fail
  (with_reducible refine (where_any t W n c T m d _ t0 t1 h1 (by omega)).mono ?_)
  rintro e w3 ⟨rfl, hb⟩
  replace k0 := k0.keep hb
  replace hbl := below_tr hbl hb
  clear hb q0 q1 q2
  have HOK := Lib.hid (layOk_of (layB_play n t h1 h3))
  have HFL : Hid (LyFull (playL n t)) := Lib.hid (lyFull_of _ (playCf_can n t h1 (by omega)))
  obtain ⟨l, hl⟩ : ∃ l, playL n t = l := ⟨_, rfl⟩
  rw [hl] at HOK HFL
  rw [hl]
  have HL := Lib.hid hl
  clear hl
  go_upto_region 5 with (refine wpList_store_new rfl 31 (.tmp 4) (.tmp 21) rfl rfl w3.heap.size _ _ (lyC l) rfl rfl rfl rfl (by kernel_rfl) rfl (by simp [Value.oneCell']) ?_)
  have kL := Bk.made w3 31 (lyC l)
  replace k0 := k0.alloc (.cells (lyC l) 31)
  replace hbl := below_al hbl (.cells (lyC l) 31)
  generalize w3.alloc (.cells (lyC l) 31) = w4 at *
  generalize w3.heap.size = bL at *
  have q0 := k0.cell 0
  have q1 := k0.cell 1
  have q2 := k0.cell 2
  simp at q0 q1 q2
  go_wp2_with fail
  (with_reducible refine (played_any t W n c T m d want turns _ t0 t1 h1 h3 HN.out HM.out h200 ((HW.out.below hbl).more hbl.size) ((HT.out.below hbl).more hbl.size)).mono ?_)
  rintro e w5 ⟨A, cap, gt, go, gl, gn, gh, rfl, hst, hT, hb⟩
  rw [HL.out] at *
  obtain ⟨hrun, hfin⟩ := end_ok HOK.out n want turns h1 h3 (by rw [HM.out]; exact h200) HLEN.out
  have HSL := Lib.hid (StSl.of_own hst rfl)
  replace k0 := k0.keep hb
  replace kL := kL.keep hb
  replace hbl := below_tr hbl hb
  clear hb q0 q1 q2 hst
  generalize endA l n want turns = R at *
  have HRUN := Lib.hid hrun
  have HFIN := Lib.hid hfin
  have HTR := Lib.hid hT
  obtain ⟨steps, hsteps⟩ : ∃ x, R.2 = x := ⟨_, rfl⟩
  rw [hsteps] at HSL ⊢
  obtain ⟨N, hN⟩ : ∃ x, steps.length = x := ⟨_, rfl⟩
  rw [hN]
  have HS := Lib.hid hsteps
  have HNN := Lib.hid hN
  have hN4 : N ≤ 400 := by
    have := hrun.len
    rw [hsteps, hN, HM.out] at this
    omega
  have HSTEP : Hid (∀ (j : Nat) (st : StepA), steps[j]? = some st → StepOk l n (gRun l gh0 (steps.take j)) st) := Lib.hid (by rw [← hsteps]; exact hrun.steps)
  have hly := HOK.out.lay
  have n0 := hly.nn
  have n1 := hly.fr
  have n2 := hly.er
  have n3 := hly.nd
  clear hsteps hN hrun hfin hT hly
  obtain ⟨M, hM⟩ : ∃ M : Nat, l.c.nodes = M := ⟨l.c.nodes.toNat, by omega⟩
  have hM6 : 1 ≤ M ∧ M ≤ 6 := by omega
  have q1 := kL.cell 1
  simp at q1
  rw [hM] at q1
  have HMM := Lib.hid hM
  clear hM n0
  go_wp2_with (refine wpList_make_row rfl _ _ rfl (M + 1) _ rfl rfl (run_make_bools _ (M + 1) (by omega)) ?_)
  clear q1
  have kK := Bk.made w5 4 (madeCells #[.bool false] ((M + 1) * 1))
  have hbK := below_al (Below.refl w5.heap.size w5) (.cells (madeCells #[.bool false] ((M + 1) * 1)) 4)
  have e0 := hadC_start M
  rw [e0] at kK hbK
  rw [Nat.mul_one] at e0
  rw [e0]
  have HK := Lib.hid (And.intro kK hbK)
  clear kK hbK e0
  go_loopw [8] (fun v8 wr => OnRel w5 w5.heap.size M N l steps v8 wr) (fun v8 _ => N - (intOf v8).toNat)
  case atStart => exact ⟨0, Nat.zero_le _, rfl, HK.out.1, HK.out.2⟩
  case round =>
    clear HK
    obtain ⟨k, hk, rfl, kKr, hb⟩ := hrel
    have kLr := kL.keep hb
    obtain ⟨G, hG⟩ : ∃ G, gRun l gh0 (steps.take k) = G := ⟨_, rfl⟩
    rw [hG] at kKr
    by_cases hlt : k < N
    · have g1 : (k : Int) < N := by omega
      obtain ⟨x, hx⟩ : ∃ x, steps[k]? = some x := ⟨_, List.getElem?_eq_getElem (by rw [HNN.out]; exact hlt)⟩
      obtain ⟨bS, rfl, hbS, hcS⟩ := (HSL.out.below hb) (by rw [HNN.out]; omega)
      have hok := HSTEP.out k x hx
      rw [hG] at hok
      have hnx : gRun l gh0 (steps.take (k + 1)) = ghA l G x := by rw [gRun_take l gh0 steps hx, hG]
      have HNX := Lib.hid hnx
      have cl := hcS k x hx
      have HCL := Lib.hid (fun j v (h : (stepC x).toList[j]? = some v) => by
        have hj : j < 17 := by have := (List.getElem?_eq_some_iff.1 h).1; simpa using this
        have := cl j hj
        rw [show wr.cell? ⟨bS, k * 17 + j, none⟩ = some v from by rw [this]; simpa using h] : ∀ (j : Nat) (v : Value), (stepC x).toList[j]? = some v → wr.cell? ⟨bS, k * 17 + j, none⟩ = some v)
      have HOKX := Lib.hid (And.intro hok.once (And.intro hok.give hok.zero))
      clear cl hcS hx hok hnx hG kLr
      obtain ⟨who, ⟨ok, oj, oa, ob⟩, ⟨ak, ac, ao, an⟩, ⟨rv, rok⟩, done, val, is, err, point⟩ := x
      go_upto_region 11 with (first
        | (refine wpList_load_mid rfl 49 (.tmp 40) rfl bS (k * 17) rfl [.int .i64 (who : Nat), .int .i64 ok, .int .i64 oj, .int .i64 oa, .int .i64 ob, .int .i64 ak, .int .i64 ac, .int .i64 ao, .int .i64 an, .int .i64 rv, .bool rok, .bool done, .int .i64 val, .bool is, .int .i64 err, .int .i64 point, .slice none 0 0] _ HCL.out Try.underlying49 rfl (by kernel_rfl) ?_)
        | (refine wpList_store_new rfl 49 (.tmp 9) (.tmp 41) rfl rfl wr.heap.size _ _ #[.int .i64 (who : Nat), .int .i64 ok, .int .i64 oj, .int .i64 oa, .int .i64 ob, .int .i64 ak, .int .i64 ac, .int .i64 ao, .int .i64 an, .int .i64 rv, .bool rok, .bool done, .int .i64 val, .bool is, .int .i64 err, .int .i64 point, .slice none 0 0] rfl rfl rfl rfl (by kernel_rfl) rfl (by simp [Value.oneCell']) ?_))
      have kX := Bk.made wr 49 #[.int .i64 (who : Nat), .int .i64 ok, .int .i64 oj, .int .i64 oa, .int .i64 ob, .int .i64 ak, .int .i64 ac, .int .i64 ao, .int .i64 an, .int .i64 rv, .bool rok, .bool done, .int .i64 val, .bool is, .int .i64 err, .int .i64 point, .slice none 0 0]
      have hba := below_al (Below.refl wr.heap.size wr) (.cells #[.int .i64 (who : Nat), .int .i64 ok, .int .i64 oj, .int .i64 oa, .int .i64 ob, .int .i64 ak, .int .i64 ac, .int .i64 ao, .int .i64 an, .int .i64 rv, .bool rok, .bool done, .int .i64 val, .bool is, .int .i64 err, .int .i64 point, .slice none 0 0] 49)
      have kK6 := kKr.keep hba
      have hb6 := below_tr hb hba
      clear kKr hb hba HCL
      generalize wr.alloc (.cells #[.int .i64 (who : Nat), .int .i64 ok, .int .i64 oj, .int .i64 oa, .int .i64 ob, .int .i64 ak, .int .i64 ac, .int .i64 ao, .int .i64 an, .int .i64 rv, .bool rok, .bool done, .int .i64 val, .bool is, .int .i64 err, .int .i64 point, .slice none 0 0] 49) = w6 at *
      generalize wr.heap.size = gX at *
      have x1 := kX.cell 1
      have x3 := kX.cell 3
      have x5 := kX.cell 5
      have x10 := kX.cell 10
      have x11 := kX.cell 11
      have x12 := kX.cell 12
      have x13 := kX.cell 13
      simp at x1 x3 x5 x10 x11 x12 x13
      have hne : w5.heap.size ≠ gX := bk_ne kK6 kX (by decide)
      rcases Classical.em (ok = 2 ∧ ak = 3 ∧ rok = true) with ⟨c1, c2, c3⟩ | hA
      · subst c1 c2 c3
        have hdn : done = false := by
          cases done with
          | false => rfl
          | true => have := HOKX.out.2.2 rfl; simp at this
        subst hdn
        have ha := HOKX.out.2.1 rfl rfl
        dsimp only at ha
        rw [HMM.out] at ha
        obtain ⟨a, rfl⟩ : ∃ a : Nat, oa = a := ⟨oa.toNat, by omega⟩
        have g2 : decide ((0 : Int) ≤ a) = true := by simp
        have g3 : (a : Int) < M + 1 := by omega
        have qK := (kK6.cell a).trans (hadC_get M G (by omega))
        have fK := kK6.free a
        have lK := kK6.lt
        have hg1 : ∀ v, (ghA l G ⟨who, ⟨2, oj, (a : Int), ob⟩, ⟨3, ac, ao, an⟩, (rv, true), false, val, is, err, point⟩).had v = if v = (a : Int) then false else G.had v := fun v => by
          rw [ghA_had]
          exact if_pos ⟨rfl, rfl, rfl⟩
        have hset := hadC_set M G (ghA l G ⟨who, ⟨2, oj, (a : Int), ob⟩, ⟨3, ac, ao, an⟩, (rv, true), false, val, is, err, point⟩) a false (by omega) (by rw [hg1, if_pos rfl]) (fun i hi => by rw [hg1, if_neg (by omega)])
        have kK7 := kK6.stored a (.bool false)
        rw [hset] at kK7
        clear hset hg1
        have hb7 := below_set hb6 (p := ⟨w5.heap.size, a, none⟩) (Nat.le_refl _) (.bool false)
        have HK7 := Lib.hid (And.intro kK7 hb7)
        clear kK7 hb7
        go_wp2_with fail
        exact ⟨⟨k + 1, by omega, by go_num, by rw [HNX.out]; exact HK7.out.1, HK7.out.2⟩, by simp [intOf]; omega⟩
      · have HA := Lib.hid hA
        clear hA
        have HSAME : Hid (¬ (done = true ∧ ok = 1 ∧ is = true) → ∀ i, (ghA l G ⟨who, ⟨ok, oj, oa, ob⟩, ⟨ak, ac, ao, an⟩, (rv, rok), done, val, is, err, point⟩).had i = G.had i) := Lib.hid (fun h i => by
          rw [ghA_had, if_neg HA.out, if_neg h])
        cases done with
        | false =>
          have HSAME := Lib.hid (HSAME.out (by simp))
          rcases Classical.em (ok = 2) with h2 | h2
          · subst h2
            rcases Classical.em (ak = 3) with h3 | h3
            · subst h3
              cases rok with
              | true => exact absurd ⟨rfl, rfl, rfl⟩ HA.out
              | false =>
                go_wp2_with fail
                exact ⟨⟨k + 1, by omega, by go_num, by rw [HNX.out]; exact bk_had kK6 HSAME.out, hb6⟩, by simp [intOf]; omega⟩
            · have p1 : (ak == 3) = false := by simp [h3]
              have p2 : decide (ak = 3) = false := by simp [h3]
              clear h3
              go_wp2_with fail
              exact ⟨⟨k + 1, by omega, by go_num, by rw [HNX.out]; exact bk_had kK6 HSAME.out, hb6⟩, by simp [intOf]; omega⟩
          · have p1 : (ok == 2) = false := by simp [h2]
            have p2 : decide (ok = 2) = false := by simp [h2]
            clear h2
            go_wp2_with fail
            exact ⟨⟨k + 1, by omega, by go_num, by rw [HNX.out]; exact bk_had kK6 HSAME.out, hb6⟩, by simp [intOf]; omega⟩
        | true =>
          rcases Classical.em (ok = 2) with h2 | h2
          · subst h2
            have HSAME := Lib.hid (HSAME.out (by simp))
            rcases Classical.em (ak = 3) with h3 | h3
            · have := HOKX.out.2.2 rfl
              dsimp only at this
              omega
            · have p1 : (ak == 3) = false := by simp [h3]
              have p2 : decide (ak = 3) = false := by simp [h3]
              clear h3
              go_wp2_with fail
              exact ⟨⟨k + 1, by omega, by go_num, by rw [HNX.out]; exact bk_had kK6 HSAME.out, hb6⟩, by simp [intOf]; omega⟩
          · have p1 : (ok == 2) = false := by simp [h2]
            have p2 : decide (ok = 2) = false := by simp [h2]
            rcases Classical.em (ok = 1) with h1' | h1'
            · subst h1'
              clear h2 p1 p2
              cases is with
              | false =>
                have HSAME := Lib.hid (HSAME.out (by simp))
                go_wp2_with fail
                exact ⟨⟨k + 1, by omega, by go_num, by rw [HNX.out]; exact bk_had kK6 HSAME.out, hb6⟩, by simp [intOf]; omega⟩
              | true =>
                obtain ⟨hv, hh⟩ := HOKX.out.1 rfl rfl rfl
                dsimp only at hv hh
                rw [HMM.out] at hv
                obtain ⟨a, rfl⟩ : ∃ a : Nat, val = a := ⟨val.toNat, by omega⟩
                have g2 : decide ((a : Int) < 1) = false := by simp; omega
                have g3 : (a : Int) < M + 1 := by omega
                have g4 : decide ((M : Int) + 1 ≤ a) = false := by simp; omega
                have qK := (kK6.cell a).trans (hadC_get M G (by omega))
                rw [hh] at qK
                have fK := kK6.free a
                have lK := kK6.lt
                have hg1 : ∀ v, (ghA l G ⟨who, ⟨1, oj, oa, ob⟩, ⟨ak, ac, ao, an⟩, (rv, rok), true, (a : Int), true, err, point⟩).had v = if v = (a : Int) then true else G.had v := fun v => by
                  rw [ghA_had, if_neg (by simp)]
                  exact if_pos ⟨rfl, rfl, rfl⟩
                have hset := hadC_set M G (ghA l G ⟨who, ⟨1, oj, oa, ob⟩, ⟨ak, ac, ao, an⟩, (rv, rok), true, (a : Int), true, err, point⟩) a true (by omega) (by rw [hg1, if_pos rfl]) (fun i hi => by rw [hg1, if_neg (by omega)])
                have kK7 := kK6.stored a (.bool true)
                rw [hset] at kK7
                clear hset hg1
                have hb7 := below_set hb6 (p := ⟨w5.heap.size, a, none⟩) (Nat.le_refl _) (.bool true)
                have HK7 := Lib.hid (And.intro kK7 hb7)
                clear kK7 hb7 hh
                go_wp2_with fail
                exact ⟨⟨k + 1, by omega, by go_num, by rw [HNX.out]; exact HK7.out.1, HK7.out.2⟩, by simp [intOf]; omega⟩
            · have HSAME := Lib.hid (HSAME.out (by simp [h1']))
              have p3 : (ok != 1) = true := by simp [h1']
              have p4 : decide (ok = 1) = false := by simp [h1']
              clear h2 h1'
              go_wp2_with fail
              exact ⟨⟨k + 1, by omega, by go_num, by rw [HNX.out]; exact bk_had kK6 HSAME.out, hb6⟩, by simp [intOf]; omega⟩
    · have g1 : decide ((k : Int) < N) = false := by simp; omega
      obtain ⟨L, hai⟩ := HRUN.out.inv
      have hkind : ∀ s ∈ R.1.seats, s.op.kind = 0 := by
        intro s hs
        obtain ⟨j, hj⟩ := List.getElem?_of_mem hs
        obtain ⟨s', h1', h2'⟩ := HFIN.out j (by have := (List.getElem?_eq_some_iff.1 hj).1; rw [HRUN.out.ns] at this; exact this)
        rw [hj] at h1'
        injection h1' with h1'
        subst h1'
        exact h2'.1
      obtain ⟨hsum, hnod, hap⟩ := once_end hai hkind (by have := HMM.out; omega)
      have hwl : (gRun l gh0 R.2).went < 268435456 := by have := HRUN.out.went; have := HM.out; omega
      have hidx := (hai.idx HOK.out.lay hwl).1
      have hLl : L.length ≤ 1000 := by have := HMM.out; omega
      have hin : ∀ a ∈ L, 1 ≤ a ∧ a ≤ l.c.nodes := fun a ha => by
        have h1 := hai.tot a
        have h3 := List.count_pos_iff.2 ha
        split at h1
        · assumption
        · omega
      have hTw := HTR.out.keep hb
      obtain ⟨gm, cm, a1, a2, -⟩ := hTw.tab
      have HA := Lib.hid (own_slInt a2 rfl)
      obtain ⟨Z, hZ⟩ : ∃ Z, R.1.m.length = Z := ⟨_, rfl⟩
      rw [hZ] at a1
      have hns := HRUN.out.ns
      have HAI := Lib.hid (And.intro hZ (And.intro hai.ml (And.intro hidx (And.intro hai.chain (And.intro hin (And.intro hnod (And.intro hLl (And.intro hsum (And.intro hap hns)))))))))
      clear hai hkind hsum hnod hap hwl hidx hLl hin hZ a2 kKr hG hns
      have HTW := Lib.hid hTw
      clear hTw
      go_upto_region 19 with fail
      refine wp_region_E (S := fun w' => Below wr.drew.heap.size wr.drew w') (E := fun _ => false) (by kernel_rfl) ?_
      replace a1 := a1.drew
      replace kLr := kLr.drew
      have hbb := (below_tr hbl hb).drew
      have HTW' : Hid (TRep wr.drew gt go gl gn gh n R.1) := Lib.hid (HTW.out.keep (Below.refl wr.heap.size wr).drew)
      have HA' : Hid (SlInt wr.drew wr.drew.heap.size (some ⟨gm, 0, none⟩) R.1.m) := Lib.hid HA.out
      clear HA hb HTW
      generalize wr.drew = w7 at *
      refine wpAnyE_take (i := 0) (oi := _) (v := .agg (lyC l)) rfl (by kernel_rfl) (by kernel_rfl) (by kernel_rfl) (by kernel_rfl) (fun _ _ _ h => h) (Or.inl ⟨by rfl, ?_⟩) (Below.refl _ _) ?_
      · intro w' hSw
        (try simp only [List.getElem_toArray, List.getElem_cons_zero])
        simp only [execOp, Instr.loadAt, Instr.sureAddr, Sem.run_bind, Sem.run_pure]
        rw [show (Act.eval _ (Operand.tmp 4)) = Value.pointer (some ⟨bL, 0, none⟩) from rfl]
        simp only [Sem.run_pure, Result.andThen_ok, run_loadVar_row w' bL 31 31 (lyC l) (0, 0) _ (kLr.keep hSw) Try.underlying31 rfl (by kernel_rfl)]
      (try simp only [List.getElem_toArray, List.getElem_cons_zero, Act.put, List.setIfInBounds_toArray, List.set_cons_zero, List.set_cons_succ])
      refine wpAnyE_take (i := 1) (oi := _) (v := ptr gt) rfl (by kernel_rfl) (by kernel_rfl) (by kernel_rfl) (by kernel_rfl) (fun _ _ _ h => h) (Or.inl ⟨by rfl, ?_⟩) (Below.refl _ _) ?_
      · intro w' hSw
        (try simp only [List.getElem_toArray, List.getElem_cons_succ, List.getElem_cons_zero])
        go_simp
      (try simp only [List.getElem_toArray, List.getElem_cons_succ, List.getElem_cons_zero, Act.put, List.setIfInBounds_toArray, List.set_cons_zero, List.set_cons_succ])
      refine wpAnyE_take (i := 2) (oi := _) (v := ptr gt) rfl (by kernel_rfl) (by kernel_rfl) (by kernel_rfl) (by kernel_rfl) (fun _ _ _ h => h) (Or.inl ⟨by rfl, ?_⟩) (Below.refl _ _) ?_
      · intro w' hSw
        (try simp only [List.getElem_toArray, List.getElem_cons_succ, List.getElem_cons_zero])
        go_simp
      (try simp only [List.getElem_toArray, List.getElem_cons_succ, List.getElem_cons_zero, Act.put, List.setIfInBounds_toArray, List.set_cons_zero, List.set_cons_succ])
      refine wpAnyE_take (i := 3) (oi := _) (v := .pointer (some ⟨gt, 0, none⟩)) rfl (by kernel_rfl) (by kernel_rfl) (by kernel_rfl) (by kernel_rfl) (fun _ _ _ h => h) (Or.inl ⟨by rfl, ?_⟩) (Below.refl _ _) ?_
      · intro w' hSw
        (try simp only [List.getElem_toArray, List.getElem_cons_succ, List.getElem_cons_zero])
        go_simp
      (try simp only [List.getElem_toArray, List.getElem_cons_succ, List.getElem_cons_zero, Act.put, List.setIfInBounds_toArray, List.set_cons_zero, List.set_cons_succ])
      refine wpAnyE_take (i := 4) (oi := _) (v := .agg #[.slice (some ⟨gm, 0, none⟩) Z cm]) rfl (by kernel_rfl) (by kernel_rfl) (by kernel_rfl) (by kernel_rfl) (fun _ _ _ h => h) (Or.inl ⟨by rfl, ?_⟩) (Below.refl _ _) ?_
      · intro w' hSw
        have s1 := (a1.keep hSw).cell 0
        (try simp at s1)
        (try simp only [List.getElem_toArray, List.getElem_cons_succ, List.getElem_cons_zero])
        go_simp
      (try simp only [List.getElem_toArray, List.getElem_cons_succ, List.getElem_cons_zero, Act.put, List.setIfInBounds_toArray, List.set_cons_zero, List.set_cons_succ])
      refine wpAnyE_one (i := 5) (o := _) (by kernel_rfl) rfl (fun K hK => ?_)
      (try simp only [List.getElem_toArray, List.getElem_cons_succ, List.getElem_cons_zero])
      go_simp
      obtain ⟨q, hq⟩ : ∃ q, L.length = q := ⟨_, rfl⟩
      have hcall : Calls Try.prog 11 #[lyV l, .agg #[.slice (some ⟨gm, 0, none⟩) Z cm]] w7 fun e w' => ∃ B d, e = .returned (.slice B q d) ∧ OwnInts w' w7.heap.size (.slice B q d) L ∧ Below w7.heap.size w7 w' := by
        obtain ⟨z1, z2, z3, z4, z5, z6, z7, z8⟩ := HAI.out
        have := list_any l (some ⟨gm, 0, none⟩) cm Z R.1.m L w7 HFL.out (by have := HMM.out; omega) HA'.out z1 (by omega) (fun a ha => by rw [nodeAt_of l ha (by omega)]; omega) z3 z4 z5 z6 z7
        rw [hq] at this
        exact this
      refine hcall.mono ?_
      rintro e w8 ⟨B, d, rfl, hown, hb8⟩
      clear hcall
      refine hK.out _ _ (fun _ => hb8) ?_
      clear hK K
      (try simp only [List.getElem_toArray, List.getElem_cons_succ, List.getElem_cons_zero, Act.put, List.setIfInBounds_toArray, List.set_cons_zero, List.set_cons_succ])
      refine wpAnyE_take (i := 6) (oi := _) (v := .slice B q d) rfl (by kernel_rfl) (by kernel_rfl) (by kernel_rfl) (by kernel_rfl) (fun _ _ _ h => h) (Or.inl ⟨by rfl, ?_⟩) hb8 ?_
      · intro w' hSw
        (try simp only [List.getElem_toArray, List.getElem_cons_succ, List.getElem_cons_zero])
        go_simp
      (try simp only [List.getElem_toArray, List.getElem_cons_succ, List.getElem_cons_zero, Act.put, List.setIfInBounds_toArray, List.set_cons_zero, List.set_cons_succ])
      refine wpAnyE_done (by kernel_rfl) ?_ _
      have HFREE := Lib.hid (own_slInt hown hq)
      have HQ := Lib.hid hq
      have hb9 := below_tr hbb hb8
      have hTw := HTW'.out.keep hb8
      have HTW := Lib.hid hTw
      obtain ⟨gm', cm', a1', -, -⟩ := hTw.tab
      obtain ⟨c4, f1, f2, f3⟩ := hTw.hass
      have HF := Lib.hid (And.intro f2 f3)
      have kL8 := kLr.keep hb8
      clear hown hq hbb hb8 a1 kLr HTW' HA' hTw f2 f3
      have qT := a1'.cell 4
      simp at qT
      go_upto_region 22 with fail
      clear qT
      go_loopw [11, 12] (fun v11 v12 wr => On2Rel w8 n q R.1.seats v11 v12 wr) (fun _ v12 _ => n - (intOf v12).toNat)
      case atStart => exact ⟨0, Nat.zero_le _, rfl, by simp [hasSum], Below.refl _ _⟩
      case round =>
        obtain ⟨j, hj, rfl, rfl, hbj⟩ := hrel
        have kT := a1'.keep hbj
        have qT := kT.cell 4
        simp at qT
        by_cases hjn : j < n
        · have i1 : (j : Int) < n := by omega
          obtain ⟨s, hs⟩ : ∃ s, R.1.seats[j]? = some s := ⟨_, List.getElem?_eq_getElem (by rw [HRUN.out.ns]; exact hjn)⟩
          obtain ⟨G, cp, e1, e2, -⟩ := HF.out.2 j s hs
          have c1 := cell_keep hbj ((f1.cell j).trans e1)
          have hsl := own_slInt (own_keepb' e2 hbj) rfl
          obtain ⟨hl, hhl⟩ : ∃ y, s.has.length = y := ⟨_, rfl⟩
          have htk := hasSum_take hs
          have hsn : (q + hasSum (R.1.seats.take j) : Nat) + hl ≤ 1000000 := by
            have h1 := HAI.out.2.2.2.2.2.2.2.1
            rw [HQ.out] at h1
            have h2 : hasSum (R.1.seats.take (j + 1)) ≤ hasSum R.1.seats := hasSum_le _ _
            have h0 := HMM.out
            omega
          rw [hhl] at htk c1
          have HZ := Lib.hid (And.intro htk (And.intro hhl (And.intro hsl hs)))
          obtain ⟨su, hsu⟩ : ∃ y : Nat, (q + hasSum (R.1.seats.take j) : Nat) = y := ⟨_, rfl⟩
          rw [hsu] at hsn ⊢
          have HSU := Lib.hid hsu
          clear htk hhl hsl e1 e2 hs hj hsu
          go_upto_region 26 with fail
          go_loopw [13] (fun v13 wr' => On3Rel wr hl v13 wr') (fun v13 _ => hl - (intOf v13).toNat)
          case atStart => exact ⟨0, Nat.zero_le _, rfl, Below.refl _ _⟩
          case round =>
            obtain ⟨i, hi, rfl, hbi⟩ := hrel
            have kT2 := kT.keep hbi
            have qT2 := kT2.cell 4
            have c2 := cell_keep hbi c1
            simp at qT2
            clear qT
            by_cases hil : i < hl
            · have i2 : (i : Int) < hl := by omega
              obtain ⟨htk, hhl, hsl, hs⟩ := HZ.out
              obtain ⟨z, hz⟩ : ∃ z, s.has[i]? = some z := ⟨_, List.getElem?_eq_getElem (by omega)⟩
              obtain ⟨bG, oG, rfl, hbG, hcG⟩ := (hsl.below hbi) (by omega)
              have c3 := hcG i z hz
              have hfr := (HFREE.out.below (below_tr hbj hbi)).more (below_tr hbj hbi).size
              have hnin : ¬ z ∈ L := HAI.out.2.2.2.2.2.2.2.2.1 s (List.mem_of_getElem? hs) z (List.mem_of_getElem? hz)
              have hcall := in_any B d L z _ hfr (by rw [HQ.out]; have := HAI.out.2.2.2.2.2.2.1; rw [HQ.out] at this; omega)
              rw [HQ.out, decide_eq_false hnin] at hcall
              have HC := Lib.hid hcall
              clear htk hhl hsl hs hz hcG hfr hnin hcall hi
              go_wp2_with fail
              refine HC.out.mono ?_
              rintro e w9 ⟨rfl, hb10⟩
              clear HC
              go_wp2_with fail
              exact ⟨⟨i + 1, by omega, by go_num, below_tr hbi hb10⟩, by simp [intOf]; omega⟩
            · have i2 : decide ((i : Int) < hl) = false := by simp; omega
              go_wp2_with fail
              exact ⟨⟨j + 1, by omega, by go_num, by rw [HZ.out.1, ← HSU.out]; go_num, below_tr hbj hbi⟩, by simp [intOf]; omega⟩
        · have i1 : decide ((j : Int) < n) = false := by simp; omega
          have hjn2 : j = R.1.seats.length := by rw [HRUN.out.ns]; omega
          have hfin : ((q + hasSum (R.1.seats.take j) : Nat) : Int) = M := by
            rw [hjn2, List.take_of_length_le (Nat.le_refl _)]
            have h1 := HAI.out.2.2.2.2.2.2.2.1
            rw [HQ.out, HMM.out] at h1
            exact h1
          rw [hfin]
          have kL9 := kL8.keep hbj
          have qL1 := kL9.cell 1
          simp at qL1
          rw [HMM.out] at qL1
          have hbf := below_tr hb9 hbj
          clear hfin hjn2
          go_wp2
          go_ret
          exact ⟨rfl, hbf⟩
end Go.Proofs.Ytbcgjolcfagboaa
