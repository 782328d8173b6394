/- TaskTouches. Printed by touch_gen.py. -/
import Derived.Test.YtcjaomiihajjbaaTouchP
namespace Go.Proofs.Ytcjaomiihajjbaa
open Go.RowKit
attribute [local go_sem ↓] Go.wp_at_zero Go.wp_at_succ

theorem run_loadVar_sub {P : Program} (w : World) (g o : Nat) (ty : TypeId) (cs : Array Value) (d : TypeDesc) (hc : ∀ (j : Nat) (v : Value), cs[j]? = some v → w.cell? ⟨g, o + j, none⟩ = some v)
    (hu : P.underlying ty = some d) (hd : (match d with | .struct _ | .array _ _ => true | _ => false) = true) (hi : (P.info? ty).map (·.size) = some cs.size) :
    (loadVar ty ⟨g, o, none⟩).run P w = .ok (.agg cs) w := by
  have hl : (loadCells ⟨g, o, none⟩ cs.toList.length).run P w = .ok cs.toList.toArray w :=
    run_loadCells_list (P := P) w ⟨g, o, none⟩ cs.toList (fun j v hv => by
      rw [Go.WideShapes.add_plain]
      exact hc j v (by simpa using hv))
  cases hq : P.info? ty with
  | none => simp [hq] at hi
  | some i =>
    have hs : i.size = cs.size := by simpa [hq] using hi
    have hagg : (isAgg ty).run P w = .ok true w := by
      unfold isAgg
      rw [Sem.run_bind, run_underlying hu w]
      cases d <;> simp_all
    simp only [Array.length_toList, Array.toArray_toList] at hl
    simp [loadVar, Sem.run_bind, hagg, sizeOf, typeInfo, hq, hs, hl]
theorem wpList_load_sub {P : Program} {ops : Array Oper} {rest : List Oper} {o : Oper} {a : Act} {w : World} {Q : Exit → Act → World → Prop} (hgd : o.guard = none) (ty : TypeId) (x : Operand) (ho : o.op = .load ty x)
    (g of : Nat) (hx : a.eval x = .pointer (some ⟨g, of, none⟩)) (cs : Array Value) (d : TypeDesc) (hc : ∀ (j : Nat) (v : Value), cs[j]? = some v → w.cell? ⟨g, of + j, none⟩ = some v)
    (hu : P.underlying ty = some d) (hd : (match d with | .struct _ | .array _ _ => true | _ => false) = true) (hi : (P.info? ty).map (·.size) = some cs.size)
    (h : wpList P ops Q rest (a.put o.dst (.agg cs)) w) : wpList P ops Q (o :: rest) a w :=
  wpList_plain hgd fun _ hK => by
    unfold Oper.wp execOp
    simp only [ho, hx, Instr.loadAt, Instr.sureAddr, Sem.run_bind, Sem.run_pure, Result.andThen_ok, run_loadVar_sub w g of ty cs d hc hu hd hi]
    exact hK _ _ h

def TRel (w0 : World) (bL : Nat) (l : Ly) (A : Option Addr) (cap : Nat) (outs : List StepM) (v7 : Value) (wr : World) : Prop :=
  ∃ k : Nat, k ≤ outs.length ∧ v7 = .int .i64 k ∧ Below w0.heap.size w0 wr ∧ Bk wr bL 34 (lyC l) ∧ wr.ownsRow w0.heap.size 52 18 (.slice A outs.length cap) outs.length (stepCells outs)
set_option maxRecDepth 100000 in
set_option maxHeartbeats 8000000 in
theorem touches_any (t : Int) (W : Option Addr) (n c : Nat) (T : Option Addr) (m d : Nat) (want : List (List Opr)) (turns : List Nat) (w : World) (t0 : 0 ≤ t) (t1 : t < 256) (hn : want.length = n) (hm : turns.length = m)
    (hW : SlWant w w.heap.size W want) (hT : SlU8 w w.heap.size T turns) (hok : WantOk want) :
    Calls Try.prog 6 #[.agg (playC t W n c T m d)] w (BoolBelow true w) := by
  have HW := Lib.hid (And.intro hW (And.intro hT hok))
  have HN := Lib.hid (And.intro hn hm)
  clear hW hT hok hn hm
  have k0 := Bk.made w 27 (playC t W n c T m d)
  have hbl := below_al (Below.refl w.heap.size w) (.cells (playC t W n c T m d) 27)
  go_enter Try.func6, Try.ntmps6
  go_wp2_with fail
  (with_reducible refine (awake_any _).mono ?_)
  rintro e w1 ⟨rfl, hb⟩
  replace k0 := k0.keep hb
  replace hbl := below_tr hbl hb
  clear hb
  have q0 := k0.cell 0
  have q1 := k0.cell 1
  have q2 := k0.cell 2
  have z0 := k0.lt
  simp at q0 q1 q2
  have hsw := (HW.out.1.below hbl).more hbl.size
  go_wp2_with fail
  (with_reducible refine (few_any t W n c T m d want _ HN.out.1 hsw).mono ?_)
  rintro e w2 ⟨b, rfl, hb, hfew⟩
  clear q0 q1 q2 z0 hsw
  replace k0 := k0.keep hb
  replace hbl := below_tr hbl hb
  clear hb
  cases b with
  | false =>
    clear hfew
    go_wp2
    go_ret
    exact ⟨rfl, hbl⟩
  | true =>
    obtain ⟨h1, h2, h3⟩ := hfew rfl
    clear hfew
    have q0 := k0.cell 0
    have q1 := k0.cell 1
    have q2 := k0.cell 2
    have z0 := k0.lt
    simp at q0 q1 q2
    go_wp2_with fail
    (with_reducible refine (where_any t W n c T m d _ t0 t1 h1 (by omega)).mono ?_)
    rintro e w3 ⟨rfl, hb⟩
    clear q0 q1 q2 z0
    replace k0 := k0.keep hb
    replace hbl := below_tr hbl hb
    clear hb
    have HOK := Lib.hid (playL_ok n t h1 h2)
    obtain ⟨l, hl⟩ : ∃ l, playL n t = l := ⟨_, rfl⟩
    rw [hl] at HOK
    rw [hl]
    have HL := Lib.hid hl
    clear hl
    go_upto_region 5 with (refine wpList_store_new rfl 34 (.tmp 4) (.tmp 20) rfl rfl w3.heap.size _ _ (lyC l) rfl rfl rfl rfl (by kernel_rfl) rfl (by simp [Value.oneCell']) ?_)
    have kL := Bk.made w3 34 (lyC l)
    replace k0 := k0.alloc (.cells (lyC l) 34)
    replace hbl := below_al hbl (.cells (lyC l) 34)
    have zL : w.heap.size ≤ w3.heap.size := by have := k0.lt; simp at this; omega
    generalize w3.alloc (.cells (lyC l) 34) = w4 at *
    generalize w3.heap.size = bL at *
    have q0 := k0.cell 0
    have q1 := k0.cell 1
    have q2 := k0.cell 2
    have z0 := k0.lt
    simp at q0 q1 q2
    have hsw := (HW.out.1.below hbl).more hbl.size
    have hst := (HW.out.2.1.below hbl).more hbl.size
    go_wp2_with fail
    (with_reducible refine (played_any t W n c T m d want turns _ t0 t1 h1 h2 HN.out.1 HN.out.2 h3 hsw hst HW.out.2.2).mono ?_)
    rintro e w5 ⟨A, cap, g, cg, rfl, hsteps, hmem, hb⟩
    clear q0 q1 q2 z0 hsw hst
    replace kL := kL.keep hb
    replace hsteps := own_lower hsteps hbl.size
    replace hbl := below_tr hbl hb
    clear hb k0
    have hSO : ∀ st ∈ (runP (playL n t) want (startP (playL n t) n (beginM (playL n t))) (whosP n turns)).1.out, StepOk (playL n t) st := run_steps _ (fun st hst => by simp [startP] at hst)
    have hlen : (runP (playL n t) want (startP (playL n t) n (beginM (playL n t))) (whosP n turns)).1.out.length ≤ 400 := by
      have := (PInv.run (l := playL n t) (b := (runP (playL n t) want (startP (playL n t) n (beginM (playL n t))) (whosP n turns)).2) HW.out.2.2 (whosP n turns) (start_inv (playL n t) n) rfl).ol
      rw [whosP_length, HN.out.2] at this
      omega
    rw [HL.out] at hSO hlen hsteps hmem
    rw [HL.out]
    generalize (runP l want (startP l n (beginM l)) (whosP n turns)).1 = s at *
    obtain ⟨zs, seats, outs⟩ := s
    dsimp only at hSO hlen hsteps hmem ⊢
    have HSO := Lib.hid hSO
    clear hSO hmem
    go_wp2_with fail
    have hrel0 : TRel w bL l A cap outs (.int .i64 0) (w5.alloc (.cells #[.slice (some ⟨g, 0, none⟩) zs.length cg] 39)) :=
      ⟨0, Nat.zero_le _, rfl, below_al hbl _, kL.alloc _, World.ownsRow.alloc hsteps _⟩
    have HR := Lib.hid hrel0
    clear hrel0 hbl kL hsteps
    generalize w5.alloc (.cells #[.slice (some ⟨g, 0, none⟩) zs.length cg] 39) = w6 at *
    go_loopw [7] (fun v7 wr => TRel w bL l A cap outs v7 wr) (fun v7 _ => outs.length - (intOf v7).toNat)
    case atStart => exact HR.out
    case round =>
      clear HR
      obtain ⟨k, hk, rfl, hbl, kL, hsteps⟩ := hrel
      by_cases hlt : k < outs.length
      · obtain ⟨x, hx⟩ : ∃ x, outs[k]? = some x := ⟨_, List.getElem?_eq_getElem hlt⟩
        obtain ⟨gA, capA, hA, hA1, hA2⟩ := World.ownsRow.form hsteps (by omega)
        injection hA with hA _ hcA
        subst hA
        have cl : ∀ (i : Nat) (v : Value), (stepC x)[i]? = some v → wr.cell? ⟨gA, k * 18 + i, none⟩ = some v := fun i v hv => by
          have hi : i < 18 := (Array.getElem?_eq_some_iff.1 hv).1
          rw [World.ownsRow.cellAt hsteps (k * 18 + i) (by omega), stepCells_get outs k x hx i hi]
          exact hv
        have HSH := Lib.hid (HSO.out x (List.mem_of_getElem? hx))
        have i1 : (k : Int) < outs.length := by omega
        have HS := Lib.hid hsteps
        have HCL := Lib.hid cl
        have zL' := kL.lt
        clear cl hx hsteps hcA
        go_upto_region 10 with (first
          | (refine wpList_load_sub rfl 52 (.tmp 34) rfl gA (k * 18) rfl (stepC x) _ HCL.out Try.underlying52 rfl (by kernel_rfl) ?_)
          | (refine wpList_store_new rfl 52 (.tmp 8) (.tmp 35) rfl rfl wr.heap.size _ _ (stepC x) rfl rfl rfl rfl (by kernel_rfl) rfl (by simp [Value.oneCell']) ?_))
        have kS := Bk.made wr 52 (stepC x)
        have hbl2 := below_al hbl (.cells (stepC x) 52)
        have kL2 := kL.alloc (.cells (stepC x) 52)
        have hs2 := World.ownsRow.alloc HS.out (.cells (stepC x) 52)
        have hsz : wr.heap.size < (wr.alloc (.cells (stepC x) 52)).heap.size := by simp
        clear hbl kL HS HCL
        generalize wr.alloc (.cells (stepC x) 52) = w7 at *
        generalize wr.heap.size = b8 at *
        obtain ⟨who, at_, op, acc, res, done, val, is, err, point⟩ := x
        obtain ⟨ok, oj, oa, ob⟩ := op
        obtain ⟨ak, ac, ao, av⟩ := acc
        (try dsimp only at kS)
        have s6 := kS.cell 6
        have s7 := kS.cell 7
        have s8 := kS.cell 8
        have s9 := kS.cell 9
        simp at s6 s7 s8 s9
        go_upto_region 11 with fail
        clear s6 s7 s8 s9
        have kA := Bk.made w7 44 #[.int .i64 ak, .int .i64 ac, .int .i64 ao, .int .i64 av]
        replace kS := kS.alloc (.cells #[.int .i64 ak, .int .i64 ac, .int .i64 ao, .int .i64 av] 44)
        have HB := Lib.hid (And.intro (below_al hbl2 (.cells #[.int .i64 ak, .int .i64 ac, .int .i64 ao, .int .i64 av] 44)) (And.intro (kL2.alloc (.cells #[.int .i64 ak, .int .i64 ac, .int .i64 ao, .int .i64 av] 44)) (World.ownsRow.alloc hs2 (.cells #[.int .i64 ak, .int .i64 ac, .int .i64 ao, .int .i64 av] 44))))
        replace kL2 := kL2.alloc (.cells #[.int .i64 ak, .int .i64 ac, .int .i64 ao, .int .i64 av] 44)
        clear hbl2 hs2
        generalize w7.alloc (.cells #[.int .i64 ak, .int .i64 ac, .int .i64 ao, .int .i64 av] 44) = w8 at *
        generalize w7.heap.size = b9 at *
        have a0 := kA.cell 0
        have a1 := kA.cell 1
        have a2 := kA.cell 2
        have a3 := kA.cell 3
        have s2 := kS.cell 2
        have s4 := kS.cell 4
        have s12 := kS.cell 12
        have l4 := kL2.cell 4
        have l9 := kL2.cell 9
        have l10 := kL2.cell 10
        have l18 := kL2.cell 18
        have zA := kA.lt
        have zS := kS.lt
        have zL2 := kL2.lt
        simp at a0 a1 a2 a3 s2 s4 s12 l4 l9 l10 l18
        have HE : Hid (∀ (w' : World), w' = w8 → (∃ k' : Nat, k' = k + 1) → TRel w bL l (some ⟨gA, 0, none⟩) cap outs (.int .i64 ((k : Int) + 1)) w') := Lib.hid (fun w' hw _ => by
          subst hw
          exact ⟨k + 1, by omega, by go_num, HB.out.1, HB.out.2.1, HB.out.2.2⟩)
        clear kA kS kL2 HB
        have hok := HOK.out
        obtain ⟨⟨f0, f1, f2, f3⟩, f4, f5, f6, f7, f8, f9, f10, f11⟩ := hok
        have hsh := HSH.out
        clear HSH
        rcases hsh with hd | ⟨hd, hsh⟩
        · dsimp only at hd
          subst hd
          go_wp2_with fail
          exact ⟨HE.out _ rfl ⟨_, rfl⟩, by simp [intOf]; omega⟩
        · dsimp only at hd
          subst hd
          rcases hsh with ⟨hc, hk4⟩ | ⟨hc, hk4⟩ | ⟨t', i, e1, e2, e3, hS⟩
          · dsimp only at hc hk4
            subst hc hk4
            go_wp2_with fail
            exact ⟨HE.out _ rfl ⟨_, rfl⟩, by simp [intOf]; omega⟩
          · dsimp only at hc hk4
            subst hc hk4
            have e1 : (l.done == l.count) = false := by simpa using f9
            go_wp2_with fail
            exact ⟨HE.out _ rfl ⟨_, rfl⟩, by simp [intOf]; omega⟩
          · dsimp only at e3
            obtain ⟨kk, hkk⟩ : ∃ kk : Nat, ac - l.task = kk := ⟨(ac - l.task).toNat, by
              have : 0 ≤ i := by unfold ShapeT at hS; omega
              omega⟩
            have hi4 : 0 ≤ i ∧ i < 4 := by unfold ShapeT at hS; omega
            have e4 : (ac == l.count) = false := by simp; omega
            have e5 : (ac == l.done) = false := by simp; omega
            have hkt : (kk : Int) = (t' - 1) * 4 + i := by omega
            have g2 : decide (4 * l.c.tasks ≤ (kk : Int)) = false := by simp; omega
            have hacb : -100 ≤ ac ∧ ac ≤ 10000 := by omega
            have HK := Lib.hid hkt
            have g1 : decide ((kk : Int) < 0) = false := by simp
            clear e3 hkt
            go_upto_region 15 with fail
            clear e4 e5 g1 g2 hkk l4 l9 l10 l18 s12 a1 hacb
            unfold ShapeT at hS
            dsimp only at hS
            rcases hS with ⟨rfl, h⟩ | ⟨rfl, h, h2⟩ | ⟨h, rfl⟩ | ⟨h, h2, h3, rfl⟩ | ⟨h, h2, h3, h4, rfl, ht⟩ | ⟨rfl, ht⟩ | ⟨h, h2, h3, rfl, ht⟩ | ⟨rfl, ht⟩
            · have hkt := HK.out
              subst h
              have hmod : (kk : Int) % 4 = 1 := by omega
              have hdiv : (kk : Int) / 4 + 1 = t' := by omega
              clear hkt
              by_cases ho : t' = oa
              · subst ho
                go_wp2_with fail
                exact ⟨HE.out _ rfl ⟨_, rfl⟩, by simp [intOf]; omega⟩
              · have hbo : (t' == oa) = false := by simpa using ho
                clear ho
                go_wp2_with fail
                exact ⟨HE.out _ rfl ⟨_, rfl⟩, by simp [intOf]; omega⟩
            · have hkt := HK.out
              subst h h2
              have hmod : (kk : Int) % 4 = 1 := by omega
              have hdiv : (kk : Int) / 4 + 1 = t' := by omega
              clear hkt
              by_cases ho : t' = oa
              · subst ho
                go_wp2_with fail
                exact ⟨HE.out _ rfl ⟨_, rfl⟩, by simp [intOf]; omega⟩
              · have hbo : (t' == oa) = false := by simpa using ho
                clear ho
                go_wp2_with fail
                exact ⟨HE.out _ rfl ⟨_, rfl⟩, by simp [intOf]; omega⟩
            · have hkt := HK.out
              subst h
              have hmod : (kk : Int) % 4 = 3 := by omega
              have hdiv : (kk : Int) / 4 + 1 = t' := by omega
              clear hkt
              by_cases ho : t' = oa
              · subst ho
                go_wp2_with fail
                exact ⟨HE.out _ rfl ⟨_, rfl⟩, by simp [intOf]; omega⟩
              · have hbo : (t' == oa) = false := by simpa using ho
                clear ho
                go_wp2_with fail
                exact ⟨HE.out _ rfl ⟨_, rfl⟩, by simp [intOf]; omega⟩
            · have hkt := HK.out
              subst h h2 h3
              have hmod : (kk : Int) % 4 = 0 := by omega
              have hdiv : (kk : Int) / 4 + 1 = t' := by omega
              clear hkt
              by_cases ho : t' = oa
              · subst ho
                go_wp2_with fail
                exact ⟨HE.out _ rfl ⟨_, rfl⟩, by simp [intOf]; omega⟩
              · have hbo : (t' == oa) = false := by simpa using ho
                clear ho
                go_wp2_with fail
                exact ⟨HE.out _ rfl ⟨_, rfl⟩, by simp [intOf]; omega⟩
            · have hkt := HK.out
              subst h h2 h3 h4
              subst ht
              have hmod : (kk : Int) % 4 = 0 := by omega
              have hdiv : (kk : Int) / 4 + 1 = t' := by omega
              clear hkt
              go_wp2_with fail
              exact ⟨HE.out _ rfl ⟨_, rfl⟩, by simp [intOf]; omega⟩
            · have hkt := HK.out
              subst ht
              have hmod : (kk : Int) % 4 = 2 := by omega
              have hdiv : (kk : Int) / 4 + 1 = t' := by omega
              clear hkt
              go_wp2_with fail
              exact ⟨HE.out _ rfl ⟨_, rfl⟩, by simp [intOf]; omega⟩
            · have hkt := HK.out
              subst h h2 h3
              subst ht
              have hmod : (kk : Int) % 4 = 0 := by omega
              have hdiv : (kk : Int) / 4 + 1 = t' := by omega
              clear hkt
              go_wp2_with fail
              exact ⟨HE.out _ rfl ⟨_, rfl⟩, by simp [intOf]; omega⟩
            · have hkt := HK.out
              subst ht
              have hmod : (kk : Int) % 4 = 3 := by omega
              have hdiv : (kk : Int) / 4 + 1 = t' := by omega
              clear hkt
              go_wp2_with fail
              exact ⟨HE.out _ rfl ⟨_, rfl⟩, by simp [intOf]; omega⟩
      · have i1 : decide ((k : Int) < outs.length) = false := by simp; omega
        have i2 : decide (k < outs.length) = false := by simp; omega
        go_wp2
        go_ret
        exact ⟨rfl, hbl⟩
end Go.Proofs.Ytcjaomiihajjbaa
