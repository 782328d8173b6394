/- era.Next, and what recovers. Printed by next_gen.py. -/
import Derived.Test.YtgjdjgainjedhaaEMy
namespace Go.Proofs.Ytgjdjgainjedhaa
open Go.RowKit
set_option linter.unusedVariables false
attribute [local go_sem ↓] Go.wp_at_zero Go.wp_at_succ

theorem enext_put {R : Ending → World → Prop} {K : Act → World → Prop} {c : List PanicEntry} {a : Act} {w : World} {d : Nat} {v : Value} (hd : d ≠ 10 ∧ d ≠ 11 ∧ d ≠ 12) (h : Exit.then K (bodyPostD Try.prog Try.f17 R) (Exit.panic c) (a.put (some d) v) w) : Exit.then K (bodyPostD Try.prog Try.f17 R) (Exit.panic c) a w := by
  have hres : results Try.f17 (a.put (some d) v).tmps = results Try.f17 a.tmps := by
    have hr : Try.f17.results = #[.cell 10 61, .cell 11 63, .cell 12 4] := Try.results17
    simp [results, Act.put, Array.getElem?_setIfInBounds, hd.1, hd.2.1, hd.2.2]
  exact leaves_congr hres _ _ _ h
def ECatchPost (k c o v : Int) (ga go gb : Nat) (w : World) (e : Ending) (u' : FrameMode) (w' : World) : Prop :=
  e = .returned (.tuple #[]) ∧ u' = .panicking [{ v := askE k c o v, recovered := true }] ∧ Bk w' ga 61 (accC k c o v) ∧ Bk w' go 63 outZ ∧ Bk w' gb 4 #[.bool false] ∧ ∀ a : World, a.heap.size ≤ ga → a.heap.size ≤ go → a.heap.size ≤ gb → Below a.heap.size a w → Below a.heap.size a w'
set_option maxRecDepth 100000 in
set_option maxHeartbeats 2000000 in
theorem ecatch_idle (ga go gb : Nat) (w : World) :
    CallsD Try.prog 31 #[ptr ga, ptr go, ptr gb] .returning w fun e u' w' => e = .returned (.tuple #[]) ∧ u' = .returning ∧ w' = w := by
  refine callsD_of_wpS Try.func31 rfl fun c₀ cs hu => ?_
  apply wpS_seq
  apply wpS_region
  simp [wpOpsS, go_sem, recoverD, hu, Try.ntmps31, Exit.thenS]
  refine wpS_of_wp ?_
  have hn : ∀ w : World, (binOp .neq 20 .nilIface .nilIface).run Try.prog w = .ok (.bool false) w := fun _ => by kernel_rfl
  have heq : ∀ w : World, (eqGuard .neq 20 (.tmp 7) (.const .nilIface) .nilIface .nilIface).run Try.prog w = .ok () w := fun _ => by kernel_rfl
  have hfr : (#[ptr ga, ptr go, ptr gb] ++ ((Array.replicate 17 undef).setIfInBounds 3 .nilIface).setIfInBounds 0 .nilIface) = #[ptr ga, ptr go, ptr gb, .nilIface, undef, undef, .nilIface, undef, undef, undef, undef, undef, undef, undef, undef, undef, undef, undef, undef, undef] := by kernel_rfl
  rw [hfr]
  clear hfr
  go_wp2
  cases c₀
  simp only at hu
  subst hu
  exact ⟨rfl, _, rfl, _, results_none rfl _ _ _, rfl, rfl, rfl⟩
set_option maxRecDepth 100000 in
set_option maxHeartbeats 2000000 in
theorem ecatch_asked (k c o v : Int) (ga go gb : Nat) (w : World) (ka : Bk w ga 61 accZ) (ko : Bk w go 63 outZ) (kb : Bk w gb 4 #[.bool false]) (hne : ga < go ∧ go < gb) :
    CallsD Try.prog 31 #[ptr ga, ptr go, ptr gb] (.panicking [{ v := askE k c o v, recovered := false }]) w (ECatchPost k c o v ga go gb w) := by
  refine callsD_of_wpS Try.func31 rfl fun c₀ cs hu => ?_
  apply wpS_seq
  apply wpS_region
  simp [wpOpsS, go_sem, recoverD, hu, Try.ntmps31, Exit.thenS]
  refine wpS_of_wp ?_
  have hn : ∀ w : World, (binOp .neq 20 (askE k c o v) .nilIface).run Try.prog w = .ok (.bool true) w := fun _ => by kernel_rfl
  have heq : ∀ w : World, (eqGuard .neq 20 (.tmp 7) (.const .nilIface) (askE k c o v) .nilIface).run Try.prog w = .ok () w := fun _ => by kernel_rfl
  have hfr : (#[ptr ga, ptr go, ptr gb] ++ ((Array.replicate 17 undef).setIfInBounds 3 (askE k c o v)).setIfInBounds 0 (askE k c o v)) = #[ptr ga, ptr go, ptr gb, askE k c o v, undef, undef, askE k c o v, undef, undef, undef, undef, undef, undef, undef, undef, undef, undef, undef, undef, undef] := by kernel_rfl
  rw [hfr]
  clear hfr
  have hta : ∀ w : World, (Instr.typeAssert (askE k c o v) 20 89 true).run Try.prog w = .ok (.tuple #[.agg (accC k c o v), .bool true]) w := fun _ => by kernel_rfl
  have l0 := ka.lt
  have l1 := ko.lt
  have l2 := kb.lt
  have kx := Bk.made w 89 (accC k c o v)
  have ka1 := ka.alloc (.cells (accC k c o v) 89)
  have ko1 := ko.alloc (.cells (accC k c o v) 89)
  have kb1 := kb.alloc (.cells (accC k c o v) 89)
  have hbz : ∀ a : World, Below a.heap.size a w → Below a.heap.size a (w.alloc (.cells (accC k c o v) 89)) := fun a ha => below_al ha _
  go_upto_region 5 with (refine wpList_store_new rfl 89 (.tmp 4) (.tmp 12) rfl rfl w.heap.size _ _ (accC k c o v) rfl rfl rfl rfl (by kernel_rfl) rfl (by simp [Value.oneCell']) ?_)
  generalize w.alloc (.cells (accC k c o v) 89) = w1 at *
  generalize w.heap.size = gx at *
  have ka2 : Bk (w1.setRow ga (accC k c o v)) ga 61 (accC k c o v) := setRow_heap _ _ accZ (accC k c o v) 61 (0, 0) ka1
  have ko2 : Bk (w1.setRow ga (accC k c o v)) go 63 outZ := (setRow_other _ _ _ _ (by omega)).trans ko1
  have kb2 : Bk (w1.setRow ga (accC k c o v)) gb 4 #[.bool false] := (setRow_other _ _ _ _ (by omega)).trans kb1
  have ko3 : Bk ((w1.setRow ga (accC k c o v)).setRow go outZ) go 63 outZ := setRow_heap _ _ outZ outZ 63 (0, 0) ko2
  have ka3 : Bk ((w1.setRow ga (accC k c o v)).setRow go outZ) ga 61 (accC k c o v) := (setRow_other _ _ _ _ (by omega)).trans ka2
  have kb3 : Bk ((w1.setRow ga (accC k c o v)).setRow go outZ) gb 4 #[.bool false] := (setRow_other _ _ _ _ (by omega)).trans kb2
  have q0 := kb3.cell 0
  have f0 := kb3.free 0
  have l3 := kb3.lt
  simp at q0
  go_wp2_with (first
    | (refine wpList_load_row rfl 61 (.tmp 17) rfl gx rfl 89 (accC k c o v) (0, 0) _ kx Try.underlying61 rfl (by kernel_rfl) ?_)
    | (refine wpList_store_rowTo rfl 61 (.tmp 0) (.tmp 18) rfl rfl ga (accC k c o v) rfl rfl 61 accZ ka1 (by kernel_rfl) rfl (by simp [Value.oneCell']) ?_)
    | (refine wpList_store_rowTo rfl 63 (.tmp 1) (.tmp 19) rfl rfl go outZ rfl rfl 63 outZ ko2 (by kernel_rfl) rfl (by simp [Value.oneCell']) ?_))
  refine ⟨rfl, _, rfl, _, results_none rfl _ _ _, rfl, rfl, ka3.other (p := ⟨gb, 0, none⟩) (by dsimp only; omega) _, ko3.other (p := ⟨gb, 0, none⟩) (by dsimp only; omega) _, kb3.stored 0 (.bool false), fun a h1 h2 h3 ha => ?_⟩
  exact below_set (below_setRow (below_setRow (hbz a ha) h1 _) h2 _) (p := ⟨gb, 0, none⟩) h3 _
def ENextPost (r : AnsE) (w : World) (e : Ending) (w' : World) : Prop :=
  match r with
  | .ask k c o v => e = .returned (.tuple #[.agg (accC k c o v), .agg outZ, .bool false]) ∧ Below w.heap.size w w'
  | .out val is err point g => ∃ G n c, n = g.length ∧ NilOk G n c ∧ PairRow w' G g ∧ e = .returned (.tuple #[.agg accZ, .agg (outG val is err point (.slice G n c)), .bool true]) ∧ Below w.heap.size w w'
set_option maxRecDepth 100000 in
set_option maxHeartbeats 8000000 in
theorem enext_any (l : Ly) (me : Int) (op : Opr) (G : Option Addr) (gn gc : Nat) (g : Gone) (A : Option Addr) (cap : Nat) (log : Log) (w : World) (f : LyFull l) (hse : 1 ≤ l.c.seats ∧ l.c.seats ≤ 8) (hno : l.c.nodes ≤ 1000) (hgn : gn = g.length) (hgA : NilOk G gn gc) (hg : SlGone w w.heap.size G g) (hgm : g.length ≤ 900) (hgb : ∀ x ∈ g, x.1 ≤ 1000000) (hs : SlRes w w.heap.size A log) (hl : log.length ≤ 1000) :
    Calls Try.prog 17 #[lyV l, .int .i64 me, .slice G gn gc, .agg (oprC op), .slice A log.length cap] w (ENextPost (eraR l me op g log) w) := by
  have HG := Lib.hid (And.intro hg (And.intro hgn (And.intro hgA (And.intro hgb (And.intro hse hno)))))
  clear hg hgn hgA hgb hse hno
  have hmf : ∀ (fn : Fn) (first cap : Array Value) (w : World), (Instr.makeFunc fn first cap).run Try.prog w = .ok (.func fn first cap) w := fun _ _ _ _ => rfl
  have k0 := ((((Bk.made w 40 (lyC l)).alloc (.cells (oprC op) 46)).alloc (.cells accZ 61)).alloc (.cells outZ 63)).alloc (.cells #[.bool false] 4)
  have k1 := (((Bk.new (w.alloc (.cells (lyC l) 40)) (g := w.heap.size + 1) (by simp) 46 (oprC op)).alloc (.cells accZ 61)).alloc (.cells outZ 63)).alloc (.cells #[.bool false] 4)
  have k2 := ((Bk.new ((w.alloc (.cells (lyC l) 40)).alloc (.cells (oprC op) 46)) (g := w.heap.size + 1 + 1) (by simp) 61 accZ).alloc (.cells outZ 63)).alloc (.cells #[.bool false] 4)
  have k3 := (Bk.new (((w.alloc (.cells (lyC l) 40)).alloc (.cells (oprC op) 46)).alloc (.cells accZ 61)) (g := w.heap.size + 1 + 1 + 1) (by simp) 63 outZ).alloc (.cells #[.bool false] 4)
  have k4 := Bk.new ((((w.alloc (.cells (lyC l) 40)).alloc (.cells (oprC op) 46)).alloc (.cells accZ 61)).alloc (.cells outZ 63)) (g := w.heap.size + 1 + 1 + 1 + 1) (by simp) 4 #[.bool false]
  have hbl := below_al (below_al (below_al (below_al (below_al (Below.refl w.heap.size w) (.cells (lyC l) 40)) (.cells (oprC op) 46)) (.cells accZ 61)) (.cells outZ 63)) (.cells #[.bool false] 4)
  go_enter_defers Try.func17, Try.ntmps17
  go_upto_region 2 with fail
  generalize ((((w.alloc (.cells (lyC l) 40)).alloc (.cells (oprC op) 46)).alloc (.cells accZ 61)).alloc (.cells outZ 63)).alloc (.cells #[.bool false] 4) = w8 at *
  obtain ⟨b0, hb0⟩ : ∃ g, w.heap.size = g := ⟨_, rfl⟩
  obtain ⟨b1, hb1⟩ : ∃ g, w.heap.size + 1 = g := ⟨_, rfl⟩
  obtain ⟨b2, hb2⟩ : ∃ g, w.heap.size + 1 + 1 = g := ⟨_, rfl⟩
  obtain ⟨b3, hb3⟩ : ∃ g, w.heap.size + 1 + 1 + 1 = g := ⟨_, rfl⟩
  obtain ⟨b4, hb4⟩ : ∃ g, w.heap.size + 1 + 1 + 1 + 1 = g := ⟨_, rfl⟩
  rw [hb4] at k4 ⊢
  rw [hb3] at k3 ⊢
  rw [hb2] at k2 ⊢
  rw [hb1] at k1 ⊢
  rw [hb0] at k0 ⊢
  have n0 : w.heap.size ≤ b0 := by omega
  have n1 : w.heap.size ≤ b1 := by omega
  have n2 : w.heap.size ≤ b2 := by omega
  have n3 : w.heap.size ≤ b3 := by omega
  have n4 : w.heap.size ≤ b4 := by omega
  have hch : b0 < b1 ∧ b1 < b2 ∧ b2 < b3 ∧ b3 < b4 := by omega
  clear hb0 hb1 hb2 hb3 hb4
  have HSL := Lib.hid hs
  have HF := Lib.hid f
  clear hs f
  refine wp_region_E (S := fun w' => Bk w' b0 40 (lyC l)) (E := fun _ => false) (by kernel_rfl) ?_
  replace k0 := k0.drew
  replace k1 := k1.drew
  replace k2 := k2.drew
  replace k3 := k3.drew
  replace k4 := k4.drew
  replace hbl := hbl.drew
  generalize w8.drew = w10 at *
  refine wpAnyE_take (i := 0) (oi := _) (v := .agg (lyC l)) rfl (by kernel_rfl) (by kernel_rfl) (by kernel_rfl) (by kernel_rfl) (fun _ _ _ h => enext_put (by omega) h) (Or.inl ⟨by rfl, ?_⟩) k0 ?_
  · intro w' hSw
    (try simp only [List.getElem_toArray, List.getElem_cons_zero])
    simp only [execOp, Instr.loadAt, Instr.sureAddr, Sem.run_bind, Sem.run_pure]
    rw [show (Act.eval _ (Operand.tmp 5)) = Value.pointer (some ⟨b0, 0, none⟩) from rfl]
    simp only [Sem.run_pure, Result.andThen_ok, run_loadVar_row w' b0 40 40 (lyC l) (0, 0) _ hSw Try.underlying40 rfl (by kernel_rfl)]
  (try simp only [List.getElem_toArray, List.getElem_cons_zero, Act.put, List.setIfInBounds_toArray, List.set_cons_zero, List.set_cons_succ])
  refine wpAnyE_take (i := 1) (oi := _) (v := .int .i64 me) rfl (by kernel_rfl) (by kernel_rfl) (by kernel_rfl) (by kernel_rfl) (fun _ _ _ h => enext_put (by omega) h) (Or.inl ⟨by rfl, ?_⟩) k0 ?_
  · intro w' hSw
    (try simp only [List.getElem_toArray, List.getElem_cons_succ, List.getElem_cons_zero])
    go_simp
  (try simp only [List.getElem_toArray, List.getElem_cons_succ, List.getElem_cons_zero, Act.put, List.setIfInBounds_toArray, List.set_cons_zero, List.set_cons_succ])
  refine wpAnyE_take (i := 2) (oi := _) (v := .slice G gn gc) rfl (by kernel_rfl) (by kernel_rfl) (by kernel_rfl) (by kernel_rfl) (fun _ _ _ h => enext_put (by omega) h) (Or.inl ⟨by rfl, ?_⟩) k0 ?_
  · intro w' hSw
    (try simp only [List.getElem_toArray, List.getElem_cons_succ, List.getElem_cons_zero])
    go_simp
  (try simp only [List.getElem_toArray, List.getElem_cons_succ, List.getElem_cons_zero, Act.put, List.setIfInBounds_toArray, List.set_cons_zero, List.set_cons_succ])
  refine wpAnyE_take (i := 4) (oi := _) (v := .slice A log.length cap) rfl (by kernel_rfl) (by kernel_rfl) (by kernel_rfl) (by kernel_rfl) (fun _ _ _ h => enext_put (by omega) h) (Or.inl ⟨by rfl, ?_⟩) k0 ?_
  · intro w' hSw
    (try simp only [List.getElem_toArray, List.getElem_cons_succ, List.getElem_cons_zero])
    go_simp
  (try simp only [List.getElem_toArray, List.getElem_cons_succ, List.getElem_cons_zero, Act.put, List.setIfInBounds_toArray, List.set_cons_zero, List.set_cons_succ])
  refine wpAnyE_one (i := 3) (o := _) (by kernel_rfl) rfl (fun K hK => ?_)
  (try simp only [List.getElem_toArray, List.getElem_cons_succ, List.getElem_cons_zero])
  go_simp
  (with_reducible refine (cloneg_any G gn gc g _ HG.out.2.1 HG.out.2.2.1 ((HG.out.1.below hbl).more hbl.size) (by omega)).mono ?_)
  rintro e w11 ⟨G1, m1, c1, rfl, hm1, hni1, hown1, hb⟩
  have hown1b : OwnGone w11 w.heap.size (.slice G1 m1 c1) g := own_lower hown1 hbl.size
  replace k0 := k0.keep hb
  replace k1 := k1.keep hb
  replace k2 := k2.keep hb
  replace k3 := k3.keep hb
  replace k4 := k4.keep hb
  replace hbl := below_tr hbl hb
  have HM := Lib.hid (And.intro hm1 hni1)
  clear hb hm1 hni1 hown1
  refine hK.out _ _ (fun _ => k0) ?_
  clear hK K
  (try simp only [List.getElem_toArray, List.getElem_cons_succ, List.getElem_cons_zero, Act.put, List.setIfInBounds_toArray, List.set_cons_zero, List.set_cons_succ])
  refine wpAnyE_take (i := 5) (oi := _) (v := .agg (progE ⟨l, me, cap⟩ A (.slice G1 m1 c1) log.length 0)) rfl (by kernel_rfl) (by kernel_rfl) (by kernel_rfl) (by kernel_rfl) (fun _ _ _ h => enext_put (by omega) h) (Or.inl ⟨by rfl, ?_⟩) k0 ?_
  · intro w' hSw
    (try simp only [List.getElem_toArray, List.getElem_cons_succ, List.getElem_cons_zero])
    go_simp
  (try simp only [List.getElem_toArray, List.getElem_cons_succ, List.getElem_cons_zero, Act.put, List.setIfInBounds_toArray, List.set_cons_zero, List.set_cons_succ])
  refine wpAnyE_one (i := 6) (o := _) (by kernel_rfl) rfl (fun K hK => ?_)
  (try simp only [List.getElem_toArray, List.getElem_cons_succ, List.getElem_cons_zero])
  go_simp
  have kp := Bk.made w11 94 (progE ⟨l, me, cap⟩ A (.slice G1 m1 c1) log.length 0)
  have l4 := k4.lt
  have zp : w.heap.size ≤ w11.heap.size := hbl.size
  have hal := below_al (Below.refl w11.heap.size w11) (.cells (progE ⟨l, me, cap⟩ A (.slice G1 m1 c1) log.length 0) 94)
  have hown2 : OwnGone (w11.alloc (.cells (progE ⟨l, me, cap⟩ A (.slice G1 m1 c1) log.length 0) 94)) w.heap.size (.slice G1 m1 c1) g := own_keepb' (show World.ownsRow w11 w.heap.size 51 2 (.slice G1 m1 c1) g.length (pairCells g) from hown1b) hal
  replace k0 := k0.keep hal
  replace k1 := k1.keep hal
  replace k2 := k2.keep hal
  replace k3 := k3.keep hal
  replace k4 := k4.keep hal
  replace hbl := below_tr hbl hal
  clear hal hown1b
  obtain ⟨gp, hgp⟩ : ∃ g, w11.heap.size = g := ⟨_, rfl⟩
  have hbg : b4 < gp := by omega
  have zp' : w.heap.size ≤ gp := by omega
  rw [hgp] at kp
  rw [hgp]
  have hp : PeSt (w11.alloc (.cells (progE ⟨l, me, cap⟩ A (.slice G1 m1 c1) log.length 0) 94)) w.heap.size gp ⟨l, me, cap⟩ A (.slice G1 m1 c1) 0 log := ⟨kp, HSL.out.below hbl, zp', hl⟩
  clear hgp kp l4
  refine hK.out _ _ (fun _ => k0) ?_
  clear hK K
  (try simp only [List.getElem_toArray, List.getElem_cons_succ, List.getElem_cons_zero, Act.put, List.setIfInBounds_toArray, List.set_cons_zero, List.set_cons_succ])
  generalize w11.alloc (.cells (progE ⟨l, me, cap⟩ A (.slice G1 m1 c1) log.length 0) 94) = w9 at *
  refine wpAnyE_take (i := 7) (oi := _) (v := ptr gp) rfl (by kernel_rfl) (by kernel_rfl) (by kernel_rfl) (by kernel_rfl) (fun _ _ _ h => enext_put (by omega) h) (Or.inl ⟨by rfl, ?_⟩) k0 ?_
  · intro w' hSw
    (try simp only [List.getElem_toArray, List.getElem_cons_succ, List.getElem_cons_zero])
    go_simp
  (try simp only [List.getElem_toArray, List.getElem_cons_succ, List.getElem_cons_zero, Act.put, List.setIfInBounds_toArray, List.set_cons_zero, List.set_cons_succ])
  refine wpAnyE_done (by kernel_rfl) ?_ _
  go_wp2_with (first
    | (refine wpList_load_row rfl 40 (.tmp 5) rfl b0 rfl 40 (lyC l) (0, 0) _ k0 Try.underlying40 rfl (by kernel_rfl) ?_)
    | (refine wpList_load_row rfl 46 (.tmp 8) rfl b1 rfl 46 (oprC op) (0, 0) _ k1 Try.underlying46 rfl (by kernel_rfl) ?_))
  (with_reducible refine (may_any l op _).mono ?_)
  rintro e w12 ⟨rfl, hb⟩
  replace hp := hp.keep hb
  have hown3 := own_keepb' (show World.ownsRow w9 w.heap.size 51 2 (.slice G1 m1 c1) g.length (pairCells g) from hown2) hb
  clear hown2
  have hown2 : OwnGone w12 w.heap.size (.slice G1 m1 c1) g := hown3
  clear hown3
  replace k0 := k0.keep hb
  replace k1 := k1.keep hb
  replace k2 := k2.keep hb
  replace k3 := k3.keep hb
  replace k4 := k4.keep hb
  replace hbl := below_tr hbl hb
  clear hb
  have y0 := k1.cell 0
  have y2 := k1.cell 2
  have y3 := k1.cell 3
  have l1 := k1.lt
  simp at y0 y2 y3
  cases hmay : mayE l op with
  | false =>
    have HNX := Lib.hid (show eraR l me op g log = .out 0 false 1 (-1) g by
      have h0 : ∀ L : Log, ef l op.a g .no L = .no := fun L => by induction L with
        | nil => rfl
        | cons x r ih => exact ih
      show (ef l op.a g (startE l op) log).ans l me op g = _
      unfold startE
      rw [hmay, if_neg Bool.false_ne_true, h0]
      rfl)
    have hga : PairRow w12 G1 g := own_pairRow hown2 HM.out.1
    have kp := hp.kp
    clear hp hown2 y0 y2 y3 l1 k0 k1 hmay
    replace hga := hga.row (cs := (outC 0 false 1 (-1))) k3 (by decide)
    replace kp := (setRow_other w12 b3 gp (outC 0 false 1 (-1)) (by omega)).trans kp
    have a3 : Bk (w12.setRow b3 (outC 0 false 1 (-1))) b3 63 (outC 0 false 1 (-1)) := setRow_heap _ _ outZ (outC 0 false 1 (-1)) 63 (0, 0) k3
    have a2 : Bk (w12.setRow b3 (outC 0 false 1 (-1))) b2 61 accZ := (setRow_other _ _ _ _ (by omega)).trans k2
    have a4 : Bk (w12.setRow b3 (outC 0 false 1 (-1))) b4 4 #[.bool false] := (setRow_other _ _ _ _ (by omega)).trans k4
    replace hbl := below_setRow hbl n3 (outC 0 false 1 (-1))
    go_upto_region 10 with (refine wpList_store_rowTo rfl 63 (.tmp 11) (.tmp 31) rfl rfl b3 (outC 0 false 1 (-1)) rfl rfl 63 outZ k3 (by kernel_rfl) rfl (by simp [Value.oneCell']) ?_)
    clear k2 k3 k4
    have HM2 := HM
    replace kp : Bk (w12.setRow b3 (outC 0 false 1 (-1))) gp 94 (progE ⟨l, me, cap⟩ A (.slice G1 m1 c1) log.length 0) := kp
    generalize w12.setRow b3 (outC 0 false 1 (-1)) = w14 at *
    have q4 := a3.cell 4
    have f4 := a3.free 4
    have l4 := a3.lt
    have c26 := kp.cell 26
    have lp := kp.lt
    simp at q4 c26
    go_upto_region 11 with fail
    clear q4 f4 l4 c26 lp kp
    replace hga := hga.set (i := 4) (u := (.slice G1 m1 c1)) a3 (by decide)
    replace a3 : Bk (w14.setCell ⟨b3, 4, none⟩ (.slice G1 m1 c1)) b3 63 (outG 0 false 1 (-1) (.slice G1 m1 c1)) := a3.stored 4 (.slice G1 m1 c1)
    replace a2 := a2.other (p := ⟨b3, 4, none⟩) (by dsimp only; omega) (.slice G1 m1 c1)
    replace a4 := a4.other (p := ⟨b3, 4, none⟩) (by dsimp only; omega) (.slice G1 m1 c1)
    replace hbl := below_set hbl (p := ⟨b3, 4, none⟩) n3 (.slice G1 m1 c1)
    generalize w14.setCell ⟨b3, 4, none⟩ (.slice G1 m1 c1) = w16 at *
    refine wp_region_E (S := fun w' => Bk w' b3 63 (outG 0 false 1 (-1) (.slice G1 m1 c1))) (E := fun _ => false) (by kernel_rfl) ?_
    replace a2 := a2.drew
    replace a3 := a3.drew
    replace a4 := a4.drew
    replace hbl := hbl.drew
    replace hga := hga.keep (below_drew' (Below.refl _ _))
    generalize w16.drew = w17 at *
    refine wpAnyE_take (i := 0) (oi := _) (v := .agg accZ) rfl (by kernel_rfl) (by kernel_rfl) (by kernel_rfl) (by kernel_rfl) (fun _ _ _ h => enext_put (by omega) h) (Or.inl ⟨by rfl, ?_⟩) a3 ?_
    · intro w' hSw
      (try simp only [List.getElem_toArray, List.getElem_cons_zero])
      go_simp
    (try simp only [List.getElem_toArray, List.getElem_cons_zero, Act.put, List.setIfInBounds_toArray, List.set_cons_zero, List.set_cons_succ])
    refine wpAnyE_take (i := 1) (oi := _) (v := .agg (outG 0 false 1 (-1) (.slice G1 m1 c1))) rfl (by kernel_rfl) (by kernel_rfl) (by kernel_rfl) (by kernel_rfl) (fun _ _ _ h => enext_put (by omega) h) (Or.inl ⟨by rfl, ?_⟩) a3 ?_
    · intro w' hSw
      (try simp only [List.getElem_toArray, List.getElem_cons_succ, List.getElem_cons_zero])
      simp only [execOp, Instr.loadAt, Instr.sureAddr, Sem.run_bind, Sem.run_pure]
      rw [show (Act.eval _ (Operand.tmp 11)) = Value.pointer (some ⟨b3, 0, none⟩) from rfl]
      simp only [Sem.run_pure, Result.andThen_ok, run_loadVar_row w' b3 63 63 (outG 0 false 1 (-1) (.slice G1 m1 c1)) (0, 0) _ hSw Try.underlying63 rfl (by kernel_rfl)]
    (try simp only [List.getElem_toArray, List.getElem_cons_succ, List.getElem_cons_zero, Act.put, List.setIfInBounds_toArray, List.set_cons_zero, List.set_cons_succ])
    refine wpAnyE_one (i := 2) (o := _) (by kernel_rfl) rfl (fun K hK => ?_)
    rw [if_pos (by rfl)]
    refine wp_store_row 61 (.tmp 10) (.tmp 53) rfl b2 accZ rfl rfl 61 accZ a2 (by kernel_rfl) rfl (by simp [Value.oneCell']) ?_
    replace hga := hga.row (cs := accZ) a2 (by decide)
    have c2 : Bk (w17.setRow b2 accZ) b2 61 accZ := setRow_heap _ _ accZ accZ 61 (0, 0) a2
    replace a3 : Bk (w17.setRow b2 accZ) b3 63 (outG 0 false 1 (-1) (.slice G1 m1 c1)) := (setRow_other _ _ _ _ (by omega)).trans a3
    replace a4 : Bk (w17.setRow b2 accZ) b4 4 #[.bool false] := (setRow_other _ _ _ _ (by omega)).trans a4
    replace hbl := below_setRow hbl n2 accZ
    refine hK.out _ _ (fun _ => a3) ?_
    clear hK K a2
    (try simp only [List.getElem_toArray, List.getElem_cons_succ, List.getElem_cons_zero, Act.put])
    generalize w17.setRow b2 accZ = w18 at *
    refine wpAnyE_one (i := 3) (o := _) (by kernel_rfl) rfl (fun K hK => ?_)
    rw [if_pos (by rfl)]
    refine wp_store_row 63 (.tmp 11) (.tmp 54) rfl b3 (outG 0 false 1 (-1) (.slice G1 m1 c1)) rfl rfl 63 (outG 0 false 1 (-1) (.slice G1 m1 c1)) a3 (by kernel_rfl) rfl (by simp [Value.oneCell']) ?_
    replace hga := hga.row (cs := (outG 0 false 1 (-1) (.slice G1 m1 c1))) a3 (by decide)
    have c3 : Bk (w18.setRow b3 (outG 0 false 1 (-1) (.slice G1 m1 c1))) b3 63 (outG 0 false 1 (-1) (.slice G1 m1 c1)) := setRow_heap _ _ (outG 0 false 1 (-1) (.slice G1 m1 c1)) (outG 0 false 1 (-1) (.slice G1 m1 c1)) 63 (0, 0) a3
    replace c2 : Bk (w18.setRow b3 (outG 0 false 1 (-1) (.slice G1 m1 c1))) b2 61 accZ := (setRow_other _ _ _ _ (by omega)).trans c2
    replace a4 : Bk (w18.setRow b3 (outG 0 false 1 (-1) (.slice G1 m1 c1))) b4 4 #[.bool false] := (setRow_other _ _ _ _ (by omega)).trans a4
    replace hbl := below_setRow hbl n3 (outG 0 false 1 (-1) (.slice G1 m1 c1))
    refine hK.out _ _ (fun _ => c3) ?_
    clear hK K a3
    (try simp only [List.getElem_toArray, List.getElem_cons_succ, List.getElem_cons_zero, Act.put])
    generalize w18.setRow b3 (outG 0 false 1 (-1) (.slice G1 m1 c1)) = w19 at *
    have q6 := a4.cell 0
    have f6 := a4.free 0
    have l6 := a4.lt
    simp at q6
    refine wpAnyE_one (i := 4) (o := _) (by kernel_rfl) rfl (fun K hK => ?_)
    (try simp only [List.getElem_toArray, List.getElem_cons_succ, List.getElem_cons_zero])
    go_simp
    clear q6 f6 l6
    replace hga := hga.set (i := 0) (u := (.bool true)) a4 (by decide)
    replace a4 : Bk (w19.setCell ⟨b4, 0, none⟩ (.bool true)) b4 4 #[.bool true] := a4.stored 0 (.bool true)
    replace c2 := c2.other (p := ⟨b4, 0, none⟩) (by dsimp only; omega) (.bool true)
    replace c3 := c3.other (p := ⟨b4, 0, none⟩) (by dsimp only; omega) (.bool true)
    replace hbl := below_set hbl (p := ⟨b4, 0, none⟩) n4 (.bool true)
    refine hK.out _ _ (fun _ => c3) ?_
    clear hK K
    (try simp only [List.getElem_toArray, List.getElem_cons_succ, List.getElem_cons_zero, Act.put, List.setIfInBounds_toArray, List.set_cons_zero, List.set_cons_succ])
    generalize w19.setCell ⟨b4, 0, none⟩ (.bool true) = w20 at *
    refine wpAnyE_done (by kernel_rfl) ?_ _
    go_wp2
    refine leaves_cons (f := 31) (args := #[ptr b2, ptr b3, ptr b4]) (by simp) (by simp [go_sem]) ?_
    refine (ecatch_idle b2 b3 b4 _).mono ?_
    rintro e u' w21 ⟨rfl, rfl, rfl⟩
    refine ⟨_, results_ccc (p := 10) (q := 11) (t := 12) (t1 := 61) (t2 := 63) (t3 := 4) rfl _ _ b2 b3 b4 accZ (outG 0 false 1 (-1) (.slice G1 m1 c1)) (0, 0) (0, 0) _ _ _ rfl rfl rfl c2 c3 Try.underlying61 rfl (by kernel_rfl) Try.underlying63 rfl (by kernel_rfl) (load_bool _ b4 true a4), ?_⟩
    rw [HNX.out]
    exact ⟨G1, m1, c1, HM2.out.1, HM2.out.2, hga, rfl, hbl⟩
  | true =>
    have hst1 := HG.out.2.2.2.2.1
    by_cases hk1 : op.kind = 1
    · have HNX := Lib.hid (show eraR l me op g log = (ef l op.a g (.gu 0 0) log).ans l me op g by
        show (ef l op.a g (startE l op) log).ans l me op g = _
        unfold startE
        rw [hmay, if_pos rfl, if_pos hk1])
      have ha3 : op.a ≤ 9223372036854775807 := by
        unfold mayE at hmay
        rw [if_pos hk1] at hmay
        simp at hmay
        omega
      rw [hk1] at y0
      clear hk1 hmay
      go_upto_region 7 with fail
      go_wp2_with fail
      (with_reducible refine (guard_any (op := op) hp HM.out (own_pairRow hown2 HM.out.1) HF.out ha3).mono ?_)
      clear y0 y2 y3 l1
      intro e w13 hpost0
      have hpost : EqPost w.heap.size gp ⟨l, me, cap⟩ A log ((ef l op.a g (.gu 0 0) log).ans l me op g) w12 e w13 := hpost0.eq zp' hbl.size
      clear hpost0
      rw [← HNX.out] at hpost
      clear hp hown2 k0 k1
      obtain ⟨ans, hans⟩ : ∃ a, eraR l me op g log = a := ⟨_, rfl⟩
      rw [hans] at hpost
      have HNX2 := Lib.hid hans
      clear hans
      cases ans with
      | ask k c o v =>
        obtain ⟨rfl, hst⟩ := hpost
        replace k2 := hst.oth _ _ _ (by omega) (by decide) k2
        replace k3 := hst.oth _ _ _ (by omega) (by decide) k3
        replace k4 := hst.oth _ _ _ (by omega) (by decide) k4
        replace hbl := hbl.trans hst.low
        refine leaves_cons (f := 31) (args := #[ptr b2, ptr b3, ptr b4]) (by simp) (by simp [go_sem]) ?_
        refine (ecatch_asked k c o v b2 b3 b4 _ k2 k3 k4 (by omega)).mono ?_
        rintro e u' w14 ⟨rfl, rfl, c2, c3, c4, hbz⟩
        refine ⟨_, results_ccc (p := 10) (q := 11) (t := 12) (t1 := 61) (t2 := 63) (t3 := 4) rfl _ _ b2 b3 b4 (accC k c o v) outZ (0, 0) (0, 0) _ _ _ rfl rfl rfl c2 c3 Try.underlying61 rfl (by kernel_rfl) Try.underlying63 rfl (by kernel_rfl) (load_bool _ b4 false c4), ?_⟩
        rw [HNX2.out]
        exact ⟨rfl, hbz w n2 n3 n4 hbl⟩
      | out val is err point ge =>
        obtain ⟨rfl, hst, G2, m2, c9, i9, hm2, hni2, hp9, hga⟩ := hpost
        have HM2 := Lib.hid (And.intro hm2 hni2)
        clear hm2 hni2
        have kp := hp9.kp
        replace k2 := hst.oth _ _ _ (by omega) (by decide) k2
        replace k3 := hst.oth _ _ _ (by omega) (by decide) k3
        replace k4 := hst.oth _ _ _ (by omega) (by decide) k4
        replace hbl := hbl.trans hst.low
        clear hst hp9
        replace hga := hga.row (cs := (outC val is err point)) k3 (by decide)
        replace kp := (setRow_other w13 b3 gp (outC val is err point) (by omega)).trans kp
        have a3 : Bk (w13.setRow b3 (outC val is err point)) b3 63 (outC val is err point) := setRow_heap _ _ outZ (outC val is err point) 63 (0, 0) k3
        have a2 : Bk (w13.setRow b3 (outC val is err point)) b2 61 accZ := (setRow_other _ _ _ _ (by omega)).trans k2
        have a4 : Bk (w13.setRow b3 (outC val is err point)) b4 4 #[.bool false] := (setRow_other _ _ _ _ (by omega)).trans k4
        replace hbl := below_setRow hbl n3 (outC val is err point)
        go_upto_region 10 with (refine wpList_store_rowTo rfl 63 (.tmp 11) (.tmp 41) rfl rfl b3 (outC val is err point) rfl rfl 63 outZ k3 (by kernel_rfl) rfl (by simp [Value.oneCell']) ?_)
        clear k2 k3 k4
        replace kp : Bk (w13.setRow b3 (outC val is err point)) gp 94 (progE ⟨l, me, cap⟩ A (.slice G2 m2 c9) log.length i9) := kp
        generalize w13.setRow b3 (outC val is err point) = w14 at *
        have q4 := a3.cell 4
        have f4 := a3.free 4
        have l4 := a3.lt
        have c26 := kp.cell 26
        have lp := kp.lt
        simp at q4 c26
        go_upto_region 11 with fail
        clear q4 f4 l4 c26 lp kp
        replace hga := hga.set (i := 4) (u := (.slice G2 m2 c9)) a3 (by decide)
        replace a3 : Bk (w14.setCell ⟨b3, 4, none⟩ (.slice G2 m2 c9)) b3 63 (outG val is err point (.slice G2 m2 c9)) := a3.stored 4 (.slice G2 m2 c9)
        replace a2 := a2.other (p := ⟨b3, 4, none⟩) (by dsimp only; omega) (.slice G2 m2 c9)
        replace a4 := a4.other (p := ⟨b3, 4, none⟩) (by dsimp only; omega) (.slice G2 m2 c9)
        replace hbl := below_set hbl (p := ⟨b3, 4, none⟩) n3 (.slice G2 m2 c9)
        generalize w14.setCell ⟨b3, 4, none⟩ (.slice G2 m2 c9) = w16 at *
        refine wp_region_E (S := fun w' => Bk w' b3 63 (outG val is err point (.slice G2 m2 c9))) (E := fun _ => false) (by kernel_rfl) ?_
        replace a2 := a2.drew
        replace a3 := a3.drew
        replace a4 := a4.drew
        replace hbl := hbl.drew
        replace hga := hga.keep (below_drew' (Below.refl _ _))
        generalize w16.drew = w17 at *
        refine wpAnyE_take (i := 0) (oi := _) (v := .agg accZ) rfl (by kernel_rfl) (by kernel_rfl) (by kernel_rfl) (by kernel_rfl) (fun _ _ _ h => enext_put (by omega) h) (Or.inl ⟨by rfl, ?_⟩) a3 ?_
        · intro w' hSw
          (try simp only [List.getElem_toArray, List.getElem_cons_zero])
          go_simp
        (try simp only [List.getElem_toArray, List.getElem_cons_zero, Act.put, List.setIfInBounds_toArray, List.set_cons_zero, List.set_cons_succ])
        refine wpAnyE_take (i := 1) (oi := _) (v := .agg (outG val is err point (.slice G2 m2 c9))) rfl (by kernel_rfl) (by kernel_rfl) (by kernel_rfl) (by kernel_rfl) (fun _ _ _ h => enext_put (by omega) h) (Or.inl ⟨by rfl, ?_⟩) a3 ?_
        · intro w' hSw
          (try simp only [List.getElem_toArray, List.getElem_cons_succ, List.getElem_cons_zero])
          simp only [execOp, Instr.loadAt, Instr.sureAddr, Sem.run_bind, Sem.run_pure]
          rw [show (Act.eval _ (Operand.tmp 11)) = Value.pointer (some ⟨b3, 0, none⟩) from rfl]
          simp only [Sem.run_pure, Result.andThen_ok, run_loadVar_row w' b3 63 63 (outG val is err point (.slice G2 m2 c9)) (0, 0) _ hSw Try.underlying63 rfl (by kernel_rfl)]
        (try simp only [List.getElem_toArray, List.getElem_cons_succ, List.getElem_cons_zero, Act.put, List.setIfInBounds_toArray, List.set_cons_zero, List.set_cons_succ])
        refine wpAnyE_one (i := 2) (o := _) (by kernel_rfl) rfl (fun K hK => ?_)
        rw [if_pos (by rfl)]
        refine wp_store_row 61 (.tmp 10) (.tmp 53) rfl b2 accZ rfl rfl 61 accZ a2 (by kernel_rfl) rfl (by simp [Value.oneCell']) ?_
        replace hga := hga.row (cs := accZ) a2 (by decide)
        have c2 : Bk (w17.setRow b2 accZ) b2 61 accZ := setRow_heap _ _ accZ accZ 61 (0, 0) a2
        replace a3 : Bk (w17.setRow b2 accZ) b3 63 (outG val is err point (.slice G2 m2 c9)) := (setRow_other _ _ _ _ (by omega)).trans a3
        replace a4 : Bk (w17.setRow b2 accZ) b4 4 #[.bool false] := (setRow_other _ _ _ _ (by omega)).trans a4
        replace hbl := below_setRow hbl n2 accZ
        refine hK.out _ _ (fun _ => a3) ?_
        clear hK K a2
        (try simp only [List.getElem_toArray, List.getElem_cons_succ, List.getElem_cons_zero, Act.put])
        generalize w17.setRow b2 accZ = w18 at *
        refine wpAnyE_one (i := 3) (o := _) (by kernel_rfl) rfl (fun K hK => ?_)
        rw [if_pos (by rfl)]
        refine wp_store_row 63 (.tmp 11) (.tmp 54) rfl b3 (outG val is err point (.slice G2 m2 c9)) rfl rfl 63 (outG val is err point (.slice G2 m2 c9)) a3 (by kernel_rfl) rfl (by simp [Value.oneCell']) ?_
        replace hga := hga.row (cs := (outG val is err point (.slice G2 m2 c9))) a3 (by decide)
        have c3 : Bk (w18.setRow b3 (outG val is err point (.slice G2 m2 c9))) b3 63 (outG val is err point (.slice G2 m2 c9)) := setRow_heap _ _ (outG val is err point (.slice G2 m2 c9)) (outG val is err point (.slice G2 m2 c9)) 63 (0, 0) a3
        replace c2 : Bk (w18.setRow b3 (outG val is err point (.slice G2 m2 c9))) b2 61 accZ := (setRow_other _ _ _ _ (by omega)).trans c2
        replace a4 : Bk (w18.setRow b3 (outG val is err point (.slice G2 m2 c9))) b4 4 #[.bool false] := (setRow_other _ _ _ _ (by omega)).trans a4
        replace hbl := below_setRow hbl n3 (outG val is err point (.slice G2 m2 c9))
        refine hK.out _ _ (fun _ => c3) ?_
        clear hK K a3
        (try simp only [List.getElem_toArray, List.getElem_cons_succ, List.getElem_cons_zero, Act.put])
        generalize w18.setRow b3 (outG val is err point (.slice G2 m2 c9)) = w19 at *
        have q6 := a4.cell 0
        have f6 := a4.free 0
        have l6 := a4.lt
        simp at q6
        refine wpAnyE_one (i := 4) (o := _) (by kernel_rfl) rfl (fun K hK => ?_)
        (try simp only [List.getElem_toArray, List.getElem_cons_succ, List.getElem_cons_zero])
        go_simp
        clear q6 f6 l6
        replace hga := hga.set (i := 0) (u := (.bool true)) a4 (by decide)
        replace a4 : Bk (w19.setCell ⟨b4, 0, none⟩ (.bool true)) b4 4 #[.bool true] := a4.stored 0 (.bool true)
        replace c2 := c2.other (p := ⟨b4, 0, none⟩) (by dsimp only; omega) (.bool true)
        replace c3 := c3.other (p := ⟨b4, 0, none⟩) (by dsimp only; omega) (.bool true)
        replace hbl := below_set hbl (p := ⟨b4, 0, none⟩) n4 (.bool true)
        refine hK.out _ _ (fun _ => c3) ?_
        clear hK K
        (try simp only [List.getElem_toArray, List.getElem_cons_succ, List.getElem_cons_zero, Act.put, List.setIfInBounds_toArray, List.set_cons_zero, List.set_cons_succ])
        generalize w19.setCell ⟨b4, 0, none⟩ (.bool true) = w20 at *
        refine wpAnyE_done (by kernel_rfl) ?_ _
        go_wp2
        refine leaves_cons (f := 31) (args := #[ptr b2, ptr b3, ptr b4]) (by simp) (by simp [go_sem]) ?_
        refine (ecatch_idle b2 b3 b4 _).mono ?_
        rintro e u' w21 ⟨rfl, rfl, rfl⟩
        refine ⟨_, results_ccc (p := 10) (q := 11) (t := 12) (t1 := 61) (t2 := 63) (t3 := 4) rfl _ _ b2 b3 b4 accZ (outG val is err point (.slice G2 m2 c9)) (0, 0) (0, 0) _ _ _ rfl rfl rfl c2 c3 Try.underlying61 rfl (by kernel_rfl) Try.underlying63 rfl (by kernel_rfl) (load_bool _ b4 true a4), ?_⟩
        rw [HNX2.out]
        exact ⟨G2, m2, c9, HM2.out.1, HM2.out.2, hga, rfl, hbl⟩
    · by_cases hk2 : op.kind = 2
      · have HNX := Lib.hid (show eraR l me op g log = (ef l op.a g (.dr 0) log).ans l me op g by
          show (ef l op.a g (startE l op) log).ans l me op g = _
          unfold startE
          rw [hmay, if_pos rfl, if_neg hk1, if_pos hk2])
        rw [hk2] at y0
        clear hk1 hk2 hmay
        go_upto_region 9 with fail
        go_wp2_with fail
        (with_reducible refine (drop_any (op := op) hp HM.out (own_pairRow hown2 HM.out.1) HF.out).mono ?_)
        clear y0 y2 y3 l1
        intro e w13 hpost0
        have hpost : EqPost w.heap.size gp ⟨l, me, cap⟩ A log ((ef l op.a g (.dr 0) log).ans l me op g) w12 e w13 := hpost0.eq zp' hbl.size
        clear hpost0
        rw [← HNX.out] at hpost
        clear hp hown2 k0 k1
        obtain ⟨ans, hans⟩ : ∃ a, eraR l me op g log = a := ⟨_, rfl⟩
        rw [hans] at hpost
        have HNX2 := Lib.hid hans
        clear hans
        cases ans with
        | ask k c o v =>
          obtain ⟨rfl, hst⟩ := hpost
          replace k2 := hst.oth _ _ _ (by omega) (by decide) k2
          replace k3 := hst.oth _ _ _ (by omega) (by decide) k3
          replace k4 := hst.oth _ _ _ (by omega) (by decide) k4
          replace hbl := hbl.trans hst.low
          refine leaves_cons (f := 31) (args := #[ptr b2, ptr b3, ptr b4]) (by simp) (by simp [go_sem]) ?_
          refine (ecatch_asked k c o v b2 b3 b4 _ k2 k3 k4 (by omega)).mono ?_
          rintro e u' w14 ⟨rfl, rfl, c2, c3, c4, hbz⟩
          refine ⟨_, results_ccc (p := 10) (q := 11) (t := 12) (t1 := 61) (t2 := 63) (t3 := 4) rfl _ _ b2 b3 b4 (accC k c o v) outZ (0, 0) (0, 0) _ _ _ rfl rfl rfl c2 c3 Try.underlying61 rfl (by kernel_rfl) Try.underlying63 rfl (by kernel_rfl) (load_bool _ b4 false c4), ?_⟩
          rw [HNX2.out]
          exact ⟨rfl, hbz w n2 n3 n4 hbl⟩
        | out val is err point ge =>
          obtain ⟨rfl, hst, G2, m2, c9, i9, hm2, hni2, hp9, hga⟩ := hpost
          have HM2 := Lib.hid (And.intro hm2 hni2)
          clear hm2 hni2
          have kp := hp9.kp
          replace k2 := hst.oth _ _ _ (by omega) (by decide) k2
          replace k3 := hst.oth _ _ _ (by omega) (by decide) k3
          replace k4 := hst.oth _ _ _ (by omega) (by decide) k4
          replace hbl := hbl.trans hst.low
          clear hst hp9
          replace hga := hga.row (cs := (outC val is err point)) k3 (by decide)
          replace kp := (setRow_other w13 b3 gp (outC val is err point) (by omega)).trans kp
          have a3 : Bk (w13.setRow b3 (outC val is err point)) b3 63 (outC val is err point) := setRow_heap _ _ outZ (outC val is err point) 63 (0, 0) k3
          have a2 : Bk (w13.setRow b3 (outC val is err point)) b2 61 accZ := (setRow_other _ _ _ _ (by omega)).trans k2
          have a4 : Bk (w13.setRow b3 (outC val is err point)) b4 4 #[.bool false] := (setRow_other _ _ _ _ (by omega)).trans k4
          replace hbl := below_setRow hbl n3 (outC val is err point)
          go_upto_region 10 with (refine wpList_store_rowTo rfl 63 (.tmp 11) (.tmp 47) rfl rfl b3 (outC val is err point) rfl rfl 63 outZ k3 (by kernel_rfl) rfl (by simp [Value.oneCell']) ?_)
          clear k2 k3 k4
          replace kp : Bk (w13.setRow b3 (outC val is err point)) gp 94 (progE ⟨l, me, cap⟩ A (.slice G2 m2 c9) log.length i9) := kp
          generalize w13.setRow b3 (outC val is err point) = w14 at *
          have q4 := a3.cell 4
          have f4 := a3.free 4
          have l4 := a3.lt
          have c26 := kp.cell 26
          have lp := kp.lt
          simp at q4 c26
          go_upto_region 11 with fail
          clear q4 f4 l4 c26 lp kp
          replace hga := hga.set (i := 4) (u := (.slice G2 m2 c9)) a3 (by decide)
          replace a3 : Bk (w14.setCell ⟨b3, 4, none⟩ (.slice G2 m2 c9)) b3 63 (outG val is err point (.slice G2 m2 c9)) := a3.stored 4 (.slice G2 m2 c9)
          replace a2 := a2.other (p := ⟨b3, 4, none⟩) (by dsimp only; omega) (.slice G2 m2 c9)
          replace a4 := a4.other (p := ⟨b3, 4, none⟩) (by dsimp only; omega) (.slice G2 m2 c9)
          replace hbl := below_set hbl (p := ⟨b3, 4, none⟩) n3 (.slice G2 m2 c9)
          generalize w14.setCell ⟨b3, 4, none⟩ (.slice G2 m2 c9) = w16 at *
          refine wp_region_E (S := fun w' => Bk w' b3 63 (outG val is err point (.slice G2 m2 c9))) (E := fun _ => false) (by kernel_rfl) ?_
          replace a2 := a2.drew
          replace a3 := a3.drew
          replace a4 := a4.drew
          replace hbl := hbl.drew
          replace hga := hga.keep (below_drew' (Below.refl _ _))
          generalize w16.drew = w17 at *
          refine wpAnyE_take (i := 0) (oi := _) (v := .agg accZ) rfl (by kernel_rfl) (by kernel_rfl) (by kernel_rfl) (by kernel_rfl) (fun _ _ _ h => enext_put (by omega) h) (Or.inl ⟨by rfl, ?_⟩) a3 ?_
          · intro w' hSw
            (try simp only [List.getElem_toArray, List.getElem_cons_zero])
            go_simp
          (try simp only [List.getElem_toArray, List.getElem_cons_zero, Act.put, List.setIfInBounds_toArray, List.set_cons_zero, List.set_cons_succ])
          refine wpAnyE_take (i := 1) (oi := _) (v := .agg (outG val is err point (.slice G2 m2 c9))) rfl (by kernel_rfl) (by kernel_rfl) (by kernel_rfl) (by kernel_rfl) (fun _ _ _ h => enext_put (by omega) h) (Or.inl ⟨by rfl, ?_⟩) a3 ?_
          · intro w' hSw
            (try simp only [List.getElem_toArray, List.getElem_cons_succ, List.getElem_cons_zero])
            simp only [execOp, Instr.loadAt, Instr.sureAddr, Sem.run_bind, Sem.run_pure]
            rw [show (Act.eval _ (Operand.tmp 11)) = Value.pointer (some ⟨b3, 0, none⟩) from rfl]
            simp only [Sem.run_pure, Result.andThen_ok, run_loadVar_row w' b3 63 63 (outG val is err point (.slice G2 m2 c9)) (0, 0) _ hSw Try.underlying63 rfl (by kernel_rfl)]
          (try simp only [List.getElem_toArray, List.getElem_cons_succ, List.getElem_cons_zero, Act.put, List.setIfInBounds_toArray, List.set_cons_zero, List.set_cons_succ])
          refine wpAnyE_one (i := 2) (o := _) (by kernel_rfl) rfl (fun K hK => ?_)
          rw [if_pos (by rfl)]
          refine wp_store_row 61 (.tmp 10) (.tmp 53) rfl b2 accZ rfl rfl 61 accZ a2 (by kernel_rfl) rfl (by simp [Value.oneCell']) ?_
          replace hga := hga.row (cs := accZ) a2 (by decide)
          have c2 : Bk (w17.setRow b2 accZ) b2 61 accZ := setRow_heap _ _ accZ accZ 61 (0, 0) a2
          replace a3 : Bk (w17.setRow b2 accZ) b3 63 (outG val is err point (.slice G2 m2 c9)) := (setRow_other _ _ _ _ (by omega)).trans a3
          replace a4 : Bk (w17.setRow b2 accZ) b4 4 #[.bool false] := (setRow_other _ _ _ _ (by omega)).trans a4
          replace hbl := below_setRow hbl n2 accZ
          refine hK.out _ _ (fun _ => a3) ?_
          clear hK K a2
          (try simp only [List.getElem_toArray, List.getElem_cons_succ, List.getElem_cons_zero, Act.put])
          generalize w17.setRow b2 accZ = w18 at *
          refine wpAnyE_one (i := 3) (o := _) (by kernel_rfl) rfl (fun K hK => ?_)
          rw [if_pos (by rfl)]
          refine wp_store_row 63 (.tmp 11) (.tmp 54) rfl b3 (outG val is err point (.slice G2 m2 c9)) rfl rfl 63 (outG val is err point (.slice G2 m2 c9)) a3 (by kernel_rfl) rfl (by simp [Value.oneCell']) ?_
          replace hga := hga.row (cs := (outG val is err point (.slice G2 m2 c9))) a3 (by decide)
          have c3 : Bk (w18.setRow b3 (outG val is err point (.slice G2 m2 c9))) b3 63 (outG val is err point (.slice G2 m2 c9)) := setRow_heap _ _ (outG val is err point (.slice G2 m2 c9)) (outG val is err point (.slice G2 m2 c9)) 63 (0, 0) a3
          replace c2 : Bk (w18.setRow b3 (outG val is err point (.slice G2 m2 c9))) b2 61 accZ := (setRow_other _ _ _ _ (by omega)).trans c2
          replace a4 : Bk (w18.setRow b3 (outG val is err point (.slice G2 m2 c9))) b4 4 #[.bool false] := (setRow_other _ _ _ _ (by omega)).trans a4
          replace hbl := below_setRow hbl n3 (outG val is err point (.slice G2 m2 c9))
          refine hK.out _ _ (fun _ => c3) ?_
          clear hK K a3
          (try simp only [List.getElem_toArray, List.getElem_cons_succ, List.getElem_cons_zero, Act.put])
          generalize w18.setRow b3 (outG val is err point (.slice G2 m2 c9)) = w19 at *
          have q6 := a4.cell 0
          have f6 := a4.free 0
          have l6 := a4.lt
          simp at q6
          refine wpAnyE_one (i := 4) (o := _) (by kernel_rfl) rfl (fun K hK => ?_)
          (try simp only [List.getElem_toArray, List.getElem_cons_succ, List.getElem_cons_zero])
          go_simp
          clear q6 f6 l6
          replace hga := hga.set (i := 0) (u := (.bool true)) a4 (by decide)
          replace a4 : Bk (w19.setCell ⟨b4, 0, none⟩ (.bool true)) b4 4 #[.bool true] := a4.stored 0 (.bool true)
          replace c2 := c2.other (p := ⟨b4, 0, none⟩) (by dsimp only; omega) (.bool true)
          replace c3 := c3.other (p := ⟨b4, 0, none⟩) (by dsimp only; omega) (.bool true)
          replace hbl := below_set hbl (p := ⟨b4, 0, none⟩) n4 (.bool true)
          refine hK.out _ _ (fun _ => c3) ?_
          clear hK K
          (try simp only [List.getElem_toArray, List.getElem_cons_succ, List.getElem_cons_zero, Act.put, List.setIfInBounds_toArray, List.set_cons_zero, List.set_cons_succ])
          generalize w19.setCell ⟨b4, 0, none⟩ (.bool true) = w20 at *
          refine wpAnyE_done (by kernel_rfl) ?_ _
          go_wp2
          refine leaves_cons (f := 31) (args := #[ptr b2, ptr b3, ptr b4]) (by simp) (by simp [go_sem]) ?_
          refine (ecatch_idle b2 b3 b4 _).mono ?_
          rintro e u' w21 ⟨rfl, rfl, rfl⟩
          refine ⟨_, results_ccc (p := 10) (q := 11) (t := 12) (t1 := 61) (t2 := 63) (t3 := 4) rfl _ _ b2 b3 b4 accZ (outG val is err point (.slice G2 m2 c9)) (0, 0) (0, 0) _ _ _ rfl rfl rfl c2 c3 Try.underlying61 rfl (by kernel_rfl) Try.underlying63 rfl (by kernel_rfl) (load_bool _ b4 true a4), ?_⟩
          rw [HNX2.out]
          exact ⟨G2, m2, c9, HM2.out.1, HM2.out.2, hga, rfl, hbl⟩
      · have HNX := Lib.hid (show eraR l me op g log = (ef l op.a g .r0 log).ans l me op g by
          show (ef l op.a g (startE l op) log).ans l me op g = _
          unfold startE
          rw [hmay, if_pos rfl, if_neg hk1, if_neg hk2])
        have ha3 : op.a ≤ 1000000 := by
          unfold mayE at hmay
          rw [if_neg hk1, if_neg hk2] at hmay
          have := HG.out.2.2.2.2.2
          split at hmay
          · simp at hmay; omega
          · cases hmay
        have e1 : (op.kind == (1 : Int)) = false := by simpa using hk1
        have e2 : decide (op.kind = (1 : Int)) = false := by simpa using hk1
        have e3 : (op.kind == (2 : Int)) = false := by simpa using hk2
        have e4 : decide (op.kind = (2 : Int)) = false := by simpa using hk2
        clear hk1 hk2 hmay
        go_upto_region 3 with fail
        go_wp2_with fail
        (with_reducible refine (retire_any (op := op) hp HM.out.1 hgm hown2 HF.out hst1 HG.out.2.2.2.1 ha3).mono ?_)
        clear y0 y2 y3 l1 e1 e2 e3 e4
        intro e w13 hpost0
        have hpost : EqPost w.heap.size gp ⟨l, me, cap⟩ A log ((ef l op.a g .r0 log).ans l me op g) w12 e w13 := hpost0
        clear hpost0
        rw [← HNX.out] at hpost
        clear hp hown2 k0 k1
        obtain ⟨ans, hans⟩ : ∃ a, eraR l me op g log = a := ⟨_, rfl⟩
        rw [hans] at hpost
        have HNX2 := Lib.hid hans
        clear hans
        cases ans with
        | ask k c o v =>
          obtain ⟨rfl, hst⟩ := hpost
          replace k2 := hst.oth _ _ _ (by omega) (by decide) k2
          replace k3 := hst.oth _ _ _ (by omega) (by decide) k3
          replace k4 := hst.oth _ _ _ (by omega) (by decide) k4
          replace hbl := hbl.trans hst.low
          refine leaves_cons (f := 31) (args := #[ptr b2, ptr b3, ptr b4]) (by simp) (by simp [go_sem]) ?_
          refine (ecatch_asked k c o v b2 b3 b4 _ k2 k3 k4 (by omega)).mono ?_
          rintro e u' w14 ⟨rfl, rfl, c2, c3, c4, hbz⟩
          refine ⟨_, results_ccc (p := 10) (q := 11) (t := 12) (t1 := 61) (t2 := 63) (t3 := 4) rfl _ _ b2 b3 b4 (accC k c o v) outZ (0, 0) (0, 0) _ _ _ rfl rfl rfl c2 c3 Try.underlying61 rfl (by kernel_rfl) Try.underlying63 rfl (by kernel_rfl) (load_bool _ b4 false c4), ?_⟩
          rw [HNX2.out]
          exact ⟨rfl, hbz w n2 n3 n4 hbl⟩
        | out val is err point ge =>
          obtain ⟨rfl, hst, G2, m2, c9, i9, hm2, hni2, hp9, hga⟩ := hpost
          have HM2 := Lib.hid (And.intro hm2 hni2)
          clear hm2 hni2
          have kp := hp9.kp
          replace k2 := hst.oth _ _ _ (by omega) (by decide) k2
          replace k3 := hst.oth _ _ _ (by omega) (by decide) k3
          replace k4 := hst.oth _ _ _ (by omega) (by decide) k4
          replace hbl := hbl.trans hst.low
          clear hst hp9
          replace hga := hga.row (cs := (outC val is err point)) k3 (by decide)
          replace kp := (setRow_other w13 b3 gp (outC val is err point) (by omega)).trans kp
          have a3 : Bk (w13.setRow b3 (outC val is err point)) b3 63 (outC val is err point) := setRow_heap _ _ outZ (outC val is err point) 63 (0, 0) k3
          have a2 : Bk (w13.setRow b3 (outC val is err point)) b2 61 accZ := (setRow_other _ _ _ _ (by omega)).trans k2
          have a4 : Bk (w13.setRow b3 (outC val is err point)) b4 4 #[.bool false] := (setRow_other _ _ _ _ (by omega)).trans k4
          replace hbl := below_setRow hbl n3 (outC val is err point)
          go_upto_region 10 with (refine wpList_store_rowTo rfl 63 (.tmp 11) (.tmp 25) rfl rfl b3 (outC val is err point) rfl rfl 63 outZ k3 (by kernel_rfl) rfl (by simp [Value.oneCell']) ?_)
          clear k2 k3 k4
          replace kp : Bk (w13.setRow b3 (outC val is err point)) gp 94 (progE ⟨l, me, cap⟩ A (.slice G2 m2 c9) log.length i9) := kp
          generalize w13.setRow b3 (outC val is err point) = w14 at *
          have q4 := a3.cell 4
          have f4 := a3.free 4
          have l4 := a3.lt
          have c26 := kp.cell 26
          have lp := kp.lt
          simp at q4 c26
          go_upto_region 11 with fail
          clear q4 f4 l4 c26 lp kp
          replace hga := hga.set (i := 4) (u := (.slice G2 m2 c9)) a3 (by decide)
          replace a3 : Bk (w14.setCell ⟨b3, 4, none⟩ (.slice G2 m2 c9)) b3 63 (outG val is err point (.slice G2 m2 c9)) := a3.stored 4 (.slice G2 m2 c9)
          replace a2 := a2.other (p := ⟨b3, 4, none⟩) (by dsimp only; omega) (.slice G2 m2 c9)
          replace a4 := a4.other (p := ⟨b3, 4, none⟩) (by dsimp only; omega) (.slice G2 m2 c9)
          replace hbl := below_set hbl (p := ⟨b3, 4, none⟩) n3 (.slice G2 m2 c9)
          generalize w14.setCell ⟨b3, 4, none⟩ (.slice G2 m2 c9) = w16 at *
          refine wp_region_E (S := fun w' => Bk w' b3 63 (outG val is err point (.slice G2 m2 c9))) (E := fun _ => false) (by kernel_rfl) ?_
          replace a2 := a2.drew
          replace a3 := a3.drew
          replace a4 := a4.drew
          replace hbl := hbl.drew
          replace hga := hga.keep (below_drew' (Below.refl _ _))
          generalize w16.drew = w17 at *
          refine wpAnyE_take (i := 0) (oi := _) (v := .agg accZ) rfl (by kernel_rfl) (by kernel_rfl) (by kernel_rfl) (by kernel_rfl) (fun _ _ _ h => enext_put (by omega) h) (Or.inl ⟨by rfl, ?_⟩) a3 ?_
          · intro w' hSw
            (try simp only [List.getElem_toArray, List.getElem_cons_zero])
            go_simp
          (try simp only [List.getElem_toArray, List.getElem_cons_zero, Act.put, List.setIfInBounds_toArray, List.set_cons_zero, List.set_cons_succ])
          refine wpAnyE_take (i := 1) (oi := _) (v := .agg (outG val is err point (.slice G2 m2 c9))) rfl (by kernel_rfl) (by kernel_rfl) (by kernel_rfl) (by kernel_rfl) (fun _ _ _ h => enext_put (by omega) h) (Or.inl ⟨by rfl, ?_⟩) a3 ?_
          · intro w' hSw
            (try simp only [List.getElem_toArray, List.getElem_cons_succ, List.getElem_cons_zero])
            simp only [execOp, Instr.loadAt, Instr.sureAddr, Sem.run_bind, Sem.run_pure]
            rw [show (Act.eval _ (Operand.tmp 11)) = Value.pointer (some ⟨b3, 0, none⟩) from rfl]
            simp only [Sem.run_pure, Result.andThen_ok, run_loadVar_row w' b3 63 63 (outG val is err point (.slice G2 m2 c9)) (0, 0) _ hSw Try.underlying63 rfl (by kernel_rfl)]
          (try simp only [List.getElem_toArray, List.getElem_cons_succ, List.getElem_cons_zero, Act.put, List.setIfInBounds_toArray, List.set_cons_zero, List.set_cons_succ])
          refine wpAnyE_one (i := 2) (o := _) (by kernel_rfl) rfl (fun K hK => ?_)
          rw [if_pos (by rfl)]
          refine wp_store_row 61 (.tmp 10) (.tmp 53) rfl b2 accZ rfl rfl 61 accZ a2 (by kernel_rfl) rfl (by simp [Value.oneCell']) ?_
          replace hga := hga.row (cs := accZ) a2 (by decide)
          have c2 : Bk (w17.setRow b2 accZ) b2 61 accZ := setRow_heap _ _ accZ accZ 61 (0, 0) a2
          replace a3 : Bk (w17.setRow b2 accZ) b3 63 (outG val is err point (.slice G2 m2 c9)) := (setRow_other _ _ _ _ (by omega)).trans a3
          replace a4 : Bk (w17.setRow b2 accZ) b4 4 #[.bool false] := (setRow_other _ _ _ _ (by omega)).trans a4
          replace hbl := below_setRow hbl n2 accZ
          refine hK.out _ _ (fun _ => a3) ?_
          clear hK K a2
          (try simp only [List.getElem_toArray, List.getElem_cons_succ, List.getElem_cons_zero, Act.put])
          generalize w17.setRow b2 accZ = w18 at *
          refine wpAnyE_one (i := 3) (o := _) (by kernel_rfl) rfl (fun K hK => ?_)
          rw [if_pos (by rfl)]
          refine wp_store_row 63 (.tmp 11) (.tmp 54) rfl b3 (outG val is err point (.slice G2 m2 c9)) rfl rfl 63 (outG val is err point (.slice G2 m2 c9)) a3 (by kernel_rfl) rfl (by simp [Value.oneCell']) ?_
          replace hga := hga.row (cs := (outG val is err point (.slice G2 m2 c9))) a3 (by decide)
          have c3 : Bk (w18.setRow b3 (outG val is err point (.slice G2 m2 c9))) b3 63 (outG val is err point (.slice G2 m2 c9)) := setRow_heap _ _ (outG val is err point (.slice G2 m2 c9)) (outG val is err point (.slice G2 m2 c9)) 63 (0, 0) a3
          replace c2 : Bk (w18.setRow b3 (outG val is err point (.slice G2 m2 c9))) b2 61 accZ := (setRow_other _ _ _ _ (by omega)).trans c2
          replace a4 : Bk (w18.setRow b3 (outG val is err point (.slice G2 m2 c9))) b4 4 #[.bool false] := (setRow_other _ _ _ _ (by omega)).trans a4
          replace hbl := below_setRow hbl n3 (outG val is err point (.slice G2 m2 c9))
          refine hK.out _ _ (fun _ => c3) ?_
          clear hK K a3
          (try simp only [List.getElem_toArray, List.getElem_cons_succ, List.getElem_cons_zero, Act.put])
          generalize w18.setRow b3 (outG val is err point (.slice G2 m2 c9)) = w19 at *
          have q6 := a4.cell 0
          have f6 := a4.free 0
          have l6 := a4.lt
          simp at q6
          refine wpAnyE_one (i := 4) (o := _) (by kernel_rfl) rfl (fun K hK => ?_)
          (try simp only [List.getElem_toArray, List.getElem_cons_succ, List.getElem_cons_zero])
          go_simp
          clear q6 f6 l6
          replace hga := hga.set (i := 0) (u := (.bool true)) a4 (by decide)
          replace a4 : Bk (w19.setCell ⟨b4, 0, none⟩ (.bool true)) b4 4 #[.bool true] := a4.stored 0 (.bool true)
          replace c2 := c2.other (p := ⟨b4, 0, none⟩) (by dsimp only; omega) (.bool true)
          replace c3 := c3.other (p := ⟨b4, 0, none⟩) (by dsimp only; omega) (.bool true)
          replace hbl := below_set hbl (p := ⟨b4, 0, none⟩) n4 (.bool true)
          refine hK.out _ _ (fun _ => c3) ?_
          clear hK K
          (try simp only [List.getElem_toArray, List.getElem_cons_succ, List.getElem_cons_zero, Act.put, List.setIfInBounds_toArray, List.set_cons_zero, List.set_cons_succ])
          generalize w19.setCell ⟨b4, 0, none⟩ (.bool true) = w20 at *
          refine wpAnyE_done (by kernel_rfl) ?_ _
          go_wp2
          refine leaves_cons (f := 31) (args := #[ptr b2, ptr b3, ptr b4]) (by simp) (by simp [go_sem]) ?_
          refine (ecatch_idle b2 b3 b4 _).mono ?_
          rintro e u' w21 ⟨rfl, rfl, rfl⟩
          refine ⟨_, results_ccc (p := 10) (q := 11) (t := 12) (t1 := 61) (t2 := 63) (t3 := 4) rfl _ _ b2 b3 b4 accZ (outG val is err point (.slice G2 m2 c9)) (0, 0) (0, 0) _ _ _ rfl rfl rfl c2 c3 Try.underlying61 rfl (by kernel_rfl) Try.underlying63 rfl (by kernel_rfl) (load_bool _ b4 true a4), ?_⟩
          rw [HNX2.out]
          exact ⟨G2, m2, c9, HM2.out.1, HM2.out.2, hga, rfl, hbl⟩
end Go.Proofs.Ytgjdjgainjedhaa
