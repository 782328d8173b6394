/- The table's write and look. Printed by wr_gen.py. -/
import Derived.Test.YtgjdjgainjedhaaEPg
import Derived.Test.YtgjdjgainjedhaaRefP
namespace Go.Proofs.Ytgjdjgainjedhaa
open Go.RowKit
set_option linter.unusedVariables false
attribute [local go_sem ↓] Go.wp_at_zero Go.wp_at_succ

theorem write_0 {l : Ly} {who wv : Nat} {x : Stp3} (h : x.s.at_ = 0) : writeM l who wv x = (match progM l false who ⟨x.m, { x.s with op := ⟨1, 0, 0, 0⟩ }, x.bad⟩ with
    | (y, some (val, is, _)) => ⟨y.m, { y.s with node := val, at_ := 1, busy := is }, y.bad⟩
    | (y, none) => y) := by unfold writeM; rw [h]; rfl
theorem write_1 {l : Ly} {who wv : Nat} {x : Stp3} (h : x.s.at_ = 1) : writeM l who wv x = ⟨(accM x.m ⟨2, nodeAt l x.s.node 1, 0, 1000 * (who : Int) + wv + 1⟩).1, { x.s with at_ := 2 }, x.bad || !(accM x.m ⟨2, nodeAt l x.s.node 1, 0, 1000 * (who : Int) + wv + 1⟩).2.2⟩ := by unfold writeM; rw [h]; rfl
theorem write_2 {l : Ly} {who wv : Nat} {x : Stp3} (h : x.s.at_ = 2) : writeM l who wv x = ⟨(accM x.m ⟨5, cellAt l 0, 0, x.s.node⟩).1, { x.s with node := (accM x.m ⟨5, cellAt l 0, 0, x.s.node⟩).2.1.1, at_ := 3, busy := decide ((accM x.m ⟨5, cellAt l 0, 0, x.s.node⟩).2.1.1 ≠ 0) }, x.bad || !(accM x.m ⟨5, cellAt l 0, 0, x.s.node⟩).2.2⟩ := by unfold writeM; rw [h]; rfl
theorem write_3 {l : Ly} {who wv : Nat} {x : Stp3} (h : 3 ≤ x.s.at_) : writeM l who wv x = (match progM l true who ⟨x.m, { x.s with op := ⟨3, 0, x.s.node, 0⟩ }, x.bad⟩ with
    | (y, some (_, _, g)) => ⟨y.m, { y.s with gone := g, busy := false }, y.bad⟩
    | (y, none) => y) := by
  unfold writeM
  obtain ⟨k, hk⟩ : ∃ k, x.s.at_ = k + 3 := ⟨x.s.at_ - 3, by omega⟩
  rw [hk]
  rfl
theorem acc_ok {m : List Int} {a : Acc} (h : (accM m a).2.2 = true) : a.err m.length = 0 ∧ accM m a = (a.make m, (a.had m, a.ok (a.had m)), true) := by
  unfold accM at h ⊢
  split at h
  · rename_i he
    exact ⟨he, if_pos he⟩
  · cases h
def setOpW (w : World) (gs who : Nat) (op : Opr) : World := (((w.setCell ⟨gs, who * 11 + 3, none⟩ (.int .i64 op.kind)).setCell ⟨gs, who * 11 + 3 + 1, none⟩ (.int .i64 op.obj)).setCell ⟨gs, who * 11 + 3 + 2, none⟩ (.int .i64 op.a)).setCell ⟨gs, who * 11 + 3 + 3, none⟩ (.int .i64 op.b)
section
variable {w w' : World} {B gt gs who : Nat} {m : List Int} {ss : List SeatE} {s s' : SeatE} {bad : Bool}
theorem TRep.start {t : TabE} (h : TRep w B gt gs t) (hs : t.seats[who]? = some s) : TRep w B gt gs ⟨t.m, t.seats.set who s, t.bad⟩ := by
  have e : t.seats.set who s = t.seats := by
    apply List.ext_getElem?
    intro j
    by_cases ej : j = who
    · subst ej
      rw [List.getElem?_set_self (List.getElem?_eq_some_iff.1 hs).1, hs]
    · rw [List.getElem?_set_ne (fun e => ej e.symm)]
  rw [e]
  exact h
theorem at_set (hw : who < ss.length) : (⟨m, ss.set who s, bad⟩ : TabE).seats[who]? = some s := List.getElem?_set_self hw
theorem TRep.us (h : TRep w B gt gs ⟨m, ss.set who s, bad⟩) (hw : who < ss.length) {j : Nat} {v : Value} (hj : j < 11)
    (hv : ∀ lv gv, LogOk w B lv s.log → GoneOk w gv s.gone → ∃ lv' gv', (seatC lv gv s).setIfInBounds j v = seatC lv' gv' s' ∧ LogOk w B lv' s'.log ∧ GoneOk w gv' s'.gone) :
    TRep (w.setCell ⟨gs, who * 11 + j, none⟩ v) B gt gs ⟨m, ss.set who s', bad⟩ := by
  have := h.upd (at_set hw) hj hv
  simpa using this
theorem TRep.us0 (h : TRep w B gt gs ⟨m, ss.set who s, bad⟩) (hw : who < ss.length) {j : Nat} {v : Value} (hj : j < 11)
    (he : ∀ lv gv, (seatC lv gv s).setIfInBounds j v = seatC lv gv s') (hl : s'.log = s.log) (hg : s'.gone = s.gone) :
    TRep (w.setCell ⟨gs, who * 11 + j, none⟩ v) B gt gs ⟨m, ss.set who s', bad⟩ :=
  h.us hw hj fun lv gv h1 h2 => ⟨lv, gv, he lv gv, by rw [hl]; exact h1, by rw [hg]; exact h2⟩
theorem TRep.op (h : TRep w B gt gs ⟨m, ss.set who s, bad⟩) (hw : who < ss.length) (op : Opr) : TRep (setOpW w gs who op) B gt gs ⟨m, ss.set who { s with op := op }, bad⟩ := by
  have h1 := h.us0 hw (j := 3) (v := .int .i64 op.kind) (s' := { s with op := ⟨op.kind, s.op.obj, s.op.a, s.op.b⟩ }) (by decide) (fun _ _ => rfl) rfl rfl
  have h2 := h1.us0 hw (j := 4) (v := .int .i64 op.obj) (s' := { s with op := ⟨op.kind, op.obj, s.op.a, s.op.b⟩ }) (by decide) (fun _ _ => rfl) rfl rfl
  have h3 := h2.us0 hw (j := 5) (v := .int .i64 op.a) (s' := { s with op := ⟨op.kind, op.obj, op.a, s.op.b⟩ }) (by decide) (fun _ _ => rfl) rfl rfl
  exact h3.us0 hw (j := 6) (v := .int .i64 op.b) (s' := { s with op := ⟨op.kind, op.obj, op.a, op.b⟩ }) (by decide) (fun _ _ => rfl) rfl rfl
theorem Stw.op (w : World) (op : Opr) : Stw gt gs w (setOpW w gs who op) := (((Stw.setS w (who * 11 + 3) _).trans (Stw.setS _ (who * 11 + 3 + 1) _)).trans (Stw.setS _ (who * 11 + 3 + 2) _)).trans (Stw.setS _ (who * 11 + 3 + 3) _)
theorem TRep.sv (h : TRep w B gt gs ⟨m, ss.set who s, bad⟩) (hw : who < ss.length) : ∃ lv gv, SeatV w B gs who lv gv s := h.seat (at_set hw)
theorem TRep.c1 {t : TabE} (h : TRep w B gt gs t) : ∃ cc, w.cell? ⟨gt, 1, none⟩ = some (.slice (some ⟨gs, 0, none⟩) t.seats.length cc) ∧ gt < w.heap.size := by
  obtain ⟨gm, c, cc, k, _⟩ := h.mem
  refine ⟨cc, ?_, k.lt⟩
  rw [k.cell]
  rfl
end
set_option maxRecDepth 1000000 in
set_option maxHeartbeats 8000000 in
theorem twrite_any {w : World} {B gt gs : Nat} {m : List Int} {ss : List SeatE} {who : Nat} {s : SeatE} {bad : Bool} (l : Ly) (wv : Nat) (h : TRep w B gt gs ⟨m, ss.set who s, bad⟩) (hw : who < ss.length) (f : LyFull l) (hse : 1 ≤ l.c.seats ∧ l.c.seats ≤ 8) (hno : l.c.nodes ≤ 1000) (hw3 : ss.length ≤ 3) (hml : m.length ≤ 1000) (hll : s.log.length ≤ 1000) (hgl : s.gone.length ≤ 900) (hgb : ∀ x ∈ s.gone, x.1 ≤ 1000000) (hnd : s.node ≤ 1000000) (hwv : wv < 256)
    (hbad : (writeM l who wv ⟨m, s, bad⟩).bad = false) :
    Calls Try.prog 42 #[ptr gt, lyV l, .int .i64 (who : Nat), .int .i64 (wv : Nat)] w (UnitStep gt gs ⟨(writeM l who wv ⟨m, s, bad⟩).m, ss.set who (writeM l who wv ⟨m, s, bad⟩).s, (writeM l who wv ⟨m, s, bad⟩).bad⟩ w) := by
  obtain ⟨y, hy⟩ : ∃ y, writeM l who wv ⟨m, s, bad⟩ = y := ⟨_, rfl⟩
  rw [hy] at hbad ⊢
  have HY := Lib.hid (And.intro hy hbad)
  have HF := Lib.hid (And.intro f (And.intro hse (And.intro hno hgb)))
  have hba := below_al (Below.refl w.heap.size w) (.cells (lyC l) 40)
  have hx := h.top.keep hba
  have hst : Stw gt gs w _ := Stw.of_below hba
  have kL := Bk.made w 40 (lyC l)
  have hgt : gt < w.heap.size ∧ gs < w.heap.size := by
    obtain ⟨_, _, _, k, _⟩ := h.mem
    obtain ⟨_, k2, _⟩ := h.sts
    exact ⟨k.lt, k2.lt⟩
  clear h f hse hno hgb hy hbad hba
  go_enter Try.func42, Try.ntmps42
  go_upto_region 1 with fail
  generalize w.alloc (.cells (lyC l) 40) = w4 at *
  obtain ⟨bL, hbL⟩ : ∃ g, w.heap.size = g := ⟨_, rfl⟩
  have HB := Lib.hid hbL
  rw [hbL] at kL hgt ⊢
  clear hbL
  have hwl : (ss.set who s).length = ss.length := by simp
  obtain ⟨cc, c1, lT⟩ := hx.c1
  rw [hwl] at c1
  have hwi : (who : Int) < ss.length := by omega
  go_upto_region 2 with fail
  clear c1 lT hwl
  go_wp2_with (refine wpList_load_row rfl 40 (.tmp 5) rfl bL rfl 40 (lyC l) (0, 0) _ kL Try.underlying40 rfl (by kernel_rfl) ?_)
  (with_reducible refine (rcell_any l 0 _ HF.out.1).mono ?_)
  rintro e w5 ⟨rfl, hb⟩
  replace hx := hx.keep hb
  replace hst := hst.trans (Stw.of_below hb)
  replace kL := kL.keep hb
  clear hb
  obtain ⟨lv0, gv0, sv0⟩ := hx.sv hw
  have q2 := sv0.cells 2 _ rfl
  have lq := sv0.lt
  clear sv0
  have h4 : s.at_ = 0 ∨ s.at_ = 1 ∨ s.at_ = 2 ∨ 3 ≤ s.at_ := by omega
  rcases h4 with h4 | h4 | h4 | h4
  · have hyy := (write_0 (l := l) (who := who) (wv := wv) (x := ⟨m, s, bad⟩) h4).symm.trans HY.out.1
    have HYY := Lib.hid (And.intro hyy HY.out.2)
    have q2' : w5.cell? ⟨gs, who * 11 + 2, none⟩ = some (.int .i64 0) := by rw [q2]; show some (Value.int .i64 (s.at_ : Nat)) = _; rw [h4]; rfl
    clear hyy q2 HY h4
    go_upto_region 10 with fail
    clear q2' lq
    obtain ⟨lv', gv', sv⟩ := hx.sv hw
    have o3 := sv.cells 3 _ rfl
    have o4 := sv.cells 4 _ rfl
    have o5 := sv.cells 5 _ rfl
    have o6 := sv.cells 6 _ rfl
    have f3 := sv.free 3
    have f4 := sv.free 4
    have f5 := sv.free 5
    have f6 := sv.free 6
    have lS := sv.lt
    clear sv
    have hx1 := hx.op hw ⟨1, 0, 0, 0⟩
    have hst1 := hst.trans (Stw.op (gt := gt) (who := who) w5 ⟨1, 0, 0, 0⟩)
    have kL1 := (Stw.op (gt := gt) (gs := gs) (who := who) w5 ⟨1, 0, 0, 0⟩).keep kL (by omega) (by omega)
    have HX := Lib.hid (And.intro hx1 (And.intro hst1 kL1))
    clear hx1 hst1 kL1 hx hst kL
    go_upto_region 11 with fail
    clear o3 o4 o5 o6 f3 f4 f5 f6 lS
    show Code.wp Try.prog _ _ _ (setOpW w5 gs who ⟨1, 0, 0, 0⟩)
    obtain ⟨hx, hst, kL⟩ := HX.out
    clear HX
    generalize setOpW w5 gs who ⟨1, 0, 0, 0⟩ = w6 at *
    obtain ⟨z, hz⟩ : ∃ z, progM l false who ⟨m, { s with op := ⟨1, 0, 0, 0⟩ }, bad⟩ = z := ⟨_, rfl⟩
    have hyy := HYY.out
    rw [hz] at hyy
    have hzb : z.1.bad = false := by
      obtain ⟨z1, z2⟩ := z
      rcases z2 with _ | ⟨v1, v2, v3⟩
      · have h9 := congrArg Stp3.bad hyy.1
        exact h9.trans hyy.2
      · have h9 := congrArg Stp3.bad hyy.1
        exact h9.trans hyy.2
    have HZ := Lib.hid (And.intro hz hyy.1)
    clear hyy HYY
    go_wp2_with (refine wpList_load_row rfl 40 (.tmp 5) rfl bL rfl 40 (lyC l) (0, 0) _ kL Try.underlying40 rfl (by kernel_rfl) ?_)
    (with_reducible refine (tprog_any (s := { s with op := ⟨1, 0, 0, 0⟩ }) false l hx (at_set hw) HF.out.1 HF.out.2.1 HF.out.2.2.1 (by simpa using hw3) hml hll hgl HF.out.2.2.2 (show (0 : Int) ≤ 1000000 by decide) (by rw [hz]; exact hzb)).mono ?_)
    intro e w7 hpost
    dsimp only at hpost
    rw [hz] at hpost
    obtain ⟨hp1, hx7, hst7⟩ := hpost
    rw [set_set] at hx7
    replace hst := hst.trans hst7
    replace kL := hst7.keep kL (by omega) (by omega)
    clear hx hst7 hz hzb
    obtain ⟨⟨zm, zs, zb⟩, zo⟩ := z
    cases zo with
    | none =>
      dsimp only at hp1 hx7
      subst hp1
      have hfin : y = ⟨zm, zs, zb⟩ := HZ.out.2.symm
      subst hfin
      have hba := below_al (Below.refl w7.heap.size w7) (.cells outZ 63)
      have HX := Lib.hid (And.intro (hx7.keep hba).top (hst.trans (Stw.of_below hba)))
      clear hx7 hst hba HZ
      go_wp2_with (refine wpList_store_new rfl 63 (.tmp 10) (.tmp 63) rfl rfl w7.heap.size _ _ outZ rfl rfl rfl rfl (by kernel_rfl) rfl (by simp [Value.oneCell']) ?_)
      exact bodyPost_ret (v := .tuple #[]) (results_none rfl _ _ _) rfl ⟨rfl, HX.out.1, HX.out.2⟩
    | some vv =>
      obtain ⟨val, is, g⟩ := vv
      obtain ⟨err, pt, GV, nV, cV, rfl, -⟩ := hp1
      dsimp only at hx7
      have hfin : y = ⟨zm, { zs with node := val, at_ := 1, busy := is }, zb⟩ := HZ.out.2.symm
      subst hfin
      clear HZ
      have hba := below_al (Below.refl w7.heap.size w7) (.cells (outG val is err pt (.slice GV nV cV)) 63)
      have hx := hx7.keep hba
      replace hst := hst.trans (Stw.of_below (gt := gt) (gs := gs) hba)
      have k10 := Bk.made w7 63 (outG val is err pt (.slice GV nV cV))
      clear hx7 hba kL
      go_upto_region 13 with (refine wpList_store_new rfl 63 (.tmp 10) (.tmp 63) rfl rfl w7.heap.size _ _ (outG val is err pt (.slice GV nV cV)) rfl rfl rfl rfl (by kernel_rfl) rfl (by simp [Value.oneCell']) ?_)
      generalize w7.alloc (.cells (outG val is err pt (.slice GV nV cV)) 63) = w8 at *
      generalize w7.heap.size = b10 at *
      have d0 := k10.cell 0
      have l10 := k10.lt
      simp at d0
      obtain ⟨lv', gv', sv⟩ := hx.sv hw
      have o8 := sv.cells 8 _ rfl
      have f8 := sv.free 8
      have lS := sv.lt
      clear sv
      have hx1 := hx.us0 hw (j := 8) (v := (.int .i64 val)) (s' := { zs with node := val }) (by decide) (fun _ _ => rfl) rfl rfl
      have hst1 := hst.trans (Stw.setS w8 (who * 11 + 8) (.int .i64 val))
      have hne10 : b10 ≠ gs := by
        obtain ⟨_, k2, _⟩ := hx.sts
        exact bk_neT k10 k2 (by decide)
      have k10' := k10.other (p := ⟨gs, who * 11 + 8, none⟩) hne10 (.int .i64 val)
      have HX := Lib.hid (And.intro hx1 hst1)
      clear hx1 hst1 hx hst
      go_upto_region 14 with fail
      clear d0 l10
      clear o8 f8 lS
      show Code.wp Try.prog _ _ _ (w8.setCell ⟨gs, who * 11 + 8, none⟩ (.int .i64 val))
      obtain ⟨hx, hst⟩ := HX.out
      clear HX
      generalize w8.setCell ⟨gs, who * 11 + 8, none⟩ (.int .i64 val) = w9 at *
      replace k10 := k10'
      clear k10' 
      obtain ⟨lv', gv', sv⟩ := hx.sv hw
      have o2 := sv.cells 2 _ rfl
      have f2 := sv.free 2
      have lS := sv.lt
      clear sv
      have hx1 := hx.us0 hw (j := 2) (v := (.int .i64 ((1 : Nat) : Int))) (s' := { zs with node := val, at_ := 1 }) (by decide) (fun _ _ => rfl) rfl rfl
      have hst1 := hst.trans (Stw.setS w9 (who * 11 + 2) (.int .i64 ((1 : Nat) : Int)))
      have k10' := k10.other (p := ⟨gs, who * 11 + 2, none⟩) hne10 (.int .i64 ((1 : Nat) : Int))
      have HX := Lib.hid (And.intro hx1 hst1)
      clear hx1 hst1 hx hst
      go_upto_region 15 with fail
      clear o2 f2 lS
      show Code.wp Try.prog _ _ _ (w9.setCell ⟨gs, who * 11 + 2, none⟩ (.int .i64 ((1 : Nat) : Int)))
      obtain ⟨hx, hst⟩ := HX.out
      clear HX
      generalize w9.setCell ⟨gs, who * 11 + 2, none⟩ (.int .i64 ((1 : Nat) : Int)) = wa at *
      replace k10 := k10'
      clear k10'
      have d1 := k10.cell 1
      have l10 := k10.lt
      simp at d1
      obtain ⟨lv', gv', sv⟩ := hx.sv hw
      have o1 := sv.cells 1 _ rfl
      have f1 := sv.free 1
      have lS := sv.lt
      clear sv
      have hx1 := hx.us0 hw (j := 1) (v := (.bool is)) (s' := { zs with node := val, at_ := 1, busy := is }) (by decide) (fun _ _ => rfl) rfl rfl
      have hst1 := hst.trans (Stw.setS wa (who * 11 + 1) (.bool is))
      have HX := Lib.hid (And.intro hx1 hst1)
      clear hx1 hst1 hx hst
      go_wp2_with fail
      clear d1 l10
      clear o1 f1 lS
      obtain ⟨hx, hst⟩ := HX.out
      exact bodyPost_ret (v := .tuple #[]) (results_none rfl _ _ _) rfl ⟨rfl, hx.top, hst⟩
  · have hyy := (write_1 (l := l) (who := who) (wv := wv) (x := ⟨m, s, bad⟩) h4).symm.trans HY.out.1
    have hb9 := (congrArg Stp3.bad hyy).trans HY.out.2
    dsimp only at hb9
    rw [Bool.or_eq_false_iff] at hb9
    obtain ⟨he, hacc⟩ := acc_ok (m := m) (a := ⟨2, nodeAt l s.node 1, 0, 1000 * (who : Int) + wv + 1⟩) (by have := hb9.2; simpa using this)
    dsimp only at hyy
    rw [hacc] at hyy
    have HYY := Lib.hid (And.intro hyy hb9.1)
    have q2' : w5.cell? ⟨gs, who * 11 + 2, none⟩ = some (.int .i64 1) := by rw [q2]; show some (Value.int .i64 (s.at_ : Nat)) = _; rw [h4]; rfl
    have hbad1 := hb9.1
    clear hyy q2 HY h4 hb9 hacc
    go_upto_region 17 with fail
    clear q2' lq
    refine wp_region_E (S := fun w' => Bk w' bL 40 (lyC l) ∧ w'.cell? ⟨gs, who * 11 + 8, none⟩ = some (.int .i64 s.node)) (E := fun _ => false) (by kernel_rfl) ?_
    have hbd := below_drew' (Below.refl w5.heap.size w5)
    replace hx := hx.keep hbd
    replace hst := hst.trans (Stw.of_below hbd)
    replace kL := kL.keep hbd
    clear hbd
    generalize w5.drew = w6 at *
    have q8 : w6.cell? ⟨gs, who * 11 + 8, none⟩ = some (.int .i64 s.node) := by obtain ⟨_, _, sv⟩ := hx.sv hw; exact sv.cells 8 _ rfl
    refine wpAnyE_take (i := 0) (oi := _) (v := .pointer (some ⟨gt, 0, none⟩)) rfl (by kernel_rfl) (by kernel_rfl) (by kernel_rfl) (by kernel_rfl) (fun _ _ _ h => h) (Or.inl ⟨by rfl, ?_⟩) ⟨kL, q8⟩ ?_
    · intro w' hSw
      (try simp only [List.getElem_toArray, List.getElem_cons_zero])
      go_simp
    (try simp only [List.getElem_toArray, List.getElem_cons_zero, Act.put, List.setIfInBounds_toArray, List.set_cons_zero, List.set_cons_succ])
    refine wpAnyE_take (i := 1) (oi := _) (v := .agg (lyC l)) rfl (by kernel_rfl) (by kernel_rfl) (by kernel_rfl) (by kernel_rfl) (fun _ _ _ h => h) (Or.inl ⟨by rfl, ?_⟩) ⟨kL, q8⟩ ?_
    · intro w' hSw
      (try simp only [List.getElem_toArray, List.getElem_cons_succ, List.getElem_cons_zero])
      simp only [execOp, Instr.loadAt, Instr.sureAddr, Sem.run_bind, Sem.run_pure]
      rw [show (Act.eval _ (Operand.tmp 5)) = Value.pointer (some ⟨bL, 0, none⟩) from rfl]
      simp only [Sem.run_pure, Result.andThen_ok, run_loadVar_row w' bL 40 40 (lyC l) (0, 0) _ hSw.1 Try.underlying40 rfl (by kernel_rfl)]
    (try simp only [List.getElem_toArray, List.getElem_cons_succ, List.getElem_cons_zero, Act.put, List.setIfInBounds_toArray, List.set_cons_zero, List.set_cons_succ])
    refine wpAnyE_take (i := 2) (oi := _) (v := .pointer (some ⟨gs, who * 11, none⟩)) rfl (by kernel_rfl) (by kernel_rfl) (by kernel_rfl) (by kernel_rfl) (fun _ _ _ h => h) (Or.inl ⟨by rfl, ?_⟩) ⟨kL, q8⟩ ?_
    · intro w' hSw
      (try simp only [List.getElem_toArray, List.getElem_cons_succ, List.getElem_cons_zero])
      go_simp
    (try simp only [List.getElem_toArray, List.getElem_cons_succ, List.getElem_cons_zero, Act.put, List.setIfInBounds_toArray, List.set_cons_zero, List.set_cons_succ])
    refine wpAnyE_take (i := 3) (oi := _) (v := .pointer (some ⟨gs, who * 11, none⟩)) rfl (by kernel_rfl) (by kernel_rfl) (by kernel_rfl) (by kernel_rfl) (fun _ _ _ h => h) (Or.inl ⟨by rfl, ?_⟩) ⟨kL, q8⟩ ?_
    · intro w' hSw
      (try simp only [List.getElem_toArray, List.getElem_cons_succ, List.getElem_cons_zero])
      go_simp
    (try simp only [List.getElem_toArray, List.getElem_cons_succ, List.getElem_cons_zero, Act.put, List.setIfInBounds_toArray, List.set_cons_zero, List.set_cons_succ])
    refine wpAnyE_take (i := 4) (oi := _) (v := .pointer (some ⟨gs, who * 11 + 8, none⟩)) rfl (by kernel_rfl) (by kernel_rfl) (by kernel_rfl) (by kernel_rfl) (fun _ _ _ h => h) (Or.inl ⟨by rfl, ?_⟩) ⟨kL, q8⟩ ?_
    · intro w' hSw
      (try simp only [List.getElem_toArray, List.getElem_cons_succ, List.getElem_cons_zero])
      go_simp
    (try simp only [List.getElem_toArray, List.getElem_cons_succ, List.getElem_cons_zero, Act.put, List.setIfInBounds_toArray, List.set_cons_zero, List.set_cons_succ])
    refine wpAnyE_take (i := 5) (oi := _) (v := .int .i64 s.node) rfl (by kernel_rfl) (by kernel_rfl) (by kernel_rfl) (by kernel_rfl) (fun _ _ _ h => h) (Or.inl ⟨by rfl, ?_⟩) ⟨kL, q8⟩ ?_
    · intro w' hSw
      have s1 := hSw.2
      (try simp at s1)
      (try simp only [List.getElem_toArray, List.getElem_cons_succ, List.getElem_cons_zero])
      go_simp
    (try simp only [List.getElem_toArray, List.getElem_cons_succ, List.getElem_cons_zero, Act.put, List.setIfInBounds_toArray, List.set_cons_zero, List.set_cons_succ])
    refine wpAnyE_take (i := 7) (oi := _) (v := .int .i64 (who : Nat)) rfl (by kernel_rfl) (by kernel_rfl) (by kernel_rfl) (by kernel_rfl) (fun _ _ _ h => h) (Or.inl ⟨by rfl, ?_⟩) ⟨kL, q8⟩ ?_
    · intro w' hSw
      (try simp only [List.getElem_toArray, List.getElem_cons_succ, List.getElem_cons_zero])
      go_simp
    (try simp only [List.getElem_toArray, List.getElem_cons_succ, List.getElem_cons_zero, Act.put, List.setIfInBounds_toArray, List.set_cons_zero, List.set_cons_succ])
    refine wpAnyE_take (i := 8) (oi := _) (v := .int .i64 (1000 * (who : Int))) rfl (by kernel_rfl) (by kernel_rfl) (by kernel_rfl) (by kernel_rfl) (fun _ _ _ h => h) (Or.inl ⟨by rfl, ?_⟩) ⟨kL, q8⟩ ?_
    · intro w' hSw
      have hw1 : IntKind.i64.wrap (1000 * (who : Int)) = 1000 * (who : Int) := IntWalk.i64_in _ (by omega)
      (try simp only [List.getElem_toArray, List.getElem_cons_succ, List.getElem_cons_zero])
      go_simp
    (try simp only [List.getElem_toArray, List.getElem_cons_succ, List.getElem_cons_zero, Act.put, List.setIfInBounds_toArray, List.set_cons_zero, List.set_cons_succ])
    refine wpAnyE_take (i := 9) (oi := _) (v := .int .i64 (wv : Nat)) rfl (by kernel_rfl) (by kernel_rfl) (by kernel_rfl) (by kernel_rfl) (fun _ _ _ h => h) (Or.inl ⟨by rfl, ?_⟩) ⟨kL, q8⟩ ?_
    · intro w' hSw
      (try simp only [List.getElem_toArray, List.getElem_cons_succ, List.getElem_cons_zero])
      go_simp
    (try simp only [List.getElem_toArray, List.getElem_cons_succ, List.getElem_cons_zero, Act.put, List.setIfInBounds_toArray, List.set_cons_zero, List.set_cons_succ])
    refine wpAnyE_take (i := 10) (oi := _) (v := .int .i64 (1000 * (who : Int) + wv)) rfl (by kernel_rfl) (by kernel_rfl) (by kernel_rfl) (by kernel_rfl) (fun _ _ _ h => h) (Or.inl ⟨by rfl, ?_⟩) ⟨kL, q8⟩ ?_
    · intro w' hSw
      have hw1 : IntKind.i64.wrap (1000 * (who : Int) + wv) = 1000 * (who : Int) + wv := IntWalk.i64_in _ (by omega)
      (try simp only [List.getElem_toArray, List.getElem_cons_succ, List.getElem_cons_zero])
      go_simp
    (try simp only [List.getElem_toArray, List.getElem_cons_succ, List.getElem_cons_zero, Act.put, List.setIfInBounds_toArray, List.set_cons_zero, List.set_cons_succ])
    refine wpAnyE_take (i := 11) (oi := _) (v := .int .i64 (1000 * (who : Int) + wv + 1)) rfl (by kernel_rfl) (by kernel_rfl) (by kernel_rfl) (by kernel_rfl) (fun _ _ _ h => h) (Or.inl ⟨by rfl, ?_⟩) ⟨kL, q8⟩ ?_
    · intro w' hSw
      have hw1 : IntKind.i64.wrap (1000 * (who : Int) + wv + 1) = 1000 * (who : Int) + wv + 1 := IntWalk.i64_in _ (by omega)
      (try simp only [List.getElem_toArray, List.getElem_cons_succ, List.getElem_cons_zero])
      go_simp
    (try simp only [List.getElem_toArray, List.getElem_cons_succ, List.getElem_cons_zero, Act.put, List.setIfInBounds_toArray, List.set_cons_zero, List.set_cons_succ])
    refine wpAnyE_one (i := 6) (o := _) (by kernel_rfl) rfl (fun K hK => ?_)
    (try simp only [List.getElem_toArray, List.getElem_cons_succ, List.getElem_cons_zero])
    go_simp
    (with_reducible refine (rnode_any l s.node 1 _ HF.out.1).mono ?_)
    rintro e w7 ⟨rfl, hb⟩
    replace hx := hx.keep hb
    replace hst := hst.trans (Stw.of_below hb)
    replace kL := kL.keep hb
    replace q8 : w7.cell? ⟨gs, who * 11 + 8, none⟩ = some (.int .i64 s.node) := by obtain ⟨_, _, sv⟩ := hx.sv hw; exact sv.cells 8 _ rfl
    clear hb
    refine hK.out _ _ (fun _ => ⟨kL, q8⟩) ?_
    clear hK K
    (try simp only [List.getElem_toArray, List.getElem_cons_succ, List.getElem_cons_zero, Act.put, List.setIfInBounds_toArray, List.set_cons_zero, List.set_cons_succ])
    refine wpAnyE_take (i := 12) (oi := _) (v := .agg (accC 2 (nodeAt l s.node 1) 0 (1000 * (who : Int) + wv + 1))) rfl (by kernel_rfl) (by kernel_rfl) (by kernel_rfl) (by kernel_rfl) (fun _ _ _ h => h) (Or.inl ⟨by rfl, ?_⟩) ⟨kL, q8⟩ ?_
    · intro w' hSw
      (try simp only [List.getElem_toArray, List.getElem_cons_succ, List.getElem_cons_zero])
      go_simp
    (try simp only [List.getElem_toArray, List.getElem_cons_succ, List.getElem_cons_zero, Act.put, List.setIfInBounds_toArray, List.set_cons_zero, List.set_cons_succ])
    refine wpAnyE_one (i := 13) (o := _) (by kernel_rfl) rfl (fun K hK => ?_)
    (try simp only [List.getElem_toArray, List.getElem_cons_succ, List.getElem_cons_zero])
    go_simp
    (with_reducible refine (access_any hx (by have := HB.out; have := kL.lt; omega) 2 (nodeAt l s.node 1) 0 (1000 * (who : Int) + wv + 1) hml he).mono ?_)
    rintro e w8 ⟨rfl, hx8, hst8⟩
    replace hst := hst.trans hst8.weak
    replace kL := hst8.keep kL (by omega) (by omega)
    clear hx hst8 q8
    have hx := hx8
    clear hx8
    have q8 : w8.cell? ⟨gs, who * 11 + 8, none⟩ = some (.int .i64 s.node) := by obtain ⟨_, _, sv⟩ := hx.sv hw; exact sv.cells 8 _ rfl
    refine hK.out _ _ (fun _ => ⟨kL, q8⟩) ?_
    clear hK K
    (try simp only [])
    refine wpAnyE_done (by kernel_rfl) ?_ _
    clear q8
    subst hbad1
    have hfin := HYY.out.1
    subst hfin
    clear HYY
    dsimp only at hx
    generalize (⟨2, nodeAt l s.node 1, 0, 1000 * (who : Int) + wv + 1⟩ : Acc).make m = mm at *
    obtain ⟨lv', gv', sv⟩ := hx.sv hw
    have o2 := sv.cells 2 _ rfl
    have f2 := sv.free 2
    have lS := sv.lt
    clear sv
    have hx1 := hx.us0 hw (j := 2) (v := (.int .i64 ((2 : Nat) : Int))) (s' := { s with at_ := 2 }) (by decide) (fun _ _ => rfl) rfl rfl
    have hst1 := hst.trans (Stw.setS w8 (who * 11 + 2) (.int .i64 ((2 : Nat) : Int)))
    have HX := Lib.hid (And.intro hx1 hst1)
    clear hx1 hst1 hx hst
    go_wp2_with fail
    clear o2 f2 lS
    obtain ⟨hx, hst⟩ := HX.out
    exact bodyPost_ret (v := .tuple #[]) (results_none rfl _ _ _) rfl ⟨rfl, hx.top, hst⟩
  · have hyy := (write_2 (l := l) (who := who) (wv := wv) (x := ⟨m, s, bad⟩) h4).symm.trans HY.out.1
    have hb9 := (congrArg Stp3.bad hyy).trans HY.out.2
    dsimp only at hb9
    rw [Bool.or_eq_false_iff] at hb9
    obtain ⟨he, hacc⟩ := acc_ok (m := m) (a := ⟨5, cellAt l 0, 0, s.node⟩) (by have := hb9.2; simpa using this)
    dsimp only at hyy
    rw [hacc] at hyy
    have HYY := Lib.hid (And.intro hyy hb9.1)
    have q2' : w5.cell? ⟨gs, who * 11 + 2, none⟩ = some (.int .i64 2) := by rw [q2]; show some (Value.int .i64 (s.at_ : Nat)) = _; rw [h4]; rfl
    have hbad1 := hb9.1
    clear hyy q2 HY h4 hb9 hacc
    have q8 : w5.cell? ⟨gs, who * 11 + 8, none⟩ = some (.int .i64 s.node) := by obtain ⟨_, _, sv⟩ := hx.sv hw; exact sv.cells 8 _ rfl
    go_wp2_with fail
    (with_reducible refine (access_any hx (by have := HB.out; have := kL.lt; omega) 5 (cellAt l 0) 0 s.node hml he).mono ?_)
    rintro e w6 ⟨rfl, hx8, hst8⟩
    replace hst := hst.trans hst8.weak
    clear hx hst8 q8 q2' lq kL
    have hx := hx8
    clear hx8
    subst hbad1
    have hfin := HYY.out.1
    subst hfin
    clear HYY
    dsimp only at hx
    generalize (⟨5, cellAt l 0, 0, s.node⟩ : Acc).make m = mm at *
    generalize (⟨5, cellAt l 0, 0, s.node⟩ : Acc).had m = had at *
    generalize (⟨5, cellAt l 0, 0, s.node⟩ : Acc).ok had = gok at *
    have hba := below_al (Below.refl w6.heap.size w6) (.cells #[.int .i64 had, .bool gok] 67)
    replace hx := hx.keep hba
    replace hst := hst.trans (Stw.of_below (gt := gt) (gs := gs) hba)
    have k10 := Bk.made w6 67 #[.int .i64 had, .bool gok]
    clear hba
    go_upto_region 21 with (refine wpList_store_new rfl 67 (.tmp 12) (.tmp 109) rfl rfl w6.heap.size _ _ #[.int .i64 had, .bool gok] rfl rfl rfl rfl (by kernel_rfl) rfl (by simp [Value.oneCell']) ?_)
    generalize w6.alloc (.cells #[.int .i64 had, .bool gok] 67) = w8 at *
    generalize w6.heap.size = b10 at *
    have d0 := k10.cell 0
    have l10 := k10.lt
    simp at d0
    have hne10 : b10 ≠ gs := by
      obtain ⟨_, k2, _⟩ := hx.sts
      exact bk_neT k10 k2 (by decide)
    obtain ⟨lv', gv', sv⟩ := hx.sv hw
    have o8 := sv.cells 8 _ rfl
    have f8 := sv.free 8
    have lS := sv.lt
    clear sv
    have hx1 := hx.us0 hw (j := 8) (v := (.int .i64 had)) (s' := { s with node := had }) (by decide) (fun _ _ => rfl) rfl rfl
    have hst1 := hst.trans (Stw.setS w8 (who * 11 + 8) (.int .i64 had))
    have k10' := k10.other (p := ⟨gs, who * 11 + 8, none⟩) hne10 (.int .i64 had)
    have HX := Lib.hid (And.intro hx1 hst1)
    clear hx1 hst1 hx hst
    go_upto_region 22 with fail
    clear d0 l10
    clear o8 f8 lS
    show Code.wp Try.prog _ _ _ (w8.setCell ⟨gs, who * 11 + 8, none⟩ (.int .i64 had))
    obtain ⟨hx, hst⟩ := HX.out
    clear HX
    generalize w8.setCell ⟨gs, who * 11 + 8, none⟩ (.int .i64 had) = w9 at *
    replace k10 := k10'
    clear k10' 
    obtain ⟨lv', gv', sv⟩ := hx.sv hw
    have o2 := sv.cells 2 _ rfl
    have f2 := sv.free 2
    have lS := sv.lt
    clear sv
    have hx1 := hx.us0 hw (j := 2) (v := (.int .i64 ((3 : Nat) : Int))) (s' := { s with node := had, at_ := 3 }) (by decide) (fun _ _ => rfl) rfl rfl
    have hst1 := hst.trans (Stw.setS w9 (who * 11 + 2) (.int .i64 ((3 : Nat) : Int)))
    have k10' := k10.other (p := ⟨gs, who * 11 + 2, none⟩) hne10 (.int .i64 ((3 : Nat) : Int))
    have HX := Lib.hid (And.intro hx1 hst1)
    clear hx1 hst1 hx hst
    go_upto_region 23 with fail
    clear o2 f2 lS
    show Code.wp Try.prog _ _ _ (w9.setCell ⟨gs, who * 11 + 2, none⟩ (.int .i64 ((3 : Nat) : Int)))
    obtain ⟨hx, hst⟩ := HX.out
    clear HX
    generalize w9.setCell ⟨gs, who * 11 + 2, none⟩ (.int .i64 ((3 : Nat) : Int)) = wa at *
    replace k10 := k10'
    clear k10'
    have d0 := k10.cell 0
    have l10 := k10.lt
    simp at d0
    obtain ⟨nz, hnz⟩ : ∃ z, decide (had ≠ 0) = z := ⟨_, rfl⟩
    have e1 : (had != 0) = nz := by rw [← hnz]; cases h : (had != 0) <;> simp_all
    rw [hnz]
    clear hnz
    obtain ⟨lv', gv', sv⟩ := hx.sv hw
    have o1 := sv.cells 1 _ rfl
    have f1 := sv.free 1
    have lS := sv.lt
    clear sv
    have hx1 := hx.us0 hw (j := 1) (v := (.bool nz)) (s' := { s with node := had, at_ := 3, busy := nz }) (by decide) (fun _ _ => rfl) rfl rfl
    have hst1 := hst.trans (Stw.setS wa (who * 11 + 1) (.bool nz))
    have HX := Lib.hid (And.intro hx1 hst1)
    clear hx1 hst1 hx hst
    go_wp2_with fail
    clear d0 l10
    clear o1 f1 lS
    obtain ⟨hx, hst⟩ := HX.out
    exact bodyPost_ret (v := .tuple #[]) (results_none rfl _ _ _) rfl ⟨rfl, hx.top, hst⟩
  · have hyy := (write_3 (l := l) (who := who) (wv := wv) (x := ⟨m, s, bad⟩) h4).symm.trans HY.out.1
    have HYY := Lib.hid (And.intro hyy HY.out.2)
    obtain ⟨av, hav⟩ : ∃ a : Int, ((s.at_ : Nat) : Int) = a := ⟨_, rfl⟩
    have q2' : w5.cell? ⟨gs, who * 11 + 2, none⟩ = some (.int .i64 av) := by rw [q2, ← hav]; rfl
    have e0 : (av == 0) = false := by simp; omega
    have e0' : decide (av = 0) = false := by simp; omega
    have e1 : (av == 1) = false := by simp; omega
    have e1' : decide (av = 1) = false := by simp; omega
    have e2 : (av == 2) = false := by simp; omega
    have e2' : decide (av = 2) = false := by simp; omega
    clear hyy q2 HY h4 hav
    go_upto_region 4 with fail
    clear q2' lq e0 e0' e1 e1' e2 e2'
    obtain ⟨lv', gv', sv⟩ := hx.sv hw
    have o3 := sv.cells 3 _ rfl
    have o4 := sv.cells 4 _ rfl
    have o5 := sv.cells 5 _ rfl
    have o6 := sv.cells 6 _ rfl
    have o8 := sv.cells 8 _ rfl
    have f3 := sv.free 3
    have f4 := sv.free 4
    have f5 := sv.free 5
    have f6 := sv.free 6
    have lS := sv.lt
    clear sv
    have hx1 := hx.op hw ⟨3, 0, s.node, 0⟩
    have hst1 := hst.trans (Stw.op (gt := gt) (who := who) w5 ⟨3, 0, s.node, 0⟩)
    have kL1 := (Stw.op (gt := gt) (gs := gs) (who := who) w5 ⟨3, 0, s.node, 0⟩).keep kL (by omega) (by omega)
    have HX := Lib.hid (And.intro hx1 (And.intro hst1 kL1))
    clear hx1 hst1 kL1 hx hst kL
    go_upto_region 5 with fail
    clear o3 o4 o5 o6 o8 f3 f4 f5 f6 lS
    show Code.wp Try.prog _ _ _ (setOpW w5 gs who ⟨3, 0, s.node, 0⟩)
    obtain ⟨hx, hst, kL⟩ := HX.out
    clear HX
    generalize setOpW w5 gs who ⟨3, 0, s.node, 0⟩ = w6 at *
    obtain ⟨z, hz⟩ : ∃ z, progM l true who ⟨m, { s with op := ⟨3, 0, s.node, 0⟩ }, bad⟩ = z := ⟨_, rfl⟩
    have hyy := HYY.out
    rw [hz] at hyy
    have hzb : z.1.bad = false := by
      obtain ⟨z1, z2⟩ := z
      rcases z2 with _ | ⟨v1, v2, v3⟩
      · have h9 := congrArg Stp3.bad hyy.1
        exact h9.trans hyy.2
      · have h9 := congrArg Stp3.bad hyy.1
        exact h9.trans hyy.2
    have HZ := Lib.hid (And.intro hz hyy.1)
    clear hyy HYY
    go_wp2_with (refine wpList_load_row rfl 40 (.tmp 5) rfl bL rfl 40 (lyC l) (0, 0) _ kL Try.underlying40 rfl (by kernel_rfl) ?_)
    (with_reducible refine (tprog_any (s := { s with op := ⟨3, 0, s.node, 0⟩ }) true l hx (at_set hw) HF.out.1 HF.out.2.1 HF.out.2.2.1 (by simpa using hw3) hml hll hgl HF.out.2.2.2 (show s.node ≤ 1000000 from hnd) (by rw [hz]; exact hzb)).mono ?_)
    intro e w7 hpost
    dsimp only at hpost
    rw [hz] at hpost
    obtain ⟨hp1, hx7, hst7⟩ := hpost
    rw [set_set] at hx7
    replace hst := hst.trans hst7
    replace kL := hst7.keep kL (by omega) (by omega)
    clear hx hst7 hz hzb
    obtain ⟨⟨zm, zs, zb⟩, zo⟩ := z
    cases zo with
    | none =>
      dsimp only at hp1 hx7
      subst hp1
      have hfin : y = ⟨zm, zs, zb⟩ := HZ.out.2.symm
      subst hfin
      have hba := below_al (Below.refl w7.heap.size w7) (.cells outZ 63)
      have HX := Lib.hid (And.intro (hx7.keep hba).top (hst.trans (Stw.of_below hba)))
      clear hx7 hst hba HZ
      go_wp2_with (refine wpList_store_new rfl 63 (.tmp 14) (.tmp 41) rfl rfl w7.heap.size _ _ outZ rfl rfl rfl rfl (by kernel_rfl) rfl (by simp [Value.oneCell']) ?_)
      exact bodyPost_ret (v := .tuple #[]) (results_none rfl _ _ _) rfl ⟨rfl, HX.out.1, HX.out.2⟩
    | some vv =>
      obtain ⟨val, is, g⟩ := vv
      obtain ⟨err, pt, GV, nV, cV, rfl, hgo⟩ := hp1
      replace hgo := hgo rfl
      dsimp only at hx7
      have hfin : y = ⟨zm, { zs with gone := g, busy := false }, zb⟩ := HZ.out.2.symm
      subst hfin
      clear HZ
      have hba := below_al (Below.refl w7.heap.size w7) (.cells (outG val is err pt (.slice GV nV cV)) 63)
      have hx := hx7.keep hba
      replace hst := hst.trans (Stw.of_below (gt := gt) (gs := gs) hba)
      have k10 := Bk.made w7 63 (outG val is err pt (.slice GV nV cV))
      replace hgo := hgo.mv fun b cs kb => kb.keep hba
      clear hx7 hba kL
      go_upto_region 7 with (refine wpList_store_new rfl 63 (.tmp 14) (.tmp 41) rfl rfl w7.heap.size _ _ (outG val is err pt (.slice GV nV cV)) rfl rfl rfl rfl (by kernel_rfl) rfl (by simp [Value.oneCell']) ?_)
      generalize w7.alloc (.cells (outG val is err pt (.slice GV nV cV)) 63) = w8 at *
      generalize w7.heap.size = b10 at *
      have d4 := k10.cell 4
      have l10 := k10.lt
      simp at d4
      obtain ⟨lv', gv', sv⟩ := hx.sv hw
      have o10 := sv.cells 10 _ rfl
      have f10 := sv.free 10
      have lS := sv.lt
      clear sv
      have hx1 := hx.us hw (j := 10) (v := (.slice GV nV cV)) (s' := { zs with gone := g }) (by decide) (fun lv gv h1 h2 => ⟨lv, (.slice GV nV cV), rfl, h1, hgo⟩)
      have hst1 := hst.trans (Stw.setS w8 (who * 11 + 10) (.slice GV nV cV))
      have HX := Lib.hid (And.intro hx1 hst1)
      clear hx1 hst1 hx hst hgo k10
      go_upto_region 8 with fail
      clear o10 f10 lS d4 l10
      show Code.wp Try.prog _ _ _ (w8.setCell ⟨gs, who * 11 + 10, none⟩ (.slice GV nV cV))
      obtain ⟨hx, hst⟩ := HX.out
      clear HX
      generalize w8.setCell ⟨gs, who * 11 + 10, none⟩ (.slice GV nV cV) = w9 at *
      obtain ⟨lv', gv', sv⟩ := hx.sv hw
      have o1 := sv.cells 1 _ rfl
      have f1 := sv.free 1
      have lS := sv.lt
      clear sv
      have hx1 := hx.us0 hw (j := 1) (v := (.bool false)) (s' := { zs with gone := g, busy := false }) (by decide) (fun _ _ => rfl) rfl rfl
      have hst1 := hst.trans (Stw.setS w9 (who * 11 + 1) (.bool false))
      have HX := Lib.hid (And.intro hx1 hst1)
      clear hx1 hst1 hx hst
      go_wp2_with fail
      clear o1 f1 lS
      obtain ⟨hx, hst⟩ := HX.out
      exact bodyPost_ret (v := .tuple #[]) (results_none rfl _ _ _) rfl ⟨rfl, hx.top, hst⟩
end Go.Proofs.Ytgjdjgainjedhaa
