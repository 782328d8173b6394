/- The table's look. Printed by lk_gen.py. -/
import Derived.Test.YtgjdjgainjedhaaEWr
namespace Go.Proofs.Ytgjdjgainjedhaa
open Go.RowKit
set_option linter.unusedVariables false
attribute [local go_sem ↓] Go.wp_at_zero Go.wp_at_succ

theorem look_0 {l : Ly} {who : Nat} {x : Stp3} (h : x.s.at_ = 0) : lookM l who x = (match progM l true who ⟨x.m, { x.s with op := ⟨1, 0, 0, cellAt l 0⟩ }, x.bad⟩ with
    | (y, some (val, _, _)) => ⟨y.m, { y.s with node := val, at_ := if val = 0 then 3 else 1 }, y.bad⟩
    | (y, none) => y) := by unfold lookM; rw [if_pos h]; rfl
theorem look_1 {l : Ly} {who : Nat} {x : Stp3} (h : x.s.at_ = 1 ∨ x.s.at_ = 2) : lookM l who x = ⟨(accM x.m ⟨1, nodeAt l x.s.node 1, 0, 0⟩).1, { x.s with read := (accM x.m ⟨1, nodeAt l x.s.node 1, 0, 0⟩).2.1.1, at_ := x.s.at_ + 1 },
      x.bad || (!(accM x.m ⟨1, nodeAt l x.s.node 1, 0, 0⟩).2.2 || (decide (x.s.at_ = 2 ∧ (accM x.m ⟨1, nodeAt l x.s.node 1, 0, 0⟩).2.1.1 ≠ x.s.read) || decide ((accM x.m ⟨1, nodeAt l x.s.node 1, 0, 0⟩).2.1.1 = 0)))⟩ := by
  unfold lookM
  rw [if_neg (by omega), if_pos h]
theorem look_3 {l : Ly} {who : Nat} {x : Stp3} (h : 3 ≤ x.s.at_) : lookM l who x = (match progM l true who ⟨x.m, { x.s with op := ⟨2, 0, 0, 0⟩ }, x.bad⟩ with
    | (y, some _) => ⟨y.m, { y.s with busy := false }, y.bad⟩
    | (y, none) => y) := by
  unfold lookM
  rw [if_neg (by omega), if_neg (by omega)]
  rfl
theorem set_self {m : List Int} {c : Nat} : m.set c (m.getD c 0) = m := by
  apply List.ext_getElem?
  intro j
  by_cases e : j = c
  · subst e
    by_cases hj : j < m.length
    · rw [List.getElem?_set_self hj, List.getD_eq_getElem?_getD, List.getElem?_eq_getElem hj]; rfl
    · rw [List.getElem?_eq_none (by simp; omega), List.getElem?_eq_none (by omega)]
  · rw [List.getElem?_set_ne (fun e' => e e'.symm)]
/-! The region that makes an access beside an alloc. -/
def lkP : Nat → List Nat | 7 => [6] | 8 => [7] | 9 => [8] | 10 => [9] | 11 => [9] | 13 => [8, 10, 12] | 14 => [11] | _ => []
def lkT : Nat → Nat | 6 => 80 | 7 => 81 | 8 => 82 | 9 => 73 | 10 => 83 | 11 => 84 | 12 => 9 | 14 => 10 | _ => 130
abbrev resZ : Array Value := #[.int .i64 0, .bool false]
def lkR (B gt gs : Nat) (t1 : TabE) (nd had : Int) (gok : Bool) (i : Nat) (val : Nat → Option Value) (v : Value) (w : World) : Prop :=
  if i = 6 then v = .int .i64 nd
  else if i = 7 then v = .agg (accC 1 nd 0 0)
  else if i = 8 then v = .tuple #[resV had gok, .bool true] ∧ TRep w B gt gs t1
  else if i = 9 then v = .tuple #[resV had gok, .bool true]
  else if i = 10 then v = resV had gok
  else if i = 11 then v = .bool true
  else if i = 12 then ∃ g, v = ptr g ∧ B ≤ g ∧ (val 13 = none → Bk w g 67 resZ)
  else if i = 13 then ∃ g, val 12 = some (ptr g) ∧ B ≤ g ∧ Bk w g 67 #[.int .i64 had, .bool gok]
  else v = .bool true
def lkG (B gt gs : Nat) (i : Nat) (w1 w2 : World) : Prop := if i = 8 then Stw gt gt w1 w2 else if i = 13 then KeptT 67 w1 w2 ∧ Below B w1 w2 else Below w1.heap.size w1 w2
def lkN (B gt gs : Nat) (t0 : TabE) (i : Nat) (w : World) : Prop := i = 8 → TRep w B gt gs t0
theorem lkN_at {B gt gs : Nat} {t : TabE} {w : World} (h : lkN B gt gs t 8 w) : TRep w B gt gs t := h rfl
theorem lk_trep {B gt gs : Nat} {t : TabE} {j : Nat} {w1 w2 : World} (h : TRep w1 B gt gs t) (hj : j ≠ 8) (hg : lkG B gt gs j w1 w2) : TRep w2 B gt gs t := by
  unfold lkG at hg
  rw [if_neg hj] at hg
  split at hg
  · refine h.mv fun b ty cs ho hr kb => ?_
    by_cases e : ty = 67
    · exact (hg.2.block b (hr e)).trans kb
    · exact kb.keptT hg.1 e
  · exact h.keep hg
theorem lk_T {B gt gs : Nat} {j : Nat} {w0 w1 w2 : World} (h : Stw gt gt w0 w1) (hB : w0.heap.size = B) (hg : lkG B gt gs j w1 w2) : Stw gt gt w0 w2 := by
  unfold lkG at hg
  split at hg
  · exact h.trans hg
  · split at hg
    · have hb := hg.2
      exact ⟨hb.os.trans h.os, hb.tape.trans h.tape, hb.output.trans h.output, Nat.le_trans h.size hb.size, fun b h1 h2 h3 => (hb.block b (by omega)).trans (h.block b h1 h2 h3)⟩
    · exact h.trans (Stw.of_below hg)
theorem lk_R {B gt gs : Nat} {t1 : TabE} {nd had : Int} {gok : Bool} (hgt : gt < B ∧ gs < B) {i j : Nat} (hij : i ≠ j) {val : Nat → Option Value} {v u : Value} {w1 w2 : World} (hi : val i = some v) (hj : val j = none)
    (h : lkR B gt gs t1 nd had gok i val v w1) (hg : lkG B gt gs j w1 w2) : lkR B gt gs t1 nd had gok i (upd val j u) v w2 := by
  have hv : ∀ k x, val k = some x → upd val j u k = some x := fun k x hk => by
    simp only [upd]
    split
    · rename_i e; subst e; rw [hj] at hk; cases hk
    · exact hk
  have hn : ∀ k, upd val j u k = none → val k = none ∧ k ≠ j := fun k hk => by
    simp only [upd] at hk
    split at hk
    · cases hk
    · rename_i e; exact ⟨hk, e⟩
  have hk : ∀ {g : Nat} {c : Array Value}, B ≤ g → j ≠ 13 → Bk w1 g 67 c → Bk w2 g 67 c := by
    intro g c hgB hne k
    unfold lkG at hg
    split at hg
    · exact hg.keep k (by omega) (by omega)
    · first
        | exact k.keep hg
        | (rw [if_neg hne] at hg; exact k.keep hg)
  unfold lkR at h ⊢
  split
  · rename_i e; rw [if_pos e] at h; exact h
  rename_i e0
  rw [if_neg e0] at h
  split
  · rename_i e; rw [if_pos e] at h; exact h
  rename_i e1
  rw [if_neg e1] at h
  split
  · rename_i e
    rw [if_pos e] at h
    exact ⟨h.1, lk_trep h.2 (fun e' => hij (e.trans e'.symm)) hg⟩
  rename_i e2
  rw [if_neg e2] at h
  split
  · rename_i e; rw [if_pos e] at h; exact h
  rename_i e3
  rw [if_neg e3] at h
  split
  · rename_i e; rw [if_pos e] at h; exact h
  rename_i e4
  rw [if_neg e4] at h
  split
  · rename_i e; rw [if_pos e] at h; exact h
  rename_i e5
  rw [if_neg e5] at h
  split
  · rename_i e
    rw [if_pos e] at h
    obtain ⟨g, h1, h2, h3⟩ := h
    exact ⟨g, h1, h2, fun q => hk h2 (fun e' => (hn _ q).2 e'.symm) (h3 (hn _ q).1)⟩
  rename_i e6
  rw [if_neg e6] at h
  split
  · rename_i e
    rw [if_pos e] at h
    obtain ⟨g, h1, h2, h3⟩ := h
    exact ⟨g, hv _ _ h1, h2, hk h2 (fun e' => hij (e.trans e'.symm)) h3⟩
  rename_i e7
  rw [if_neg e7] at h
  exact h
set_option maxRecDepth 1000000 in
set_option maxHeartbeats 8000000 in
theorem tlook_any {w : World} {B gt gs : Nat} {m : List Int} {ss : List SeatE} {who : Nat} {s : SeatE} {bad : Bool} (l : Ly) (h : TRep w B gt gs ⟨m, ss.set who s, bad⟩) (hw : who < ss.length) (f : LyFull l) (hse : 1 ≤ l.c.seats ∧ l.c.seats ≤ 8) (hno : l.c.nodes ≤ 1000) (hw3 : ss.length ≤ 3) (hml : m.length ≤ 1000) (hll : s.log.length ≤ 1000) (hgl : s.gone.length ≤ 900) (hgb : ∀ x ∈ s.gone, x.1 ≤ 1000000) (hat : s.at_ ≤ 3)
    (hbad : (lookM l who ⟨m, s, bad⟩).bad = false) :
    Calls Try.prog 43 #[ptr gt, lyV l, .int .i64 (who : Nat)] w (UnitStep gt gs ⟨(lookM l who ⟨m, s, bad⟩).m, ss.set who (lookM l who ⟨m, s, bad⟩).s, (lookM l who ⟨m, s, bad⟩).bad⟩ w) := by
  obtain ⟨y, hy⟩ : ∃ y, lookM l who ⟨m, s, bad⟩ = y := ⟨_, rfl⟩
  rw [hy] at hbad ⊢
  have HY := Lib.hid (And.intro hy hbad)
  have HF := Lib.hid (And.intro f (And.intro hse (And.intro hno hgb)))
  have hba := below_al (Below.refl w.heap.size w) (.cells (lyC l) 40)
  have hx := h.top.keep hba
  have hst : Stw gt gs w _ := Stw.of_below hba
  have kL := Bk.made w 40 (lyC l)
  have hgt : gt < w.heap.size ∧ gs < w.heap.size := by
    obtain ⟨_, _, _, k, _⟩ := h.mem
    obtain ⟨_, k2, _⟩ := h.sts
    exact ⟨k.lt, k2.lt⟩
  clear h f hse hno hgb hy hbad hba
  go_enter Try.func43, Try.ntmps43
  go_upto_region 1 with fail
  generalize w.alloc (.cells (lyC l) 40) = w5 at *
  obtain ⟨bL, hbL⟩ : ∃ g, w.heap.size = g := ⟨_, rfl⟩
  have HB := Lib.hid hbL
  rw [hbL] at kL hgt ⊢
  clear hbL
  have hwl : (ss.set who s).length = ss.length := by simp
  obtain ⟨cc, c1, lT⟩ := hx.c1
  rw [hwl] at c1
  have hwi : (who : Int) < ss.length := by omega
  go_upto_region 2 with fail
  clear c1 lT hwl
  obtain ⟨lv0, gv0, sv0⟩ := hx.sv hw
  have q2 := sv0.cells 2 _ rfl
  have lq := sv0.lt
  clear sv0
  have h4 : s.at_ = 0 ∨ (s.at_ = 1 ∨ s.at_ = 2) ∨ 3 ≤ s.at_ := by omega
  rcases h4 with h4 | h4 | h4
  · have hyy := (look_0 (l := l) (who := who) (x := ⟨m, s, bad⟩) h4).symm.trans HY.out.1
    have HYY := Lib.hid (And.intro hyy HY.out.2)
    have q2' : w5.cell? ⟨gs, who * 11 + 2, none⟩ = some (.int .i64 0) := by rw [q2]; show some (Value.int .i64 (s.at_ : Nat)) = _; rw [h4]; rfl
    clear hyy q2 HY h4
    go_upto_region 8 with fail
    clear q2' lq
    go_wp2_with (refine wpList_load_row rfl 40 (.tmp 4) rfl bL rfl 40 (lyC l) (0, 0) _ kL Try.underlying40 rfl (by kernel_rfl) ?_)
    (with_reducible refine (rcell_any l 0 _ HF.out.1).mono ?_)
    rintro e wz ⟨rfl, hb⟩
    replace hx := hx.keep hb
    replace hst := hst.trans (Stw.of_below hb)
    replace kL := kL.keep hb
    clear hb
    obtain ⟨lv', gv', sv⟩ := hx.sv hw
    have o3 := sv.cells 3 _ rfl
    have o4 := sv.cells 4 _ rfl
    have o5 := sv.cells 5 _ rfl
    have o6 := sv.cells 6 _ rfl
    have o8 := sv.cells 8 _ rfl
    have f3 := sv.free 3
    have f4 := sv.free 4
    have f5 := sv.free 5
    have f6 := sv.free 6
    have lS := sv.lt
    clear sv
    have hx1 := hx.op hw ⟨1, 0, 0, cellAt l 0⟩
    have hst1 := hst.trans (Stw.op (gt := gt) (who := who) wz ⟨1, 0, 0, cellAt l 0⟩)
    have kL1 := (Stw.op (gt := gt) (gs := gs) (who := who) wz ⟨1, 0, 0, cellAt l 0⟩).keep kL (by omega) (by omega)
    have HX := Lib.hid (And.intro hx1 (And.intro hst1 kL1))
    clear hx1 hst1 kL1 hx hst kL
    go_upto_region 9 with fail
    clear o3 o4 o5 o6 o8 f3 f4 f5 f6 lS
    show Code.wp Try.prog _ _ _ (setOpW wz gs who ⟨1, 0, 0, cellAt l 0⟩)
    obtain ⟨hx, hst, kL⟩ := HX.out
    clear HX
    generalize setOpW wz gs who ⟨1, 0, 0, cellAt l 0⟩ = w6 at *
    obtain ⟨z, hz⟩ : ∃ z, progM l true who ⟨m, { s with op := ⟨1, 0, 0, cellAt l 0⟩ }, bad⟩ = z := ⟨_, rfl⟩
    have hyy := HYY.out
    rw [hz] at hyy
    have hzb : z.1.bad = false := by
      obtain ⟨z1, z2⟩ := z
      rcases z2 with _ | ⟨v1, v2, v3⟩
      · have h9 := congrArg Stp3.bad hyy.1
        exact h9.trans hyy.2
      · have h9 := congrArg Stp3.bad hyy.1
        exact h9.trans hyy.2
    have HZ := Lib.hid (And.intro hz hyy.1)
    clear hyy HYY
    go_wp2_with (refine wpList_load_row rfl 40 (.tmp 4) rfl bL rfl 40 (lyC l) (0, 0) _ kL Try.underlying40 rfl (by kernel_rfl) ?_)
    (with_reducible refine (tprog_any (s := { s with op := ⟨1, 0, 0, cellAt l 0⟩ }) true l hx (at_set hw) HF.out.1 HF.out.2.1 HF.out.2.2.1 (by simpa using hw3) hml hll hgl HF.out.2.2.2 (show (0 : Int) ≤ 1000000 by decide) (by rw [hz]; exact hzb)).mono ?_)
    intro e w7 hpost
    dsimp only at hpost
    rw [hz] at hpost
    obtain ⟨hp1, hx7, hst7⟩ := hpost
    rw [set_set] at hx7
    replace hst := hst.trans hst7
    replace kL := hst7.keep kL (by omega) (by omega)
    clear hx hst7 hz hzb
    obtain ⟨⟨zm, zs, zb⟩, zo⟩ := z
    cases zo with
    | none =>
      dsimp only at hp1 hx7
      subst hp1
      have hfin : y = ⟨zm, zs, zb⟩ := HZ.out.2.symm
      subst hfin
      have hba := below_al (Below.refl w7.heap.size w7) (.cells outZ 63)
      have HX := Lib.hid (And.intro (hx7.keep hba).top (hst.trans (Stw.of_below hba)))
      clear hx7 hst hba HZ
      go_wp2_with (refine wpList_store_new rfl 63 (.tmp 7) (.tmp 51) rfl rfl w7.heap.size _ _ outZ rfl rfl rfl rfl (by kernel_rfl) rfl (by simp [Value.oneCell']) ?_)
      exact bodyPost_ret (v := .tuple #[]) (results_none rfl _ _ _) rfl ⟨rfl, HX.out.1, HX.out.2⟩
    | some vv =>
      obtain ⟨val, is, g⟩ := vv
      obtain ⟨err, pt, GV, nV, cV, rfl, -⟩ := hp1
      dsimp only at hx7
      have hfin : y = ⟨zm, { zs with node := val, at_ := if val = 0 then 3 else 1 }, zb⟩ := HZ.out.2.symm
      subst hfin
      clear HZ
      have hba := below_al (Below.refl w7.heap.size w7) (.cells (outG val is err pt (.slice GV nV cV)) 63)
      have hx := hx7.keep hba
      replace hst := hst.trans (Stw.of_below (gt := gt) (gs := gs) hba)
      have k10 := Bk.made w7 63 (outG val is err pt (.slice GV nV cV))
      clear hx7 hba kL
      go_upto_region 11 with (refine wpList_store_new rfl 63 (.tmp 7) (.tmp 51) rfl rfl w7.heap.size _ _ (outG val is err pt (.slice GV nV cV)) rfl rfl rfl rfl (by kernel_rfl) rfl (by simp [Value.oneCell']) ?_)
      generalize w7.alloc (.cells (outG val is err pt (.slice GV nV cV)) 63) = w8 at *
      generalize w7.heap.size = b10 at *
      have d0 := k10.cell 0
      have l10 := k10.lt
      simp at d0
      clear k10
      obtain ⟨lv', gv', sv⟩ := hx.sv hw
      have o8 := sv.cells 8 _ rfl
      have f8 := sv.free 8
      have lS := sv.lt
      clear sv
      have hx1 := hx.us0 hw (j := 8) (v := (.int .i64 val)) (s' := { zs with node := val }) (by decide) (fun _ _ => rfl) rfl rfl
      have hst1 := hst.trans (Stw.setS w8 (who * 11 + 8) (.int .i64 val))
      have HX := Lib.hid (And.intro hx1 hst1)
      clear hx1 hst1 hx hst
      go_upto_region 12 with fail
      clear d0 l10
      clear o8 f8 lS
      show Code.wp Try.prog _ _ _ (w8.setCell ⟨gs, who * 11 + 8, none⟩ (.int .i64 val))
      obtain ⟨hx, hst⟩ := HX.out
      clear HX
      generalize w8.setCell ⟨gs, who * 11 + 8, none⟩ (.int .i64 val) = w9 at *
      obtain ⟨lv', gv', sv⟩ := hx.sv hw
      have o2 := sv.cells 2 _ rfl
      have f2 := sv.free 2
      have lS := sv.lt
      clear sv
      have hx1 := hx.us0 hw (j := 2) (v := (.int .i64 ((1 : Nat) : Int))) (s' := { zs with node := val, at_ := 1 }) (by decide) (fun _ _ => rfl) rfl rfl
      have hst1 := hst.trans (Stw.setS w9 (who * 11 + 2) (.int .i64 ((1 : Nat) : Int)))
      have HX := Lib.hid (And.intro hx1 hst1)
      clear hx1 hst1 hx hst
      go_upto_region 13 with fail
      clear o2 f2 lS
      show Code.wp Try.prog _ _ _ (w9.setCell ⟨gs, who * 11 + 2, none⟩ (.int .i64 ((1 : Nat) : Int)))
      obtain ⟨hx, hst⟩ := HX.out
      clear HX
      generalize w9.setCell ⟨gs, who * 11 + 2, none⟩ (.int .i64 ((1 : Nat) : Int)) = wa at *
      obtain ⟨lv', gv', sv⟩ := hx.sv hw
      have o8 := sv.cells 8 _ rfl
      have lS := sv.lt
      clear sv
      by_cases hv0 : val = 0
      · have e1 : (val == 0) = true := by simpa using hv0
        have e1' : decide (val = 0) = true := by simpa using hv0
        rw [if_pos hv0]
        go_upto_region 14 with fail
        clear o8 lS e1 e1' 
        obtain ⟨lv', gv', sv⟩ := hx.sv hw
        have o2 := sv.cells 2 _ rfl
        have f2 := sv.free 2
        have lS := sv.lt
        clear sv
        have hx1 := hx.us0 hw (j := 2) (v := (.int .i64 3)) (s' := { zs with node := val, at_ := 3 }) (by decide) (fun _ _ => rfl) rfl rfl
        have hst1 := hst.trans (Stw.setS wa (who * 11 + 2) (.int .i64 3))
        have HX := Lib.hid (And.intro hx1 hst1)
        clear hx1 hst1 hx hst
        go_wp2_with fail
        clear o2 f2 lS
        obtain ⟨hx, hst⟩ := HX.out
        refine bodyPost_ret (v := .tuple #[]) (results_none rfl _ _ _) rfl ⟨rfl, ?_, hst⟩
        rw [hv0] at hx
        exact hx.top
      · have e1 : (val == 0) = false := by simpa using hv0
        have e1' : decide (val = 0) = false := by simpa using hv0
        rw [if_neg hv0]
        have HX := Lib.hid (And.intro hx hst)
        clear hx hst
        go_wp2_with fail
        obtain ⟨hx, hst⟩ := HX.out
        exact bodyPost_ret (v := .tuple #[]) (results_none rfl _ _ _) rfl ⟨rfl, hx.top, hst⟩
  · have hyy := (look_1 (l := l) (who := who) (x := ⟨m, s, bad⟩) h4).symm.trans HY.out.1
    have hb9 := (congrArg Stp3.bad hyy).trans HY.out.2
    dsimp only at hb9
    rw [Bool.or_eq_false_iff, Bool.or_eq_false_iff, Bool.or_eq_false_iff] at hb9
    obtain ⟨he, hacc⟩ := acc_ok (m := m) (a := ⟨1, nodeAt l s.node 1, 0, 0⟩) (by have := hb9.2.1; simpa using this)
    dsimp only at hyy
    rw [hacc] at hyy hb9
    dsimp only at hb9
    have hmm : (⟨1, nodeAt l s.node 1, 0, 0⟩ : Acc).make m = m := by
      unfold Acc.make Acc.next
      rw [if_pos rfl]
      unfold Acc.had
      exact set_self
    obtain ⟨had, hhad⟩ : ∃ z, (⟨1, nodeAt l s.node 1, 0, 0⟩ : Acc).had m = z := ⟨_, rfl⟩
    obtain ⟨gok, hgok⟩ : ∃ z, (⟨1, nodeAt l s.node 1, 0, 0⟩ : Acc).ok had = z := ⟨_, rfl⟩
    have hz0 : had ≠ 0 := by rw [← hhad]; simpa using hb9.2.2.2
    have hz2 : s.at_ = 2 → had = s.read := by
      intro h2
      have := hb9.2.2.1
      rw [hhad] at this
      simp [h2] at this
      exact this
    rw [hmm, hhad] at hyy
    have HYY := Lib.hid (And.intro hyy (And.intro hb9.1 (And.intro hmm (And.intro hhad (And.intro hgok (And.intro hz2 he))))))
    obtain ⟨av, hav⟩ : ∃ a : Int, ((s.at_ : Nat) : Int) = a := ⟨_, rfl⟩
    have q2' : w5.cell? ⟨gs, who * 11 + 2, none⟩ = some (.int .i64 av) := by rw [q2, ← hav]; rfl
    have e0 : (av == 0) = false := by simp; omega
    have e0' : decide (av = 0) = false := by simp; omega
    clear hyy q2 HY hb9 hacc hmm hhad hgok hz2 he
    rcases (show av = 1 ∨ av = 2 by omega) with ha | ha
    · subst ha
      have hne : gs ≠ gt := by
        obtain ⟨_, _, _, k, _⟩ := hx.mem
        obtain ⟨_, k2, _⟩ := hx.sts
        exact bk_neT k2 k (by decide)
      have HHV := Lib.hid (And.intro hav h4)
      clear hav h4
      go_upto_region 17 with fail
      clear q2' lq e0 e0'
      have hbd := below_drew' (Below.refl w5.heap.size w5)
      replace hx := hx.keep hbd
      replace hst := hst.trans (Stw.of_below hbd)
      replace kL := kL.keep hbd
      refine wp_region_E (S := fun w' => Stw gt gt w5.drew w') (E := fun _ => false) (by kernel_rfl) ?_
      clear hbd
      generalize w5.drew = w6 at *
      have hgs6 : gt < w6.heap.size ∧ gs < w6.heap.size ∧ bL < w6.heap.size := by
        obtain ⟨_, _, _, k, _⟩ := hx.mem
        obtain ⟨_, k2, _⟩ := hx.sts
        exact ⟨k.lt, k2.lt, kL.lt⟩
      replace hx := hx.top
      have q8 : w6.cell? ⟨gs, who * 11 + 8, none⟩ = some (.int .i64 s.node) := by obtain ⟨_, _, sv⟩ := hx.sv hw; exact sv.cells 8 _ rfl
      obtain ⟨BB, hBB⟩ : ∃ b, w6.heap.size = b := ⟨_, rfl⟩
      refine wpAnyE_take (i := 0) (oi := _) (v := .pointer (some ⟨gt, 0, none⟩)) rfl (by kernel_rfl) (by kernel_rfl) (by kernel_rfl) (by kernel_rfl) (fun _ _ _ h => h) (Or.inl ⟨by rfl, ?_⟩) (Stw.refl _ _ _) ?_
      · intro w' hSw
        (try simp only [List.getElem_toArray, List.getElem_cons_zero])
        go_simp
      (try simp only [List.getElem_toArray, List.getElem_cons_zero, Act.put, List.setIfInBounds_toArray, List.set_cons_zero, List.set_cons_succ])
      refine wpAnyE_take (i := 1) (oi := _) (v := .agg (lyC l)) rfl (by kernel_rfl) (by kernel_rfl) (by kernel_rfl) (by kernel_rfl) (fun _ _ _ h => h) (Or.inl ⟨by rfl, ?_⟩) (Stw.refl _ _ _) ?_
      · intro w' hSw
        (try simp only [List.getElem_toArray, List.getElem_cons_succ, List.getElem_cons_zero])
        simp only [execOp, Instr.loadAt, Instr.sureAddr, Sem.run_bind, Sem.run_pure]
        rw [show (Act.eval _ (Operand.tmp 4)) = Value.pointer (some ⟨bL, 0, none⟩) from rfl]
        simp only [Sem.run_pure, Result.andThen_ok, run_loadVar_row w' bL 40 40 (lyC l) (0, 0) _ (hSw.keep kL (by omega) (by omega)) Try.underlying40 rfl (by kernel_rfl)]
      (try simp only [List.getElem_toArray, List.getElem_cons_succ, List.getElem_cons_zero, Act.put, List.setIfInBounds_toArray, List.set_cons_zero, List.set_cons_succ])
      refine wpAnyE_take (i := 2) (oi := _) (v := .pointer (some ⟨gs, who * 11, none⟩)) rfl (by kernel_rfl) (by kernel_rfl) (by kernel_rfl) (by kernel_rfl) (fun _ _ _ h => h) (Or.inl ⟨by rfl, ?_⟩) (Stw.refl _ _ _) ?_
      · intro w' hSw
        (try simp only [List.getElem_toArray, List.getElem_cons_succ, List.getElem_cons_zero])
        go_simp
      (try simp only [List.getElem_toArray, List.getElem_cons_succ, List.getElem_cons_zero, Act.put, List.setIfInBounds_toArray, List.set_cons_zero, List.set_cons_succ])
      refine wpAnyE_take (i := 3) (oi := _) (v := .pointer (some ⟨gs, who * 11, none⟩)) rfl (by kernel_rfl) (by kernel_rfl) (by kernel_rfl) (by kernel_rfl) (fun _ _ _ h => h) (Or.inl ⟨by rfl, ?_⟩) (Stw.refl _ _ _) ?_
      · intro w' hSw
        (try simp only [List.getElem_toArray, List.getElem_cons_succ, List.getElem_cons_zero])
        go_simp
      (try simp only [List.getElem_toArray, List.getElem_cons_succ, List.getElem_cons_zero, Act.put, List.setIfInBounds_toArray, List.set_cons_zero, List.set_cons_succ])
      refine wpAnyE_take (i := 4) (oi := _) (v := .pointer (some ⟨gs, who * 11 + 8, none⟩)) rfl (by kernel_rfl) (by kernel_rfl) (by kernel_rfl) (by kernel_rfl) (fun _ _ _ h => h) (Or.inl ⟨by rfl, ?_⟩) (Stw.refl _ _ _) ?_
      · intro w' hSw
        (try simp only [List.getElem_toArray, List.getElem_cons_succ, List.getElem_cons_zero])
        go_simp
      (try simp only [List.getElem_toArray, List.getElem_cons_succ, List.getElem_cons_zero, Act.put, List.setIfInBounds_toArray, List.set_cons_zero, List.set_cons_succ])
      refine wpAnyE_take (i := 5) (oi := _) (v := .int .i64 s.node) rfl (by kernel_rfl) (by kernel_rfl) (by kernel_rfl) (by kernel_rfl) (fun _ _ _ h => h) (Or.inl ⟨by rfl, ?_⟩) (Stw.refl _ _ _) ?_
      · intro w' hSw
        have s1 := hSw.cell hgs6.2.1 hne hne q8
        (try simp at s1)
        (try simp only [List.getElem_toArray, List.getElem_cons_succ, List.getElem_cons_zero])
        go_simp
      (try simp only [List.getElem_toArray, List.getElem_cons_succ, List.getElem_cons_zero, Act.put, List.setIfInBounds_toArray, List.set_cons_zero, List.set_cons_succ])
      rw [hBB] at hx hgs6
      have HX6 := Lib.hid hx
      have HKL := Lib.hid kL
      refine wpAnyE_dag (U := [6, 7, 8, 9, 10, 11, 12, 13, 14]) (tmp := lkT) (pre := lkP) (T := fun w' => Stw gt gt w6 w') (N := lkN BB gt gs ⟨m, ss.set who s, bad⟩) (G := lkG BB gt gs) (R := lkR BB gt gs ⟨m, ss.set who s, bad⟩ (nodeAt l s.node 1) had gok) (by kernel_rfl) (fun _ _ => rfl) (fun w2 h => h) (Stw.refl _ _ _) (fun i hi w3 w4 h1 h2 => lk_T h1 hBB h2) (fun i hi e => HX6.out) (fun i hi j hj hij w1 w2 hT hN hG e => lk_trep (hN e) (fun e' => hij (e.trans e'.symm)) hG)
        (fun i hi j hj hij val v u w3 w4 hT hvi hvj hp hr hg => lk_R ⟨hgs6.1, hgs6.2.1⟩ hij hvi hvj hr hg) (fun i hi o ho val w3 K hvn hT hN hpre hK => ?_) 0 (fun val w9 hall hT => ?_)
      · simp only [List.mem_cons, List.not_mem_nil, or_false] at hi
        rcases hi with rfl | rfl | rfl | rfl | rfl | rfl | rfl | rfl | rfl
        · obtain rfl := Option.some.inj ho
          simp only [show lkP 6 = [] from rfl, actOf] at hK ⊢
          go_simp
          (with_reducible refine (rnode_any l s.node 1 _ HF.out.1).mono ?_)
          rintro e w4 ⟨rfl, hb⟩
          exact hK _ _ rfl hb
        · obtain rfl := Option.some.inj ho
          obtain ⟨v, e, rfl⟩ := hpre 6 (by simp [lkP])
          simp only [show lkP 7 = [6] from rfl, actOf, e, lkT] at hK ⊢
          go_simp
          exact hK _ _ rfl (Below.refl _ _)
        · obtain rfl := Option.some.inj ho
          obtain ⟨v, e, rfl⟩ := hpre 7 (by simp [lkP])
          simp only [show lkP 8 = [7] from rfl, actOf, e, lkT] at hK ⊢
          go_simp
          (with_reducible refine (access_any (lkN_at hN) (by rw [← hBB]; exact hT.size) 1 (nodeAt l s.node 1) 0 0 hml HYY.out.2.2.2.2.2.2).mono ?_)
          rintro e9 w4 ⟨rfl, hx4, hst4⟩
          refine hK _ _ ⟨?_, ?_⟩ hst4
          · rw [← HYY.out.2.2.2.2.1, ← HYY.out.2.2.2.1]
          · dsimp only at hx4
            rw [HYY.out.2.2.1] at hx4
            exact hx4
        · obtain rfl := Option.some.inj ho
          obtain ⟨v, e, rfl, -⟩ := hpre 8 (by simp [lkP])
          simp only [show lkP 9 = [8] from rfl, actOf, e, lkT] at hK ⊢
          go_simp
          exact hK _ _ rfl (Below.refl _ _)
        · obtain rfl := Option.some.inj ho
          obtain ⟨v, e, rfl⟩ := hpre 9 (by simp [lkP])
          simp only [show lkP 10 = [9] from rfl, actOf, e, lkT] at hK ⊢
          go_simp
          exact hK _ _ rfl (Below.refl _ _)
        · obtain rfl := Option.some.inj ho
          obtain ⟨v, e, rfl⟩ := hpre 9 (by simp [lkP])
          simp only [show lkP 11 = [9] from rfl, actOf, e, lkT] at hK ⊢
          go_simp
          exact hK _ _ rfl (Below.refl _ _)
        · obtain rfl := Option.some.inj ho
          simp only [show lkP 12 = [] from rfl, actOf] at hK ⊢
          go_simp
          exact hK _ _ ⟨_, rfl, (by rw [← hBB]; exact hT.size), fun _ => Bk.made _ _ _⟩ (below_al (Below.refl _ _) _)
        · obtain rfl := Option.some.inj ho
          obtain ⟨v, e, -⟩ := hpre 8 (by simp [lkP])
          obtain ⟨v2, e2, rfl⟩ := hpre 10 (by simp [lkP])
          obtain ⟨v4, e4, ga, rfl, hga, k4⟩ := hpre 12 (by simp [lkP])
          have ka := k4 hvn
          simp only [show lkP 13 = [8, 10, 12] from rfl, actOf, e, e2, e4, lkT] at hK ⊢
          (try simp only [List.getElem_toArray, List.getElem_cons_succ, List.getElem_cons_zero])
          refine wp_store_row 67 (.tmp 9) (.tmp 83) rfl ga #[.int .i64 had, .bool gok] rfl rfl 67 resZ ka (by kernel_rfl) rfl (by simp [Value.oneCell']) ?_
          exact hK undef _ ⟨ga, by simp [upd, e4], hga, setRow_heap _ _ _ _ _ _ ka⟩ ⟨keptT_row ka, below_setRowB' hga _⟩
        · obtain rfl := Option.some.inj ho
          obtain ⟨v, e, rfl⟩ := hpre 11 (by simp [lkP])
          simp only [show lkP 14 = [11] from rfl, actOf, e, lkT] at hK ⊢
          go_simp
          exact hK _ _ rfl (Below.refl _ _)
      obtain ⟨v6, e6, rfl⟩ := hall 6 (by simp)
      obtain ⟨v7, e7, rfl⟩ := hall 7 (by simp)
      obtain ⟨v8, e8, rfl, hx9⟩ := hall 8 (by simp)
      obtain ⟨v9, e9, rfl⟩ := hall 9 (by simp)
      obtain ⟨v10, e10, rfl⟩ := hall 10 (by simp)
      obtain ⟨v11, e11, rfl⟩ := hall 11 (by simp)
      obtain ⟨v12, e12', ga, rfl, hga, -⟩ := hall 12 (by simp)
      obtain ⟨v13, e13, gb, e13', -, kR⟩ := hall 13 (by simp)
      rw [e12'] at e13'
      obtain rfl := ptr_inj e13'
      obtain ⟨v14, e14, rfl⟩ := hall 14 (by simp)
      clear hall
      refine wpAnyE_done (by simp only [lstOf, e6, e7, e8, e9, e10, e11, e12', e13, e14, Option.isSome_some, if_true]; kernel_rfl) ?_ _
      simp only [actOf, e6, e7, e8, e9, e10, e11, e12', e13, e14, lkT]
      clear e6 e7 e8 e9 e10 e11 e12' e13 e14
      (try simp only [Act.put, List.setIfInBounds_toArray, List.set_cons_zero, List.set_cons_succ, List.set_nil])
      replace hst := hst.trans hT.weak
      clear hT hx kL q8 HX6 HKL
      have hx := hx9
      clear hx9 hgs6 hBB hga
      have HB9 := Lib.hid (show w.heap.size ≤ w9.heap.size from hst.size)
      go_upto_region 18 with fail
      refine wp_region_E (S := fun w' => Below w9.drew.heap.size w9.drew w') (E := fun _ => false) (by kernel_rfl) ?_
      have hbd := below_drew' (Below.refl w9.heap.size w9)
      replace hx := hx.keep hbd
      replace hst := hst.trans (Stw.of_below hbd)
      replace kR := kR.keep hbd
      clear hbd
      generalize w9.drew = w10 at *
      obtain ⟨lv', gv', sv⟩ := hx.sv hw
      have o2 : w10.cell? ⟨gs, who * 11 + 2, none⟩ = some (.int .i64 1) := by rw [sv.cells 2 _ rfl]; show some (Value.int .i64 (s.at_ : Nat)) = _; rw [HHV.out.1]
      have o9 : w10.cell? ⟨gs, who * 11 + 9, none⟩ = some (.int .i64 s.read) := sv.cells 9 _ rfl
      clear sv
      have e3 : (had == 0) = false := by simpa using hz0
      refine wpAnyE_take (i := 0) (oi := _) (v := .pointer (some ⟨gs, who * 11, none⟩)) rfl (by kernel_rfl) (by kernel_rfl) (by kernel_rfl) (by kernel_rfl) (fun _ _ _ h => h) (Or.inl ⟨by rfl, ?_⟩) (Below.refl _ _) ?_
      · intro w' hSw
        (try simp only [List.getElem_toArray, List.getElem_cons_zero])
        go_simp
      (try simp only [List.getElem_toArray, List.getElem_cons_zero, Act.put, List.setIfInBounds_toArray, List.set_cons_zero, List.set_cons_succ])
      refine wpAnyE_take (i := 1) (oi := _) (v := .pointer (some ⟨gs, who * 11, none⟩)) rfl (by kernel_rfl) (by kernel_rfl) (by kernel_rfl) (by kernel_rfl) (fun _ _ _ h => h) (Or.inl ⟨by rfl, ?_⟩) (Below.refl _ _) ?_
      · intro w' hSw
        (try simp only [List.getElem_toArray, List.getElem_cons_succ, List.getElem_cons_zero])
        go_simp
      (try simp only [List.getElem_toArray, List.getElem_cons_succ, List.getElem_cons_zero, Act.put, List.setIfInBounds_toArray, List.set_cons_zero, List.set_cons_succ])
      refine wpAnyE_take (i := 2) (oi := _) (v := .pointer (some ⟨gs, who * 11 + 2, none⟩)) rfl (by kernel_rfl) (by kernel_rfl) (by kernel_rfl) (by kernel_rfl) (fun _ _ _ h => h) (Or.inl ⟨by rfl, ?_⟩) (Below.refl _ _) ?_
      · intro w' hSw
        (try simp only [List.getElem_toArray, List.getElem_cons_succ, List.getElem_cons_zero])
        go_simp
      (try simp only [List.getElem_toArray, List.getElem_cons_succ, List.getElem_cons_zero, Act.put, List.setIfInBounds_toArray, List.set_cons_zero, List.set_cons_succ])
      refine wpAnyE_take (i := 3) (oi := _) (v := .int .i64 1) rfl (by kernel_rfl) (by kernel_rfl) (by kernel_rfl) (by kernel_rfl) (fun _ _ _ h => h) (Or.inl ⟨by rfl, ?_⟩) (Below.refl _ _) ?_
      · intro w' hSw
        have s1 := cell_keep hSw o2
        (try simp at s1)
        (try simp only [List.getElem_toArray, List.getElem_cons_succ, List.getElem_cons_zero])
        go_simp
      (try simp only [List.getElem_toArray, List.getElem_cons_succ, List.getElem_cons_zero, Act.put, List.setIfInBounds_toArray, List.set_cons_zero, List.set_cons_succ])
      refine wpAnyE_take (i := 4) (oi := _) (v := .bool false) rfl (by kernel_rfl) (by kernel_rfl) (by kernel_rfl) (by kernel_rfl) (fun _ _ _ h => h) (Or.inl ⟨by rfl, ?_⟩) (Below.refl _ _) ?_
      · intro w' hSw
        (try simp only [List.getElem_toArray, List.getElem_cons_succ, List.getElem_cons_zero])
        go_simp
      (try simp only [List.getElem_toArray, List.getElem_cons_succ, List.getElem_cons_zero, Act.put, List.setIfInBounds_toArray, List.set_cons_zero, List.set_cons_succ])
      refine wpAnyE_take (i := 5) (oi := _) (v := .bool false) rfl (by kernel_rfl) (by kernel_rfl) (by kernel_rfl) (by kernel_rfl) (fun _ _ _ h => h) (Or.inl ⟨by rfl, ?_⟩) (Below.refl _ _) ?_
      · intro w' hSw
        (try simp only [List.getElem_toArray, List.getElem_cons_succ, List.getElem_cons_zero])
        go_simp
      (try simp only [List.getElem_toArray, List.getElem_cons_succ, List.getElem_cons_zero, Act.put, List.setIfInBounds_toArray, List.set_cons_zero, List.set_cons_succ])
      refine wpAnyE_take (i := 6) (oi := _) (v := undef) rfl (by kernel_rfl) (by kernel_rfl) (by kernel_rfl) (by kernel_rfl) (fun _ _ _ h => h) (Or.inr ⟨by rfl, rfl⟩) (Below.refl _ _) ?_
      (try simp only [List.getElem_toArray, List.getElem_cons_succ, List.getElem_cons_zero, Act.put, List.setIfInBounds_toArray, List.set_cons_zero, List.set_cons_succ])
      refine wpAnyE_take (i := 7) (oi := _) (v := undef) rfl (by kernel_rfl) (by kernel_rfl) (by kernel_rfl) (by kernel_rfl) (fun _ _ _ h => h) (Or.inr ⟨by rfl, rfl⟩) (Below.refl _ _) ?_
      (try simp only [List.getElem_toArray, List.getElem_cons_succ, List.getElem_cons_zero, Act.put, List.setIfInBounds_toArray, List.set_cons_zero, List.set_cons_succ])
      refine wpAnyE_take (i := 8) (oi := _) (v := undef) rfl (by kernel_rfl) (by kernel_rfl) (by kernel_rfl) (by kernel_rfl) (fun _ _ _ h => h) (Or.inr ⟨by rfl, rfl⟩) (Below.refl _ _) ?_
      (try simp only [List.getElem_toArray, List.getElem_cons_succ, List.getElem_cons_zero, Act.put, List.setIfInBounds_toArray, List.set_cons_zero, List.set_cons_succ])
      refine wpAnyE_take (i := 9) (oi := _) (v := undef) rfl (by kernel_rfl) (by kernel_rfl) (by kernel_rfl) (by kernel_rfl) (fun _ _ _ h => h) (Or.inr ⟨by rfl, rfl⟩) (Below.refl _ _) ?_
      (try simp only [List.getElem_toArray, List.getElem_cons_succ, List.getElem_cons_zero, Act.put, List.setIfInBounds_toArray, List.set_cons_zero, List.set_cons_succ])
      refine wpAnyE_take (i := 10) (oi := _) (v := undef) rfl (by kernel_rfl) (by kernel_rfl) (by kernel_rfl) (by kernel_rfl) (fun _ _ _ h => h) (Or.inr ⟨by rfl, rfl⟩) (Below.refl _ _) ?_
      (try simp only [List.getElem_toArray, List.getElem_cons_succ, List.getElem_cons_zero, Act.put, List.setIfInBounds_toArray, List.set_cons_zero, List.set_cons_succ])
      refine wpAnyE_take (i := 11) (oi := _) (v := undef) rfl (by kernel_rfl) (by kernel_rfl) (by kernel_rfl) (by kernel_rfl) (fun _ _ _ h => h) (Or.inr ⟨by rfl, rfl⟩) (Below.refl _ _) ?_
      (try simp only [List.getElem_toArray, List.getElem_cons_succ, List.getElem_cons_zero, Act.put, List.setIfInBounds_toArray, List.set_cons_zero, List.set_cons_succ])
      refine wpAnyE_take (i := 12) (oi := _) (v := undef) rfl (by kernel_rfl) (by kernel_rfl) (by kernel_rfl) (by kernel_rfl) (fun _ _ _ h => h) (Or.inr ⟨by rfl, rfl⟩) (Below.refl _ _) ?_
      (try simp only [List.getElem_toArray, List.getElem_cons_succ, List.getElem_cons_zero, Act.put, List.setIfInBounds_toArray, List.set_cons_zero, List.set_cons_succ])
      refine wpAnyE_take (i := 13) (oi := _) (v := .bool false) rfl (by kernel_rfl) (by kernel_rfl) (by kernel_rfl) (by kernel_rfl) (fun _ _ _ h => h) (Or.inl ⟨by rfl, ?_⟩) (Below.refl _ _) ?_
      · intro w' hSw
        (try simp only [List.getElem_toArray, List.getElem_cons_succ, List.getElem_cons_zero])
        go_simp
      (try simp only [List.getElem_toArray, List.getElem_cons_succ, List.getElem_cons_zero, Act.put, List.setIfInBounds_toArray, List.set_cons_zero, List.set_cons_succ])
      refine wpAnyE_take (i := 14) (oi := _) (v := .bool false) rfl (by kernel_rfl) (by kernel_rfl) (by kernel_rfl) (by kernel_rfl) (fun _ _ _ h => h) (Or.inl ⟨by rfl, ?_⟩) (Below.refl _ _) ?_
      · intro w' hSw
        (try simp only [List.getElem_toArray, List.getElem_cons_succ, List.getElem_cons_zero])
        go_simp
      (try simp only [List.getElem_toArray, List.getElem_cons_succ, List.getElem_cons_zero, Act.put, List.setIfInBounds_toArray, List.set_cons_zero, List.set_cons_succ])
      refine wpAnyE_take (i := 15) (oi := _) (v := .pointer (some ⟨ga, 0, none⟩)) rfl (by kernel_rfl) (by kernel_rfl) (by kernel_rfl) (by kernel_rfl) (fun _ _ _ h => h) (Or.inl ⟨by rfl, ?_⟩) (Below.refl _ _) ?_
      · intro w' hSw
        (try simp only [List.getElem_toArray, List.getElem_cons_succ, List.getElem_cons_zero])
        go_simp
      (try simp only [List.getElem_toArray, List.getElem_cons_succ, List.getElem_cons_zero, Act.put, List.setIfInBounds_toArray, List.set_cons_zero, List.set_cons_succ])
      refine wpAnyE_take (i := 16) (oi := _) (v := .int .i64 had) rfl (by kernel_rfl) (by kernel_rfl) (by kernel_rfl) (by kernel_rfl) (fun _ _ _ h => h) (Or.inl ⟨by rfl, ?_⟩) (Below.refl _ _) ?_
      · intro w' hSw
        have s1 := (kR.keep hSw).cell 0
        (try simp at s1)
        (try simp only [List.getElem_toArray, List.getElem_cons_succ, List.getElem_cons_zero])
        go_simp
      (try simp only [List.getElem_toArray, List.getElem_cons_succ, List.getElem_cons_zero, Act.put, List.setIfInBounds_toArray, List.set_cons_zero, List.set_cons_succ])
      refine wpAnyE_take (i := 17) (oi := _) (v := .bool false) rfl (by kernel_rfl) (by kernel_rfl) (by kernel_rfl) (by kernel_rfl) (fun _ _ _ h => h) (Or.inl ⟨by rfl, ?_⟩) (Below.refl _ _) ?_
      · intro w' hSw
        (try simp only [List.getElem_toArray, List.getElem_cons_succ, List.getElem_cons_zero])
        go_simp
      (try simp only [List.getElem_toArray, List.getElem_cons_succ, List.getElem_cons_zero, Act.put, List.setIfInBounds_toArray, List.set_cons_zero, List.set_cons_succ])
      refine wpAnyE_take (i := 18) (oi := _) (v := .bool false) rfl (by kernel_rfl) (by kernel_rfl) (by kernel_rfl) (by kernel_rfl) (fun _ _ _ h => h) (Or.inl ⟨by rfl, ?_⟩) (Below.refl _ _) ?_
      · intro w' hSw
        (try simp only [List.getElem_toArray, List.getElem_cons_succ, List.getElem_cons_zero])
        go_simp
      (try simp only [List.getElem_toArray, List.getElem_cons_succ, List.getElem_cons_zero, Act.put, List.setIfInBounds_toArray, List.set_cons_zero, List.set_cons_succ])
      refine wpAnyE_done (by kernel_rfl) ?_ _
      clear o2 o9 e3
      go_upto_region 20 with fail
      have hfin := HYY.out.1
      have hb1 := HYY.out.2.1
      subst hb1
      have ha1 := HHV.out.1
      have HZ2 := Lib.hid HYY.out.2.2.2.2.2.1
      subst hfin
      clear HYY
      have hneg : ga ≠ gs := by
        obtain ⟨_, k2, _⟩ := hx.sts
        exact bk_neT kR k2 (by decide)
      have d0 := kR.cell 0
      have l10 := kR.lt
      simp at d0
      obtain ⟨lv', gv', sv⟩ := hx.sv hw
      have o9 := sv.cells 9 _ rfl
      have f9 := sv.free 9
      have lS := sv.lt
      clear sv
      have hx1 := hx.us0 hw (j := 9) (v := (.int .i64 had)) (s' := { s with read := had }) (by decide) (fun _ _ => rfl) rfl rfl
      have hst1 := hst.trans (Stw.setS w10 (who * 11 + 9) (.int .i64 had))
      have HX := Lib.hid (And.intro hx1 hst1)
      clear hx1 hst1 hx hst
      go_upto_region 21 with fail
      clear d0 l10
      clear o9 f9 lS
      show Code.wp Try.prog _ _ _ (w10.setCell ⟨gs, who * 11 + 9, none⟩ (.int .i64 had))
      obtain ⟨hx, hst⟩ := HX.out
      clear HX
      generalize w10.setCell ⟨gs, who * 11 + 9, none⟩ (.int .i64 had) = w11 at *
      have hwr : IntKind.i64.wrap (1 + 1) = ((s.at_ + 1 : Nat) : Int) := by rw [IntWalk.i64_in _ (by omega)]; omega
      obtain ⟨lv', gv', sv⟩ := hx.sv hw
      have o2 : w11.cell? ⟨gs, who * 11 + 2, none⟩ = some (.int .i64 1) := by rw [sv.cells 2 _ rfl]; show some (Value.int .i64 (s.at_ : Nat)) = _; rw [ha1]
      have f2 := sv.free 2
      have lS := sv.lt
      clear sv
      have hx1 := hx.us0 hw (j := 2) (v := (.int .i64 ((s.at_ + 1 : Nat) : Int))) (s' := { s with read := had, at_ := s.at_ + 1 }) (by decide) (fun _ _ => rfl) rfl rfl
      have hst1 := hst.trans (Stw.setS w11 (who * 11 + 2) (.int .i64 ((s.at_ + 1 : Nat) : Int)))
      have hvv : ((s.at_ + 1 : Nat) : Int) = 1 + 1 := by omega
      rw [hvv] at hx1 hst1
      rw [show (1 : Int) + 1 = 2 from rfl] at hx1 hst1
      have HX := Lib.hid (And.intro hx1 hst1)
      clear hx1 hst1 hx hst ha1 HHV hvv
      go_wp2_with fail
      obtain ⟨hx, hst⟩ := HX.out
      refine bodyPost_ret (v := .tuple #[]) (results_none rfl _ _ _) rfl ⟨rfl, ?_, hst⟩
      have hz2 := HZ2.out
      rw [show (decide (s.at_ = 2) && !decide (had = s.read)) = false from by
        by_cases q : s.at_ = 2
        · simp [q, hz2 q]
        · simp [q]]
      exact hx.top
    · subst ha
      have hne : gs ≠ gt := by
        obtain ⟨_, _, _, k, _⟩ := hx.mem
        obtain ⟨_, k2, _⟩ := hx.sts
        exact bk_neT k2 k (by decide)
      have HHV := Lib.hid (And.intro hav h4)
      clear hav h4
      go_upto_region 17 with fail
      clear q2' lq e0 e0'
      have hbd := below_drew' (Below.refl w5.heap.size w5)
      replace hx := hx.keep hbd
      replace hst := hst.trans (Stw.of_below hbd)
      replace kL := kL.keep hbd
      refine wp_region_E (S := fun w' => Stw gt gt w5.drew w') (E := fun _ => false) (by kernel_rfl) ?_
      clear hbd
      generalize w5.drew = w6 at *
      have hgs6 : gt < w6.heap.size ∧ gs < w6.heap.size ∧ bL < w6.heap.size := by
        obtain ⟨_, _, _, k, _⟩ := hx.mem
        obtain ⟨_, k2, _⟩ := hx.sts
        exact ⟨k.lt, k2.lt, kL.lt⟩
      replace hx := hx.top
      have q8 : w6.cell? ⟨gs, who * 11 + 8, none⟩ = some (.int .i64 s.node) := by obtain ⟨_, _, sv⟩ := hx.sv hw; exact sv.cells 8 _ rfl
      obtain ⟨BB, hBB⟩ : ∃ b, w6.heap.size = b := ⟨_, rfl⟩
      refine wpAnyE_take (i := 0) (oi := _) (v := .pointer (some ⟨gt, 0, none⟩)) rfl (by kernel_rfl) (by kernel_rfl) (by kernel_rfl) (by kernel_rfl) (fun _ _ _ h => h) (Or.inl ⟨by rfl, ?_⟩) (Stw.refl _ _ _) ?_
      · intro w' hSw
        (try simp only [List.getElem_toArray, List.getElem_cons_zero])
        go_simp
      (try simp only [List.getElem_toArray, List.getElem_cons_zero, Act.put, List.setIfInBounds_toArray, List.set_cons_zero, List.set_cons_succ])
      refine wpAnyE_take (i := 1) (oi := _) (v := .agg (lyC l)) rfl (by kernel_rfl) (by kernel_rfl) (by kernel_rfl) (by kernel_rfl) (fun _ _ _ h => h) (Or.inl ⟨by rfl, ?_⟩) (Stw.refl _ _ _) ?_
      · intro w' hSw
        (try simp only [List.getElem_toArray, List.getElem_cons_succ, List.getElem_cons_zero])
        simp only [execOp, Instr.loadAt, Instr.sureAddr, Sem.run_bind, Sem.run_pure]
        rw [show (Act.eval _ (Operand.tmp 4)) = Value.pointer (some ⟨bL, 0, none⟩) from rfl]
        simp only [Sem.run_pure, Result.andThen_ok, run_loadVar_row w' bL 40 40 (lyC l) (0, 0) _ (hSw.keep kL (by omega) (by omega)) Try.underlying40 rfl (by kernel_rfl)]
      (try simp only [List.getElem_toArray, List.getElem_cons_succ, List.getElem_cons_zero, Act.put, List.setIfInBounds_toArray, List.set_cons_zero, List.set_cons_succ])
      refine wpAnyE_take (i := 2) (oi := _) (v := .pointer (some ⟨gs, who * 11, none⟩)) rfl (by kernel_rfl) (by kernel_rfl) (by kernel_rfl) (by kernel_rfl) (fun _ _ _ h => h) (Or.inl ⟨by rfl, ?_⟩) (Stw.refl _ _ _) ?_
      · intro w' hSw
        (try simp only [List.getElem_toArray, List.getElem_cons_succ, List.getElem_cons_zero])
        go_simp
      (try simp only [List.getElem_toArray, List.getElem_cons_succ, List.getElem_cons_zero, Act.put, List.setIfInBounds_toArray, List.set_cons_zero, List.set_cons_succ])
      refine wpAnyE_take (i := 3) (oi := _) (v := .pointer (some ⟨gs, who * 11, none⟩)) rfl (by kernel_rfl) (by kernel_rfl) (by kernel_rfl) (by kernel_rfl) (fun _ _ _ h => h) (Or.inl ⟨by rfl, ?_⟩) (Stw.refl _ _ _) ?_
      · intro w' hSw
        (try simp only [List.getElem_toArray, List.getElem_cons_succ, List.getElem_cons_zero])
        go_simp
      (try simp only [List.getElem_toArray, List.getElem_cons_succ, List.getElem_cons_zero, Act.put, List.setIfInBounds_toArray, List.set_cons_zero, List.set_cons_succ])
      refine wpAnyE_take (i := 4) (oi := _) (v := .pointer (some ⟨gs, who * 11 + 8, none⟩)) rfl (by kernel_rfl) (by kernel_rfl) (by kernel_rfl) (by kernel_rfl) (fun _ _ _ h => h) (Or.inl ⟨by rfl, ?_⟩) (Stw.refl _ _ _) ?_
      · intro w' hSw
        (try simp only [List.getElem_toArray, List.getElem_cons_succ, List.getElem_cons_zero])
        go_simp
      (try simp only [List.getElem_toArray, List.getElem_cons_succ, List.getElem_cons_zero, Act.put, List.setIfInBounds_toArray, List.set_cons_zero, List.set_cons_succ])
      refine wpAnyE_take (i := 5) (oi := _) (v := .int .i64 s.node) rfl (by kernel_rfl) (by kernel_rfl) (by kernel_rfl) (by kernel_rfl) (fun _ _ _ h => h) (Or.inl ⟨by rfl, ?_⟩) (Stw.refl _ _ _) ?_
      · intro w' hSw
        have s1 := hSw.cell hgs6.2.1 hne hne q8
        (try simp at s1)
        (try simp only [List.getElem_toArray, List.getElem_cons_succ, List.getElem_cons_zero])
        go_simp
      (try simp only [List.getElem_toArray, List.getElem_cons_succ, List.getElem_cons_zero, Act.put, List.setIfInBounds_toArray, List.set_cons_zero, List.set_cons_succ])
      rw [hBB] at hx hgs6
      have HX6 := Lib.hid hx
      have HKL := Lib.hid kL
      refine wpAnyE_dag (U := [6, 7, 8, 9, 10, 11, 12, 13, 14]) (tmp := lkT) (pre := lkP) (T := fun w' => Stw gt gt w6 w') (N := lkN BB gt gs ⟨m, ss.set who s, bad⟩) (G := lkG BB gt gs) (R := lkR BB gt gs ⟨m, ss.set who s, bad⟩ (nodeAt l s.node 1) had gok) (by kernel_rfl) (fun _ _ => rfl) (fun w2 h => h) (Stw.refl _ _ _) (fun i hi w3 w4 h1 h2 => lk_T h1 hBB h2) (fun i hi e => HX6.out) (fun i hi j hj hij w1 w2 hT hN hG e => lk_trep (hN e) (fun e' => hij (e.trans e'.symm)) hG)
        (fun i hi j hj hij val v u w3 w4 hT hvi hvj hp hr hg => lk_R ⟨hgs6.1, hgs6.2.1⟩ hij hvi hvj hr hg) (fun i hi o ho val w3 K hvn hT hN hpre hK => ?_) 0 (fun val w9 hall hT => ?_)
      · simp only [List.mem_cons, List.not_mem_nil, or_false] at hi
        rcases hi with rfl | rfl | rfl | rfl | rfl | rfl | rfl | rfl | rfl
        · obtain rfl := Option.some.inj ho
          simp only [show lkP 6 = [] from rfl, actOf] at hK ⊢
          go_simp
          (with_reducible refine (rnode_any l s.node 1 _ HF.out.1).mono ?_)
          rintro e w4 ⟨rfl, hb⟩
          exact hK _ _ rfl hb
        · obtain rfl := Option.some.inj ho
          obtain ⟨v, e, rfl⟩ := hpre 6 (by simp [lkP])
          simp only [show lkP 7 = [6] from rfl, actOf, e, lkT] at hK ⊢
          go_simp
          exact hK _ _ rfl (Below.refl _ _)
        · obtain rfl := Option.some.inj ho
          obtain ⟨v, e, rfl⟩ := hpre 7 (by simp [lkP])
          simp only [show lkP 8 = [7] from rfl, actOf, e, lkT] at hK ⊢
          go_simp
          (with_reducible refine (access_any (lkN_at hN) (by rw [← hBB]; exact hT.size) 1 (nodeAt l s.node 1) 0 0 hml HYY.out.2.2.2.2.2.2).mono ?_)
          rintro e9 w4 ⟨rfl, hx4, hst4⟩
          refine hK _ _ ⟨?_, ?_⟩ hst4
          · rw [← HYY.out.2.2.2.2.1, ← HYY.out.2.2.2.1]
          · dsimp only at hx4
            rw [HYY.out.2.2.1] at hx4
            exact hx4
        · obtain rfl := Option.some.inj ho
          obtain ⟨v, e, rfl, -⟩ := hpre 8 (by simp [lkP])
          simp only [show lkP 9 = [8] from rfl, actOf, e, lkT] at hK ⊢
          go_simp
          exact hK _ _ rfl (Below.refl _ _)
        · obtain rfl := Option.some.inj ho
          obtain ⟨v, e, rfl⟩ := hpre 9 (by simp [lkP])
          simp only [show lkP 10 = [9] from rfl, actOf, e, lkT] at hK ⊢
          go_simp
          exact hK _ _ rfl (Below.refl _ _)
        · obtain rfl := Option.some.inj ho
          obtain ⟨v, e, rfl⟩ := hpre 9 (by simp [lkP])
          simp only [show lkP 11 = [9] from rfl, actOf, e, lkT] at hK ⊢
          go_simp
          exact hK _ _ rfl (Below.refl _ _)
        · obtain rfl := Option.some.inj ho
          simp only [show lkP 12 = [] from rfl, actOf] at hK ⊢
          go_simp
          exact hK _ _ ⟨_, rfl, (by rw [← hBB]; exact hT.size), fun _ => Bk.made _ _ _⟩ (below_al (Below.refl _ _) _)
        · obtain rfl := Option.some.inj ho
          obtain ⟨v, e, -⟩ := hpre 8 (by simp [lkP])
          obtain ⟨v2, e2, rfl⟩ := hpre 10 (by simp [lkP])
          obtain ⟨v4, e4, ga, rfl, hga, k4⟩ := hpre 12 (by simp [lkP])
          have ka := k4 hvn
          simp only [show lkP 13 = [8, 10, 12] from rfl, actOf, e, e2, e4, lkT] at hK ⊢
          (try simp only [List.getElem_toArray, List.getElem_cons_succ, List.getElem_cons_zero])
          refine wp_store_row 67 (.tmp 9) (.tmp 83) rfl ga #[.int .i64 had, .bool gok] rfl rfl 67 resZ ka (by kernel_rfl) rfl (by simp [Value.oneCell']) ?_
          exact hK undef _ ⟨ga, by simp [upd, e4], hga, setRow_heap _ _ _ _ _ _ ka⟩ ⟨keptT_row ka, below_setRowB' hga _⟩
        · obtain rfl := Option.some.inj ho
          obtain ⟨v, e, rfl⟩ := hpre 11 (by simp [lkP])
          simp only [show lkP 14 = [11] from rfl, actOf, e, lkT] at hK ⊢
          go_simp
          exact hK _ _ rfl (Below.refl _ _)
      obtain ⟨v6, e6, rfl⟩ := hall 6 (by simp)
      obtain ⟨v7, e7, rfl⟩ := hall 7 (by simp)
      obtain ⟨v8, e8, rfl, hx9⟩ := hall 8 (by simp)
      obtain ⟨v9, e9, rfl⟩ := hall 9 (by simp)
      obtain ⟨v10, e10, rfl⟩ := hall 10 (by simp)
      obtain ⟨v11, e11, rfl⟩ := hall 11 (by simp)
      obtain ⟨v12, e12', ga, rfl, hga, -⟩ := hall 12 (by simp)
      obtain ⟨v13, e13, gb, e13', -, kR⟩ := hall 13 (by simp)
      rw [e12'] at e13'
      obtain rfl := ptr_inj e13'
      obtain ⟨v14, e14, rfl⟩ := hall 14 (by simp)
      clear hall
      refine wpAnyE_done (by simp only [lstOf, e6, e7, e8, e9, e10, e11, e12', e13, e14, Option.isSome_some, if_true]; kernel_rfl) ?_ _
      simp only [actOf, e6, e7, e8, e9, e10, e11, e12', e13, e14, lkT]
      clear e6 e7 e8 e9 e10 e11 e12' e13 e14
      (try simp only [Act.put, List.setIfInBounds_toArray, List.set_cons_zero, List.set_cons_succ, List.set_nil])
      replace hst := hst.trans hT.weak
      clear hT hx kL q8 HX6 HKL
      have hx := hx9
      clear hx9 hgs6 hBB hga
      have HB9 := Lib.hid (show w.heap.size ≤ w9.heap.size from hst.size)
      go_upto_region 18 with fail
      refine wp_region_E (S := fun w' => Below w9.drew.heap.size w9.drew w') (E := fun _ => false) (by kernel_rfl) ?_
      have hbd := below_drew' (Below.refl w9.heap.size w9)
      replace hx := hx.keep hbd
      replace hst := hst.trans (Stw.of_below hbd)
      replace kR := kR.keep hbd
      clear hbd
      generalize w9.drew = w10 at *
      obtain ⟨lv', gv', sv⟩ := hx.sv hw
      have o2 : w10.cell? ⟨gs, who * 11 + 2, none⟩ = some (.int .i64 2) := by rw [sv.cells 2 _ rfl]; show some (Value.int .i64 (s.at_ : Nat)) = _; rw [HHV.out.1]
      have o9 : w10.cell? ⟨gs, who * 11 + 9, none⟩ = some (.int .i64 s.read) := sv.cells 9 _ rfl
      clear sv
      have e3 : (had == 0) = false := by simpa using hz0
      refine wpAnyE_take (i := 0) (oi := _) (v := .pointer (some ⟨gs, who * 11, none⟩)) rfl (by kernel_rfl) (by kernel_rfl) (by kernel_rfl) (by kernel_rfl) (fun _ _ _ h => h) (Or.inl ⟨by rfl, ?_⟩) (Below.refl _ _) ?_
      · intro w' hSw
        (try simp only [List.getElem_toArray, List.getElem_cons_zero])
        go_simp
      (try simp only [List.getElem_toArray, List.getElem_cons_zero, Act.put, List.setIfInBounds_toArray, List.set_cons_zero, List.set_cons_succ])
      refine wpAnyE_take (i := 1) (oi := _) (v := .pointer (some ⟨gs, who * 11, none⟩)) rfl (by kernel_rfl) (by kernel_rfl) (by kernel_rfl) (by kernel_rfl) (fun _ _ _ h => h) (Or.inl ⟨by rfl, ?_⟩) (Below.refl _ _) ?_
      · intro w' hSw
        (try simp only [List.getElem_toArray, List.getElem_cons_succ, List.getElem_cons_zero])
        go_simp
      (try simp only [List.getElem_toArray, List.getElem_cons_succ, List.getElem_cons_zero, Act.put, List.setIfInBounds_toArray, List.set_cons_zero, List.set_cons_succ])
      refine wpAnyE_take (i := 2) (oi := _) (v := .pointer (some ⟨gs, who * 11 + 2, none⟩)) rfl (by kernel_rfl) (by kernel_rfl) (by kernel_rfl) (by kernel_rfl) (fun _ _ _ h => h) (Or.inl ⟨by rfl, ?_⟩) (Below.refl _ _) ?_
      · intro w' hSw
        (try simp only [List.getElem_toArray, List.getElem_cons_succ, List.getElem_cons_zero])
        go_simp
      (try simp only [List.getElem_toArray, List.getElem_cons_succ, List.getElem_cons_zero, Act.put, List.setIfInBounds_toArray, List.set_cons_zero, List.set_cons_succ])
      refine wpAnyE_take (i := 3) (oi := _) (v := .int .i64 2) rfl (by kernel_rfl) (by kernel_rfl) (by kernel_rfl) (by kernel_rfl) (fun _ _ _ h => h) (Or.inl ⟨by rfl, ?_⟩) (Below.refl _ _) ?_
      · intro w' hSw
        have s1 := cell_keep hSw o2
        (try simp at s1)
        (try simp only [List.getElem_toArray, List.getElem_cons_succ, List.getElem_cons_zero])
        go_simp
      (try simp only [List.getElem_toArray, List.getElem_cons_succ, List.getElem_cons_zero, Act.put, List.setIfInBounds_toArray, List.set_cons_zero, List.set_cons_succ])
      refine wpAnyE_take (i := 4) (oi := _) (v := .bool true) rfl (by kernel_rfl) (by kernel_rfl) (by kernel_rfl) (by kernel_rfl) (fun _ _ _ h => h) (Or.inl ⟨by rfl, ?_⟩) (Below.refl _ _) ?_
      · intro w' hSw
        (try simp only [List.getElem_toArray, List.getElem_cons_succ, List.getElem_cons_zero])
        go_simp
      (try simp only [List.getElem_toArray, List.getElem_cons_succ, List.getElem_cons_zero, Act.put, List.setIfInBounds_toArray, List.set_cons_zero, List.set_cons_succ])
      refine wpAnyE_take (i := 5) (oi := _) (v := .bool true) rfl (by kernel_rfl) (by kernel_rfl) (by kernel_rfl) (by kernel_rfl) (fun _ _ _ h => h) (Or.inl ⟨by rfl, ?_⟩) (Below.refl _ _) ?_
      · intro w' hSw
        (try simp only [List.getElem_toArray, List.getElem_cons_succ, List.getElem_cons_zero])
        go_simp
      (try simp only [List.getElem_toArray, List.getElem_cons_succ, List.getElem_cons_zero, Act.put, List.setIfInBounds_toArray, List.set_cons_zero, List.set_cons_succ])
      refine wpAnyE_take (i := 6) (oi := _) (v := .pointer (some ⟨ga, 0, none⟩)) rfl (by kernel_rfl) (by kernel_rfl) (by kernel_rfl) (by kernel_rfl) (fun _ _ _ h => h) (Or.inl ⟨by rfl, ?_⟩) (Below.refl _ _) ?_
      · intro w' hSw
        (try simp only [List.getElem_toArray, List.getElem_cons_succ, List.getElem_cons_zero])
        go_simp
      (try simp only [List.getElem_toArray, List.getElem_cons_succ, List.getElem_cons_zero, Act.put, List.setIfInBounds_toArray, List.set_cons_zero, List.set_cons_succ])
      refine wpAnyE_take (i := 7) (oi := _) (v := .int .i64 had) rfl (by kernel_rfl) (by kernel_rfl) (by kernel_rfl) (by kernel_rfl) (fun _ _ _ h => h) (Or.inl ⟨by rfl, ?_⟩) (Below.refl _ _) ?_
      · intro w' hSw
        have s1 := (kR.keep hSw).cell 0
        (try simp at s1)
        (try simp only [List.getElem_toArray, List.getElem_cons_succ, List.getElem_cons_zero])
        go_simp
      (try simp only [List.getElem_toArray, List.getElem_cons_succ, List.getElem_cons_zero, Act.put, List.setIfInBounds_toArray, List.set_cons_zero, List.set_cons_succ])
      refine wpAnyE_take (i := 8) (oi := _) (v := .pointer (some ⟨gs, who * 11, none⟩)) rfl (by kernel_rfl) (by kernel_rfl) (by kernel_rfl) (by kernel_rfl) (fun _ _ _ h => h) (Or.inl ⟨by rfl, ?_⟩) (Below.refl _ _) ?_
      · intro w' hSw
        (try simp only [List.getElem_toArray, List.getElem_cons_succ, List.getElem_cons_zero])
        go_simp
      (try simp only [List.getElem_toArray, List.getElem_cons_succ, List.getElem_cons_zero, Act.put, List.setIfInBounds_toArray, List.set_cons_zero, List.set_cons_succ])
      refine wpAnyE_take (i := 9) (oi := _) (v := .pointer (some ⟨gs, who * 11, none⟩)) rfl (by kernel_rfl) (by kernel_rfl) (by kernel_rfl) (by kernel_rfl) (fun _ _ _ h => h) (Or.inl ⟨by rfl, ?_⟩) (Below.refl _ _) ?_
      · intro w' hSw
        (try simp only [List.getElem_toArray, List.getElem_cons_succ, List.getElem_cons_zero])
        go_simp
      (try simp only [List.getElem_toArray, List.getElem_cons_succ, List.getElem_cons_zero, Act.put, List.setIfInBounds_toArray, List.set_cons_zero, List.set_cons_succ])
      refine wpAnyE_take (i := 10) (oi := _) (v := .pointer (some ⟨gs, who * 11 + 9, none⟩)) rfl (by kernel_rfl) (by kernel_rfl) (by kernel_rfl) (by kernel_rfl) (fun _ _ _ h => h) (Or.inl ⟨by rfl, ?_⟩) (Below.refl _ _) ?_
      · intro w' hSw
        (try simp only [List.getElem_toArray, List.getElem_cons_succ, List.getElem_cons_zero])
        go_simp
      (try simp only [List.getElem_toArray, List.getElem_cons_succ, List.getElem_cons_zero, Act.put, List.setIfInBounds_toArray, List.set_cons_zero, List.set_cons_succ])
      refine wpAnyE_take (i := 11) (oi := _) (v := .int .i64 s.read) rfl (by kernel_rfl) (by kernel_rfl) (by kernel_rfl) (by kernel_rfl) (fun _ _ _ h => h) (Or.inl ⟨by rfl, ?_⟩) (Below.refl _ _) ?_
      · intro w' hSw
        have s1 := cell_keep hSw o9
        (try simp at s1)
        (try simp only [List.getElem_toArray, List.getElem_cons_succ, List.getElem_cons_zero])
        go_simp
      (try simp only [List.getElem_toArray, List.getElem_cons_succ, List.getElem_cons_zero, Act.put, List.setIfInBounds_toArray, List.set_cons_zero, List.set_cons_succ])
      refine wpAnyE_take (i := 12) (oi := _) (v := .bool false) rfl (by kernel_rfl) (by kernel_rfl) (by kernel_rfl) (by kernel_rfl) (fun _ _ _ h => h) (Or.inl ⟨by rfl, ?_⟩) (Below.refl _ _) ?_
      · intro w' hSw
        have e4 : (had != s.read) = false := by rw [HYY.out.2.2.2.2.2.1 (by have := HHV.out.1; omega)]; simp
        (try simp only [List.getElem_toArray, List.getElem_cons_succ, List.getElem_cons_zero])
        go_simp
      (try simp only [List.getElem_toArray, List.getElem_cons_succ, List.getElem_cons_zero, Act.put, List.setIfInBounds_toArray, List.set_cons_zero, List.set_cons_succ])
      refine wpAnyE_take (i := 13) (oi := _) (v := .bool false) rfl (by kernel_rfl) (by kernel_rfl) (by kernel_rfl) (by kernel_rfl) (fun _ _ _ h => h) (Or.inl ⟨by rfl, ?_⟩) (Below.refl _ _) ?_
      · intro w' hSw
        (try simp only [List.getElem_toArray, List.getElem_cons_succ, List.getElem_cons_zero])
        go_simp
      (try simp only [List.getElem_toArray, List.getElem_cons_succ, List.getElem_cons_zero, Act.put, List.setIfInBounds_toArray, List.set_cons_zero, List.set_cons_succ])
      refine wpAnyE_take (i := 14) (oi := _) (v := .bool false) rfl (by kernel_rfl) (by kernel_rfl) (by kernel_rfl) (by kernel_rfl) (fun _ _ _ h => h) (Or.inl ⟨by rfl, ?_⟩) (Below.refl _ _) ?_
      · intro w' hSw
        (try simp only [List.getElem_toArray, List.getElem_cons_succ, List.getElem_cons_zero])
        go_simp
      (try simp only [List.getElem_toArray, List.getElem_cons_succ, List.getElem_cons_zero, Act.put, List.setIfInBounds_toArray, List.set_cons_zero, List.set_cons_succ])
      refine wpAnyE_take (i := 15) (oi := _) (v := .pointer (some ⟨ga, 0, none⟩)) rfl (by kernel_rfl) (by kernel_rfl) (by kernel_rfl) (by kernel_rfl) (fun _ _ _ h => h) (Or.inl ⟨by rfl, ?_⟩) (Below.refl _ _) ?_
      · intro w' hSw
        (try simp only [List.getElem_toArray, List.getElem_cons_succ, List.getElem_cons_zero])
        go_simp
      (try simp only [List.getElem_toArray, List.getElem_cons_succ, List.getElem_cons_zero, Act.put, List.setIfInBounds_toArray, List.set_cons_zero, List.set_cons_succ])
      refine wpAnyE_take (i := 16) (oi := _) (v := .int .i64 had) rfl (by kernel_rfl) (by kernel_rfl) (by kernel_rfl) (by kernel_rfl) (fun _ _ _ h => h) (Or.inl ⟨by rfl, ?_⟩) (Below.refl _ _) ?_
      · intro w' hSw
        have s1 := (kR.keep hSw).cell 0
        (try simp at s1)
        (try simp only [List.getElem_toArray, List.getElem_cons_succ, List.getElem_cons_zero])
        go_simp
      (try simp only [List.getElem_toArray, List.getElem_cons_succ, List.getElem_cons_zero, Act.put, List.setIfInBounds_toArray, List.set_cons_zero, List.set_cons_succ])
      refine wpAnyE_take (i := 17) (oi := _) (v := .bool false) rfl (by kernel_rfl) (by kernel_rfl) (by kernel_rfl) (by kernel_rfl) (fun _ _ _ h => h) (Or.inl ⟨by rfl, ?_⟩) (Below.refl _ _) ?_
      · intro w' hSw
        (try simp only [List.getElem_toArray, List.getElem_cons_succ, List.getElem_cons_zero])
        go_simp
      (try simp only [List.getElem_toArray, List.getElem_cons_succ, List.getElem_cons_zero, Act.put, List.setIfInBounds_toArray, List.set_cons_zero, List.set_cons_succ])
      refine wpAnyE_take (i := 18) (oi := _) (v := .bool false) rfl (by kernel_rfl) (by kernel_rfl) (by kernel_rfl) (by kernel_rfl) (fun _ _ _ h => h) (Or.inl ⟨by rfl, ?_⟩) (Below.refl _ _) ?_
      · intro w' hSw
        (try simp only [List.getElem_toArray, List.getElem_cons_succ, List.getElem_cons_zero])
        go_simp
      (try simp only [List.getElem_toArray, List.getElem_cons_succ, List.getElem_cons_zero, Act.put, List.setIfInBounds_toArray, List.set_cons_zero, List.set_cons_succ])
      refine wpAnyE_done (by kernel_rfl) ?_ _
      clear o2 o9 e3
      go_upto_region 20 with fail
      have hfin := HYY.out.1
      have hb1 := HYY.out.2.1
      subst hb1
      have ha1 := HHV.out.1
      have HZ2 := Lib.hid HYY.out.2.2.2.2.2.1
      subst hfin
      clear HYY
      have hneg : ga ≠ gs := by
        obtain ⟨_, k2, _⟩ := hx.sts
        exact bk_neT kR k2 (by decide)
      have d0 := kR.cell 0
      have l10 := kR.lt
      simp at d0
      obtain ⟨lv', gv', sv⟩ := hx.sv hw
      have o9 := sv.cells 9 _ rfl
      have f9 := sv.free 9
      have lS := sv.lt
      clear sv
      have hx1 := hx.us0 hw (j := 9) (v := (.int .i64 had)) (s' := { s with read := had }) (by decide) (fun _ _ => rfl) rfl rfl
      have hst1 := hst.trans (Stw.setS w10 (who * 11 + 9) (.int .i64 had))
      have HX := Lib.hid (And.intro hx1 hst1)
      clear hx1 hst1 hx hst
      go_upto_region 21 with fail
      clear d0 l10
      clear o9 f9 lS
      show Code.wp Try.prog _ _ _ (w10.setCell ⟨gs, who * 11 + 9, none⟩ (.int .i64 had))
      obtain ⟨hx, hst⟩ := HX.out
      clear HX
      generalize w10.setCell ⟨gs, who * 11 + 9, none⟩ (.int .i64 had) = w11 at *
      have hwr : IntKind.i64.wrap (2 + 1) = ((s.at_ + 1 : Nat) : Int) := by rw [IntWalk.i64_in _ (by omega)]; omega
      obtain ⟨lv', gv', sv⟩ := hx.sv hw
      have o2 : w11.cell? ⟨gs, who * 11 + 2, none⟩ = some (.int .i64 2) := by rw [sv.cells 2 _ rfl]; show some (Value.int .i64 (s.at_ : Nat)) = _; rw [ha1]
      have f2 := sv.free 2
      have lS := sv.lt
      clear sv
      have hx1 := hx.us0 hw (j := 2) (v := (.int .i64 ((s.at_ + 1 : Nat) : Int))) (s' := { s with read := had, at_ := s.at_ + 1 }) (by decide) (fun _ _ => rfl) rfl rfl
      have hst1 := hst.trans (Stw.setS w11 (who * 11 + 2) (.int .i64 ((s.at_ + 1 : Nat) : Int)))
      have hvv : ((s.at_ + 1 : Nat) : Int) = 2 + 1 := by omega
      rw [hvv] at hx1 hst1
      rw [show (2 : Int) + 1 = 3 from rfl] at hx1 hst1
      have HX := Lib.hid (And.intro hx1 hst1)
      clear hx1 hst1 hx hst ha1 HHV hvv
      go_wp2_with fail
      obtain ⟨hx, hst⟩ := HX.out
      refine bodyPost_ret (v := .tuple #[]) (results_none rfl _ _ _) rfl ⟨rfl, ?_, hst⟩
      have hz2 := HZ2.out
      rw [show (decide (s.at_ = 2) && !decide (had = s.read)) = false from by
        by_cases q : s.at_ = 2
        · simp [q, hz2 q]
        · simp [q]]
      exact hx.top
  · have hyy := (look_3 (l := l) (who := who) (x := ⟨m, s, bad⟩) h4).symm.trans HY.out.1
    have HYY := Lib.hid (And.intro hyy HY.out.2)
    obtain ⟨av, hav⟩ : ∃ a : Int, ((s.at_ : Nat) : Int) = a := ⟨_, rfl⟩
    have q2' : w5.cell? ⟨gs, who * 11 + 2, none⟩ = some (.int .i64 av) := by rw [q2, ← hav]; rfl
    have e0 : (av == 0) = false := by simp; omega
    have e0' : decide (av = 0) = false := by simp; omega
    have e1 : (av == 1) = false := by simp; omega
    have e1' : decide (av = 1) = false := by simp; omega
    have e2 : (av == 2) = false := by simp; omega
    have e2' : decide (av = 2) = false := by simp; omega
    clear hyy q2 HY h4 hav
    go_upto_region 3 with fail
    clear q2' lq e0 e0' e1 e1' e2 e2'
    obtain ⟨lv', gv', sv⟩ := hx.sv hw
    have o3 := sv.cells 3 _ rfl
    have o4 := sv.cells 4 _ rfl
    have o5 := sv.cells 5 _ rfl
    have o6 := sv.cells 6 _ rfl
    have o8 := sv.cells 8 _ rfl
    have f3 := sv.free 3
    have f4 := sv.free 4
    have f5 := sv.free 5
    have f6 := sv.free 6
    have lS := sv.lt
    clear sv
    have hx1 := hx.op hw ⟨2, 0, 0, 0⟩
    have hst1 := hst.trans (Stw.op (gt := gt) (who := who) w5 ⟨2, 0, 0, 0⟩)
    have kL1 := (Stw.op (gt := gt) (gs := gs) (who := who) w5 ⟨2, 0, 0, 0⟩).keep kL (by omega) (by omega)
    have HX := Lib.hid (And.intro hx1 (And.intro hst1 kL1))
    clear hx1 hst1 kL1 hx hst kL
    go_upto_region 4 with fail
    clear o3 o4 o5 o6 o8 f3 f4 f5 f6 lS
    show Code.wp Try.prog _ _ _ (setOpW w5 gs who ⟨2, 0, 0, 0⟩)
    obtain ⟨hx, hst, kL⟩ := HX.out
    clear HX
    generalize setOpW w5 gs who ⟨2, 0, 0, 0⟩ = w6 at *
    obtain ⟨z, hz⟩ : ∃ z, progM l true who ⟨m, { s with op := ⟨2, 0, 0, 0⟩ }, bad⟩ = z := ⟨_, rfl⟩
    have hyy := HYY.out
    rw [hz] at hyy
    have hzb : z.1.bad = false := by
      obtain ⟨z1, z2⟩ := z
      rcases z2 with _ | ⟨v1, v2, v3⟩
      · have h9 := congrArg Stp3.bad hyy.1
        exact h9.trans hyy.2
      · have h9 := congrArg Stp3.bad hyy.1
        exact h9.trans hyy.2
    have HZ := Lib.hid (And.intro hz hyy.1)
    clear hyy HYY
    go_wp2_with (refine wpList_load_row rfl 40 (.tmp 4) rfl bL rfl 40 (lyC l) (0, 0) _ kL Try.underlying40 rfl (by kernel_rfl) ?_)
    (with_reducible refine (tprog_any (s := { s with op := ⟨2, 0, 0, 0⟩ }) true l hx (at_set hw) HF.out.1 HF.out.2.1 HF.out.2.2.1 (by simpa using hw3) hml hll hgl HF.out.2.2.2 (show (0 : Int) ≤ 1000000 by decide) (by rw [hz]; exact hzb)).mono ?_)
    intro e w7 hpost
    dsimp only at hpost
    rw [hz] at hpost
    obtain ⟨hp1, hx7, hst7⟩ := hpost
    rw [set_set] at hx7
    replace hst := hst.trans hst7
    replace kL := hst7.keep kL (by omega) (by omega)
    clear hx hst7 hz hzb
    obtain ⟨⟨zm, zs, zb⟩, zo⟩ := z
    cases zo with
    | none =>
      dsimp only at hp1 hx7
      subst hp1
      have hfin : y = ⟨zm, zs, zb⟩ := HZ.out.2.symm
      subst hfin
      have hba := below_al (Below.refl w7.heap.size w7) (.cells outZ 63)
      have HX := Lib.hid (And.intro (hx7.keep hba).top (hst.trans (Stw.of_below hba)))
      clear hx7 hst hba HZ
      go_wp2_with (refine wpList_store_new rfl 63 (.tmp 11) (.tmp 32) rfl rfl w7.heap.size _ _ outZ rfl rfl rfl rfl (by kernel_rfl) rfl (by simp [Value.oneCell']) ?_)
      exact bodyPost_ret (v := .tuple #[]) (results_none rfl _ _ _) rfl ⟨rfl, HX.out.1, HX.out.2⟩
    | some vv =>
      obtain ⟨val, is, g⟩ := vv
      obtain ⟨err, pt, GV, nV, cV, rfl, -⟩ := hp1
      dsimp only at hx7
      have hfin : y = ⟨zm, { zs with busy := false }, zb⟩ := HZ.out.2.symm
      subst hfin
      clear HZ
      have hba := below_al (Below.refl w7.heap.size w7) (.cells (outG val is err pt (.slice GV nV cV)) 63)
      have hx := hx7.keep hba
      replace hst := hst.trans (Stw.of_below (gt := gt) (gs := gs) hba)
      clear hx7 hba kL
      go_upto_region 6 with (refine wpList_store_new rfl 63 (.tmp 11) (.tmp 32) rfl rfl w7.heap.size _ _ (outG val is err pt (.slice GV nV cV)) rfl rfl rfl rfl (by kernel_rfl) rfl (by simp [Value.oneCell']) ?_)
      generalize w7.alloc (.cells (outG val is err pt (.slice GV nV cV)) 63) = w8 at *
      obtain ⟨lv', gv', sv⟩ := hx.sv hw
      have o1 := sv.cells 1 _ rfl
      have f1 := sv.free 1
      have lS := sv.lt
      clear sv
      have hx1 := hx.us0 hw (j := 1) (v := (.bool false)) (s' := { zs with busy := false }) (by decide) (fun _ _ => rfl) rfl rfl
      have hst1 := hst.trans (Stw.setS w8 (who * 11 + 1) (.bool false))
      have HX := Lib.hid (And.intro hx1 hst1)
      clear hx1 hst1 hx hst
      go_wp2_with fail
      clear o1 f1 lS
      obtain ⟨hx, hst⟩ := HX.out
      exact bodyPost_ret (v := .tuple #[]) (results_none rfl _ _ _) rfl ⟨rfl, hx.top, hst⟩
end Go.Proofs.Ytgjdjgainjedhaa
