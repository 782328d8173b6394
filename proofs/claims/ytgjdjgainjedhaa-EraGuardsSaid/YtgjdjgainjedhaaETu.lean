/- The table's turn. Printed by tu_gen.py. -/
import Derived.Test.YtgjdjgainjedhaaELk
import Derived.Test.YtgjdjgainjedhaaEWh
import Derived.Test.YtgjdjgainjedhaaERun
namespace Go.Proofs.Ytgjdjgainjedhaa
open Go.RowKit
set_option linter.unusedVariables false
attribute [local go_sem ↓] Go.wp_at_zero Go.wp_at_succ

theorem SlU8s.keep {w w' : World} {B : Nat} {A : Option Addr} {l : List (List Nat)} (h : SlU8s w B A l) (hb : Below B w w') : SlU8s w' B A l := h.below hb
theorem Stw.drew {gt gs : Nat} {w w' : World} (h : Stw gt gs w w') : Stw gt gs w w'.drew := ⟨h.os, h.tape, h.output, h.size, h.block⟩
theorem SlU8.drew {w : World} {B : Nat} {A : Option Addr} {l : List Nat} (h : SlU8 w B A l) : SlU8 w.drew B A l := h
theorem Stw.par {gt gs B : Nat} {w w' : World} (h : Stw gt gs w w') (h1 : B ≤ gt) (h2 : B ≤ gs) (hB : B ≤ w.heap.size) : Below B w w' := h.part h1 h2 hB
set_option maxRecDepth 1000000 in
set_option maxHeartbeats 8000000 in
theorem tturn_any {w : World} {B B0 gt gs n : Nat} {t : TabE} {who : Nat} {s0 : SeatE} {want : List (List Nat)} (l : Ly) (tN : Int) (W T' : Option Addr) (c m' d : Nat) (h : TRep w B gt gs t) (hs : t.seats[who]? = some s0) (hW : SlU8s w B0 W want) (hB : B0 ≤ gt ∧ B0 ≤ gs ∧ B0 ≤ w.heap.size) (hwn : want.length = n) (hlen : t.seats.length = n) (f : LyFull l) (hse : 1 ≤ l.c.seats ∧ l.c.seats ≤ 8) (hno : l.c.nodes ≤ 1000) (hw3 : n ≤ 3) (hml : t.m.length ≤ 1000) (hll : s0.log.length ≤ 1000) (hgl : s0.gone.length ≤ 900) (hgb : ∀ x ∈ s0.gone, x.1 ≤ 1000000) (hat : s0.at_ ≤ 3) (hnd : s0.node ≤ 1000000) (hnx : s0.next ≤ (want.getD who []).length ∧ (s0.busy = true → 1 ≤ s0.next)) (hwl : (want.getD who []).length ≤ 1000)
    (hbad : (turnE l want who t).bad = false) :
    Calls Try.prog 21 #[ptr gt, lyV l, .agg (playC tN W n c T' m' d), .int .i64 (who : Nat)] w (UnitStep gt gs (turnE l want who t) w) := by
  have hwho : who < n := by rw [← hlen]; exact (List.getElem?_eq_some_iff.1 hs).1
  obtain ⟨xs, hxs⟩ : ∃ xs, want[who]? = some xs := ⟨_, List.getElem?_eq_getElem (by omega)⟩
  have hxd : want.getD who [] = xs := by rw [List.getD_eq_getElem?_getD, hxs]; rfl
  rw [hxd] at hnx hwl
  obtain ⟨bW, oW, rfl, hbW, hcW⟩ := hW (by omega)
  obtain ⟨AX, cX, cW, hX⟩ := hcW who xs hxs
  obtain ⟨m, ss, bad⟩ := t
  dsimp only at hs hlen hml
  have hwl0 : who < ss.length := by omega
  have HY := Lib.hid hbad
  have HF := Lib.hid (And.intro f (And.intro hse (And.intro hno hgb)))
  have HD := Lib.hid (And.intro hxd hs)
  have hba := below_al (below_al (Below.refl w.heap.size w) (.cells (lyC l) 40)) (.cells (playC tN (some ⟨bW, oW, none⟩) n c T' m' d) 25)
  have hbB : Below B0 w ((w.alloc (.cells (lyC l) 40)).alloc (.cells (playC tN (some ⟨bW, oW, none⟩) n c T' m' d) 25)) := ⟨rfl, rfl, rfl, hba.size, fun b hb => hba.block b (by omega)⟩
  have hx := h.start hs
  replace hx := hx.top.keep hba
  have hst : Stw gt gs w _ := Stw.of_below hba
  have kL := (Bk.made w 40 (lyC l)).alloc (.cells (playC tN (some ⟨bW, oW, none⟩) n c T' m' d) 25)
  have kP := Bk.new (w.alloc (.cells (lyC l) 40)) (g := w.heap.size + 1) (by simp) 25 (playC tN (some ⟨bW, oW, none⟩) n c T' m' d)
  have hgt : gt < w.heap.size ∧ gs < w.heap.size := by
    obtain ⟨_, _, _, k, _⟩ := h.mem
    obtain ⟨_, k2, _⟩ := h.sts
    exact ⟨k.lt, k2.lt⟩
  have hW1 : (((w.alloc (.cells (lyC l) 40)).alloc (.cells (playC tN (some ⟨bW, oW, none⟩) n c T' m' d) 25))).cell? ⟨bW, oW + who, none⟩ = some (.slice AX xs.length cX) := (hbB.cell (p := ⟨bW, _, none⟩) hbW).trans cW
  have hX1 := hX.below hbB
  clear h hs hW hcW cW hX f hse hno hgb hbad hba hxs hbB hxd
  go_enter Try.func21, Try.ntmps21
  go_upto_region 1 with fail
  generalize (w.alloc (.cells (lyC l) 40)).alloc (.cells (playC tN (some ⟨bW, oW, none⟩) n c T' m' d) 25) = w5 at *
  obtain ⟨bL, hbL⟩ : ∃ g, w.heap.size = g := ⟨_, rfl⟩
  have HB := Lib.hid hbL
  rw [hbL] at kL kP hgt hB ⊢
  clear hbL
  have hwls : (ss.set who s0).length = ss.length := by simp
  obtain ⟨cc, c1, lT⟩ := hx.c1
  rw [hwls] at c1
  have hwi : (who : Int) < ss.length := by omega
  have hwj : (who : Int) < n := by omega
  go_upto_region 2 with fail
  clear c1 lT hwls
  obtain ⟨lv0, gv0, sv0⟩ := hx.sv hwl0
  have q1 := sv0.cells 1 _ rfl
  have q0 := sv0.cells 0 _ rfl
  have lq := sv0.lt
  clear sv0
  have lP := kP.lt
  have p1 := kP.cell 1
  simp at p1
  have lW : bW < w5.heap.size := by omega
  obtain ⟨nx, hnxe⟩ : ∃ z : Int, ((s0.next : Nat) : Int) = z := ⟨_, rfl⟩
  have q0' : w5.cell? ⟨gs, who * 11, none⟩ = some (.int .i64 nx) := by rw [← hnxe]; exact q0
  have HNX := Lib.hid hnxe
  clear q0
  cases hb : s0.busy with
  | false =>
    have q1' : w5.cell? ⟨gs, who * 11 + 1, none⟩ = some (.bool false) := by rw [q1]; show some (Value.bool s0.busy) = _; rw [hb]
    clear q1
    by_cases hfin : xs.length ≤ s0.next
    · have hF : turnE l want who ⟨m, ss, bad⟩ = ⟨m, ss, bad⟩ := turn_fin (s0 := s0) HD.out.2 ⟨hb, by rw [HD.out.1]; exact hfin⟩
      have HFN := Lib.hid hF
      have g1 : decide ((xs.length : Int) ≤ nx) = true := by simp; omega
      have HX := Lib.hid (And.intro hx hst)
      clear hx hst hfin hnx hF hb hnxe
      go_upto_region 3 with fail
      go_region
      go_wp2_with fail
      obtain ⟨hx, hst⟩ := HX.out
      refine bodyPost_ret (v := .tuple #[]) (results_none rfl _ _ _) rfl ⟨rfl, ?_, hst.drew⟩
      replace hx := hx.drew
      have e : ss.set who s0 = ss := by
        apply List.ext_getElem?
        intro j
        by_cases ej : j = who
        · subst ej
          rw [List.getElem?_set_self hwl0, HD.out.2]
        · rw [List.getElem?_set_ne (fun e => ej e.symm)]
      rw [e] at hx
      rw [HFN.out]
      exact hx.top
    · have hF := turn_go (l := l) (want := want) (t := ⟨m, ss, bad⟩) HD.out.2 (fun q => hfin (by rw [← HD.out.1]; exact q.2))
      have g1 : decide ((xs.length : Int) ≤ nx) = false := by simp; omega
      have hwk : wakeE s0 = { s0 with next := s0.next + 1, busy := true, at_ := 0, log := [], node := 0 } := by unfold wakeE; rw [if_neg (by rw [hb]; decide)]
      have HG := Lib.hid (And.intro hF (And.intro hwk (show s0.next < xs.length by omega)))
      clear hF hwk hb hfin hnx
      have HX := Lib.hid (And.intro hx (And.intro hst (And.intro kL (And.intro hX1 hW1))))
      clear hx hst kL hX1
      go_upto_region 3 with fail
      go_region
      go_upto_region 4 with fail
      clear g1 q1' p1 q0' lq lW lP hW1
      replace kP := kP.drew
      have hx := HX.out.1.drew
      have hst := HX.out.2.1.drew
      have kL := HX.out.2.2.1.drew
      have hX1 := HX.out.2.2.2.1.drew
      have hW1 : w5.drew.cell? ⟨bW, oW + who, none⟩ = some (.slice AX xs.length cX) := HX.out.2.2.2.2
      clear HX
      generalize w5.drew = w50 at *
      obtain ⟨nz, hnz⟩ : ∃ z : Int, ((s0.next + 1 : Nat) : Int) = z := ⟨_, rfl⟩
      have HNZ := Lib.hid hnz
      have hwr : IntKind.i64.wrap (nx + 1) = nz := by rw [IntWalk.i64_in _ (by have := HG.out.2.2; omega)]; omega
      clear hnz
      obtain ⟨lv', gv', sv⟩ := hx.sv hwl0
      have o0 := sv.cells 0 _ rfl
      have f0 := sv.free 0
      have lS := sv.lt
      have o0' : w50.cell? ⟨gs, who * 11, none⟩ = some (.int .i64 nx) := by rw [← HNX.out]; exact o0
      have f0' : w50.frozen? ⟨gs, who * 11, none⟩ = false := f0
      clear o0
      have o0 := f0
      clear sv
      have hx1 := hx.us0 hwl0 (j := 0) (v := (.int .i64 nz)) (s' := { s0 with next := s0.next + 1 }) (by decide) (fun _ _ => by rw [← HNZ.out]; rfl) rfl rfl
      have hst1 := hst.trans (Stw.setS w50 (who * 11 + 0) (.int .i64 nz))
      have kL1 := (Stw.setS (gt := gt) (gs := gs) w50 (who * 11 + 0) (.int .i64 nz)).keep kL (by omega) (by omega)
      have kP1 := (Stw.setS (gt := gt) (gs := gs) w50 (who * 11 + 0) (.int .i64 nz)).keep kP (by omega) (by omega)
      have hbj : Below B0 w50 (w50.setCell ⟨gs, who * 11 + 0, none⟩ (.int .i64 nz)) := (Stw.setS (gt := gt) (gs := gs) w50 (who * 11 + 0) (.int .i64 nz)).par hB.1 hB.2.1 (by omega)
      have hW2 := (hbj.cell (p := ⟨bW, _, none⟩) hbW).trans hW1
      have hX2 := hX1.below hbj
      have hz : bL < w50.heap.size := kL.lt
      have HX := Lib.hid (And.intro hx1 (And.intro hst1 (And.intro kL1 (And.intro kP1 (And.intro hW2 hX2)))))
      clear hx1 hst1 hx hst kL1 kP1 kL kP hbj hW1 hX1 hW2 hX2
      go_upto_region 5 with fail
      clear o0 f0 lS hwr o0' f0'
      show Code.wp Try.prog _ _ _ (w50.setCell ⟨gs, who * 11 + 0, none⟩ (.int .i64 nz))
      obtain ⟨hx, hst, kL, kP, hW1, hX1⟩ := HX.out
      clear HX hz
      generalize w50.setCell ⟨gs, who * 11 + 0, none⟩ (.int .i64 nz) = w6 at *
      obtain ⟨lv', gv', sv⟩ := hx.sv hwl0
      have o1 := sv.cells 1 _ rfl
      have f1 := sv.free 1
      have lS := sv.lt
      clear sv
      have hx1 := hx.us0 hwl0 (j := 1) (v := (.bool true)) (s' := { s0 with next := s0.next + 1, busy := true }) (by decide) (fun _ _ => rfl) rfl rfl
      have hst1 := hst.trans (Stw.setS w6 (who * 11 + 1) (.bool true))
      have kL1 := (Stw.setS (gt := gt) (gs := gs) w6 (who * 11 + 1) (.bool true)).keep kL (by omega) (by omega)
      have kP1 := (Stw.setS (gt := gt) (gs := gs) w6 (who * 11 + 1) (.bool true)).keep kP (by omega) (by omega)
      have hbj : Below B0 w6 (w6.setCell ⟨gs, who * 11 + 1, none⟩ (.bool true)) := (Stw.setS (gt := gt) (gs := gs) w6 (who * 11 + 1) (.bool true)).par hB.1 hB.2.1 (by omega)
      have hW2 := (hbj.cell (p := ⟨bW, _, none⟩) hbW).trans hW1
      have hX2 := hX1.below hbj
      have hz : bL < w6.heap.size := kL.lt
      have HX := Lib.hid (And.intro hx1 (And.intro hst1 (And.intro kL1 (And.intro kP1 (And.intro hW2 hX2)))))
      clear hx1 hst1 hx hst kL1 kP1 kL kP hbj hW1 hX1 hW2 hX2
      go_upto_region 6 with fail
      clear o1 f1 lS 
      show Code.wp Try.prog _ _ _ (w6.setCell ⟨gs, who * 11 + 1, none⟩ (.bool true))
      obtain ⟨hx, hst, kL, kP, hW1, hX1⟩ := HX.out
      clear HX hz
      generalize w6.setCell ⟨gs, who * 11 + 1, none⟩ (.bool true) = w7 at *
      obtain ⟨lv', gv', sv⟩ := hx.sv hwl0
      have o2 := sv.cells 2 _ rfl
      have f2 := sv.free 2
      have lS := sv.lt
      clear sv
      have hx1 := hx.us0 hwl0 (j := 2) (v := (.int .i64 0)) (s' := { s0 with next := s0.next + 1, busy := true, at_ := 0 }) (by decide) (fun _ _ => rfl) rfl rfl
      have hst1 := hst.trans (Stw.setS w7 (who * 11 + 2) (.int .i64 0))
      have kL1 := (Stw.setS (gt := gt) (gs := gs) w7 (who * 11 + 2) (.int .i64 0)).keep kL (by omega) (by omega)
      have kP1 := (Stw.setS (gt := gt) (gs := gs) w7 (who * 11 + 2) (.int .i64 0)).keep kP (by omega) (by omega)
      have hbj : Below B0 w7 (w7.setCell ⟨gs, who * 11 + 2, none⟩ (.int .i64 0)) := (Stw.setS (gt := gt) (gs := gs) w7 (who * 11 + 2) (.int .i64 0)).par hB.1 hB.2.1 (by omega)
      have hW2 := (hbj.cell (p := ⟨bW, _, none⟩) hbW).trans hW1
      have hX2 := hX1.below hbj
      have hz : bL < w7.heap.size := kL.lt
      have HX := Lib.hid (And.intro hx1 (And.intro hst1 (And.intro kL1 (And.intro kP1 (And.intro hW2 hX2)))))
      clear hx1 hst1 hx hst kL1 kP1 kL kP hbj hW1 hX1 hW2 hX2
      go_upto_region 7 with fail
      clear o2 f2 lS 
      show Code.wp Try.prog _ _ _ (w7.setCell ⟨gs, who * 11 + 2, none⟩ (.int .i64 0))
      obtain ⟨hx, hst, kL, kP, hW1, hX1⟩ := HX.out
      clear HX hz
      generalize w7.setCell ⟨gs, who * 11 + 2, none⟩ (.int .i64 0) = w8 at *
      obtain ⟨lv', gv', sv⟩ := hx.sv hwl0
      have o7 := sv.cells 7 _ rfl
      have f7 := sv.free 7
      have lS := sv.lt
      clear sv
      have hx1 := hx.us hwl0 (j := 7) (v := (.slice none 0 0)) (s' := { s0 with next := s0.next + 1, busy := true, at_ := 0, log := [] }) (by decide) (fun lv gv h1 h2 => ⟨.slice none 0 0, gv, rfl, ⟨none, 0, rfl, World.ownsRow_nil _ _ _ _, fun a ha => by cases ha⟩, h2⟩)
      have hst1 := hst.trans (Stw.setS w8 (who * 11 + 7) (.slice none 0 0))
      have kL1 := (Stw.setS (gt := gt) (gs := gs) w8 (who * 11 + 7) (.slice none 0 0)).keep kL (by omega) (by omega)
      have kP1 := (Stw.setS (gt := gt) (gs := gs) w8 (who * 11 + 7) (.slice none 0 0)).keep kP (by omega) (by omega)
      have hbj : Below B0 w8 (w8.setCell ⟨gs, who * 11 + 7, none⟩ (.slice none 0 0)) := (Stw.setS (gt := gt) (gs := gs) w8 (who * 11 + 7) (.slice none 0 0)).par hB.1 hB.2.1 (by omega)
      have hW2 := (hbj.cell (p := ⟨bW, _, none⟩) hbW).trans hW1
      have hX2 := hX1.below hbj
      have hz : bL < w8.heap.size := kL.lt
      have HX := Lib.hid (And.intro hx1 (And.intro hst1 (And.intro kL1 (And.intro kP1 (And.intro hW2 hX2)))))
      clear hx1 hst1 hx hst kL1 kP1 kL kP hbj hW1 hX1 hW2 hX2
      go_upto_region 8 with fail
      clear o7 f7 lS 
      show Code.wp Try.prog _ _ _ (w8.setCell ⟨gs, who * 11 + 7, none⟩ (.slice none 0 0))
      obtain ⟨hx, hst, kL, kP, hW1, hX1⟩ := HX.out
      clear HX hz
      generalize w8.setCell ⟨gs, who * 11 + 7, none⟩ (.slice none 0 0) = w9 at *
      obtain ⟨lv', gv', sv⟩ := hx.sv hwl0
      have o8 := sv.cells 8 _ rfl
      have f8 := sv.free 8
      have lS := sv.lt
      clear sv
      have hx1 := hx.us0 hwl0 (j := 8) (v := (.int .i64 0)) (s' := { s0 with next := s0.next + 1, busy := true, at_ := 0, log := [], node := 0 }) (by decide) (fun _ _ => rfl) rfl rfl
      have hst1 := hst.trans (Stw.setS w9 (who * 11 + 8) (.int .i64 0))
      have kL1 := (Stw.setS (gt := gt) (gs := gs) w9 (who * 11 + 8) (.int .i64 0)).keep kL (by omega) (by omega)
      have kP1 := (Stw.setS (gt := gt) (gs := gs) w9 (who * 11 + 8) (.int .i64 0)).keep kP (by omega) (by omega)
      have hbj : Below B0 w9 (w9.setCell ⟨gs, who * 11 + 8, none⟩ (.int .i64 0)) := (Stw.setS (gt := gt) (gs := gs) w9 (who * 11 + 8) (.int .i64 0)).par hB.1 hB.2.1 (by omega)
      have hW2 := (hbj.cell (p := ⟨bW, _, none⟩) hbW).trans hW1
      have hX2 := hX1.below hbj
      have hz : bL < w9.heap.size := kL.lt
      have HX := Lib.hid (And.intro hx1 (And.intro hst1 (And.intro kL1 (And.intro kP1 (And.intro hW2 hX2)))))
      clear hx1 hst1 hx hst kL1 kP1 kL kP hbj hW1 hX1 hW2 hX2
      go_upto_region 9 with fail
      clear o8 f8 lS 
      show Code.wp Try.prog _ _ _ (w9.setCell ⟨gs, who * 11 + 8, none⟩ (.int .i64 0))
      obtain ⟨hx, hst, kL, kP, hW1, hX1⟩ := HX.out
      clear HX hz
      generalize w9.setCell ⟨gs, who * 11 + 8, none⟩ (.int .i64 0) = wa at *
      obtain ⟨s, hse⟩ : ∃ s, wakeE s0 = s := ⟨_, rfl⟩
      rw [← HG.out.2.1, hse] at hx
      have hF := HG.out.1
      rw [hse] at hF
      have hsl : s.log.length ≤ 1000 ∧ s.gone.length ≤ 900 ∧ s.at_ ≤ 3 ∧ s.node ≤ 1000000 ∧ s.gone = s0.gone ∧ ∃ j, s.next = j + 1 ∧ j < xs.length := by
        rw [← hse, HG.out.2.1]
        exact ⟨by simp, hgl, by simp, by simp, rfl, s0.next, rfl, HG.out.2.2⟩
      clear hse HG HNX hll hgl hat hnd hnxe
      obtain ⟨hl1, hl2, hl3, hl4, hl5, j, hj, hjl⟩ := hsl
      have HJ := Lib.hid hj
      obtain ⟨x, hxj⟩ : ∃ x, xs[j]? = some x := ⟨_, List.getElem?_eq_getElem hjl⟩
      obtain ⟨bX, oX, rfl, hbX, hcX⟩ := hX1 (by omega)
      obtain ⟨cx, hx256⟩ := hcX j x hxj
      have hwish : wish want who s = x := by
        unfold wish
        rw [HJ.out, HD.out.1, Nat.add_sub_cancel, List.getD_eq_getElem?_getD, hxj]
        rfl
      rw [hwish] at hF
      have HWF := Lib.hid hF
      clear hF hcX hwish hxj
      obtain ⟨lv0, gv0, sv0⟩ := hx.sv hwl0
      have q0 := sv0.cells 0 _ rfl
      have lq := sv0.lt
      clear sv0
      have lP := kP.lt
      have p1 := kP.cell 1
      simp at p1
      obtain ⟨ny, hny⟩ : ∃ z : Int, ((s.next : Nat) : Int) = z := ⟨_, rfl⟩
      have q0' : wa.cell? ⟨gs, who * 11, none⟩ = some (.int .i64 ny) := by rw [← hny]; exact q0
      have hsub : IntKind.i64.wrap (ny - 1) = (j : Int) := by rw [IntWalk.i64_in _ (by omega)]; omega
      have hji : (j : Int) < xs.length := by omega
      have lW : bW < wa.heap.size := by omega
      have lX : bX < wa.heap.size := by omega
      have HX := Lib.hid (And.intro hx (And.intro hst kL))
      clear q0 hny hj hx hst HJ kL
      go_region
      clear q0' hsub lq lP p1 lW lX hW1 cx hji kP
      have hx := HX.out.1.drew
      have hst := HX.out.2.1.drew
      have kL := HX.out.2.2.drew
      clear HX
      generalize wa.drew = wy at *
      have hbadx := HY.out
      rw [HWF.out] at hbadx
      have HBX := Lib.hid hbadx
      clear hbadx
      by_cases hev : x % 2 = 0
      · have m1 : ((x : Int) % 2 == 0) = true := by simp; omega
        have m2 : decide ((x : Int) % 2 = 0) = true := by simp; omega
        have hse : stepE l who x ⟨m, s, bad⟩ = writeM l who x ⟨m, s, bad⟩ := stepW hev _
        have HSE := Lib.hid hse
        clear hse hev
        go_wp2_with (refine wpList_load_row rfl 40 (.tmp 5) rfl bL rfl 40 (lyC l) (0, 0) _ kL Try.underlying40 rfl (by kernel_rfl) ?_)
        (with_reducible refine (twrite_any l x hx hwl0 HF.out.1 HF.out.2.1 HF.out.2.2.1 (by omega) hml hl1 hl2 (by rw [hl5]; exact HF.out.2.2.2) hl4 hx256 (by have := HBX.out; rw [HSE.out] at this; exact this)).mono ?_)
        rintro e wz ⟨rfl, hx2, hst2⟩
        go_wp2_with fail
        refine bodyPost_ret (v := .tuple #[]) (results_none rfl _ _ _) rfl ⟨rfl, ?_, hst.trans hst2⟩
        rw [HWF.out, HSE.out]
        exact hx2
      · have m1 : ((x : Int) % 2 == 0) = false := by simp; omega
        have m2 : decide ((x : Int) % 2 = 0) = false := by simp; omega
        have hse : stepE l who x ⟨m, s, bad⟩ = lookM l who ⟨m, s, bad⟩ := stepK hev _
        have HSE := Lib.hid hse
        clear hse hev
        go_wp2_with (refine wpList_load_row rfl 40 (.tmp 5) rfl bL rfl 40 (lyC l) (0, 0) _ kL Try.underlying40 rfl (by kernel_rfl) ?_)
        (with_reducible refine (tlook_any l hx hwl0 HF.out.1 HF.out.2.1 HF.out.2.2.1 (by omega) hml hl1 hl2 (by rw [hl5]; exact HF.out.2.2.2) hl3 (by have := HBX.out; rw [HSE.out] at this; exact this)).mono ?_)
        rintro e wz ⟨rfl, hx2, hst2⟩
        go_wp2_with fail
        refine bodyPost_ret (v := .tuple #[]) (results_none rfl _ _ _) rfl ⟨rfl, ?_, hst.trans hst2⟩
        rw [HWF.out, HSE.out]
        exact hx2
  | true =>
    have q1' : w5.cell? ⟨gs, who * 11 + 1, none⟩ = some (.bool true) := by rw [q1]; show some (Value.bool s0.busy) = _; rw [hb]
    clear q1
    have hF := turn_go (l := l) (want := want) (t := ⟨m, ss, bad⟩) HD.out.2 (fun q => by have q1 := q.1; rw [hb] at q1; cases q1)
    have hwk : wakeE s0 = s0 := by unfold wakeE; rw [if_pos hb]
    rw [hwk] at hF
    have hsl : s0.log.length ≤ 1000 ∧ s0.gone.length ≤ 900 ∧ s0.at_ ≤ 3 ∧ s0.node ≤ 1000000 ∧ s0.gone = s0.gone ∧ ∃ j, s0.next = j + 1 ∧ j < xs.length := ⟨hll, hgl, hat, hnd, rfl, s0.next - 1, by have := hnx.2 hb; omega, by have := hnx.2 hb; have := hnx.1; omega⟩
    clear hwk hb hnx hll hgl hat hnd hnxe
    go_upto_region 9 with fail
    clear q1' q0' lq lP p1 lW HNX
    obtain ⟨s, hss⟩ : ∃ s, s0 = s := ⟨_, rfl⟩
    rw [hss] at hx hF hsl
    have hsl : s.log.length ≤ 1000 ∧ s.gone.length ≤ 900 ∧ s.at_ ≤ 3 ∧ s.node ≤ 1000000 ∧ s.gone = s0.gone ∧ ∃ j, s.next = j + 1 ∧ j < xs.length := by rw [hss]; exact hsl
    clear hss
    obtain ⟨hl1, hl2, hl3, hl4, hl5, j, hj, hjl⟩ := hsl
    have HJ := Lib.hid hj
    obtain ⟨x, hxj⟩ : ∃ x, xs[j]? = some x := ⟨_, List.getElem?_eq_getElem hjl⟩
    obtain ⟨bX, oX, rfl, hbX, hcX⟩ := hX1 (by omega)
    obtain ⟨cx, hx256⟩ := hcX j x hxj
    have hwish : wish want who s = x := by
      unfold wish
      rw [HJ.out, HD.out.1, Nat.add_sub_cancel, List.getD_eq_getElem?_getD, hxj]
      rfl
    rw [hwish] at hF
    have HWF := Lib.hid hF
    clear hF hcX hwish hxj
    obtain ⟨lv0, gv0, sv0⟩ := hx.sv hwl0
    have q0 := sv0.cells 0 _ rfl
    have lq := sv0.lt
    clear sv0
    have lP := kP.lt
    have p1 := kP.cell 1
    simp at p1
    obtain ⟨ny, hny⟩ : ∃ z : Int, ((s.next : Nat) : Int) = z := ⟨_, rfl⟩
    have q0' : w5.cell? ⟨gs, who * 11, none⟩ = some (.int .i64 ny) := by rw [← hny]; exact q0
    have hsub : IntKind.i64.wrap (ny - 1) = (j : Int) := by rw [IntWalk.i64_in _ (by omega)]; omega
    have hji : (j : Int) < xs.length := by omega
    have lW : bW < w5.heap.size := by omega
    have lX : bX < w5.heap.size := by omega
    have HX := Lib.hid (And.intro hx (And.intro hst kL))
    clear q0 hny hj hx hst HJ kL
    go_region
    clear q0' hsub lq lP p1 lW lX hW1 cx hji kP
    have hx := HX.out.1.drew
    have hst := HX.out.2.1.drew
    have kL := HX.out.2.2.drew
    clear HX
    generalize w5.drew = wy at *
    have hbadx := HY.out
    rw [HWF.out] at hbadx
    have HBX := Lib.hid hbadx
    clear hbadx
    by_cases hev : x % 2 = 0
    · have m1 : ((x : Int) % 2 == 0) = true := by simp; omega
      have m2 : decide ((x : Int) % 2 = 0) = true := by simp; omega
      have hse : stepE l who x ⟨m, s, bad⟩ = writeM l who x ⟨m, s, bad⟩ := stepW hev _
      have HSE := Lib.hid hse
      clear hse hev
      go_wp2_with (refine wpList_load_row rfl 40 (.tmp 5) rfl bL rfl 40 (lyC l) (0, 0) _ kL Try.underlying40 rfl (by kernel_rfl) ?_)
      (with_reducible refine (twrite_any l x hx hwl0 HF.out.1 HF.out.2.1 HF.out.2.2.1 (by omega) hml hl1 hl2 (by rw [hl5]; exact HF.out.2.2.2) hl4 hx256 (by have := HBX.out; rw [HSE.out] at this; exact this)).mono ?_)
      rintro e wz ⟨rfl, hx2, hst2⟩
      go_wp2_with fail
      refine bodyPost_ret (v := .tuple #[]) (results_none rfl _ _ _) rfl ⟨rfl, ?_, hst.trans hst2⟩
      rw [HWF.out, HSE.out]
      exact hx2
    · have m1 : ((x : Int) % 2 == 0) = false := by simp; omega
      have m2 : decide ((x : Int) % 2 = 0) = false := by simp; omega
      have hse : stepE l who x ⟨m, s, bad⟩ = lookM l who ⟨m, s, bad⟩ := stepK hev _
      have HSE := Lib.hid hse
      clear hse hev
      go_wp2_with (refine wpList_load_row rfl 40 (.tmp 5) rfl bL rfl 40 (lyC l) (0, 0) _ kL Try.underlying40 rfl (by kernel_rfl) ?_)
      (with_reducible refine (tlook_any l hx hwl0 HF.out.1 HF.out.2.1 HF.out.2.2.1 (by omega) hml hl1 hl2 (by rw [hl5]; exact HF.out.2.2.2) hl3 (by have := HBX.out; rw [HSE.out] at this; exact this)).mono ?_)
      rintro e wz ⟨rfl, hx2, hst2⟩
      go_wp2_with fail
      refine bodyPost_ret (v := .tuple #[]) (results_none rfl _ _ _) rfl ⟨rfl, ?_, hst.trans hst2⟩
      rw [HWF.out, HSE.out]
      exact hx2
end Go.Proofs.Ytgjdjgainjedhaa
