/- arena's take. Printed by take_gen.py. -/
import Derived.Test.YtgjdjgainjedhaaPr
import Derived.Test.YtgjdjgainjedhaaLayN
namespace Go.Proofs.Ytgjdjgainjedhaa
open Go.RowKit
set_option linter.unusedVariables false
attribute [local go_sem ↓] Go.wp_at_zero Go.wp_at_succ

theorem run_loadVar_sub {P : Program} (w : World) (g o : Nat) (ty : TypeId) (cs : Array Value) (d : TypeDesc) (hc : ∀ (j : Nat) (v : Value), cs[j]? = some v → w.cell? ⟨g, o + j, none⟩ = some v)
    (hu : P.underlying ty = some d) (hd : (match d with | .struct _ | .array _ _ => true | _ => false) = true) (hi : (P.info? ty).map (·.size) = some cs.size) :
    (loadVar ty ⟨g, o, none⟩).run P w = .ok (.agg cs) w := by
  have hl : (loadCells ⟨g, o, none⟩ cs.toList.length).run P w = .ok cs.toList.toArray w :=
    run_loadCells_list (P := P) w ⟨g, o, none⟩ cs.toList (fun j v hv => by
      rw [Go.WideShapes.add_plain]
      exact hc j v (by simpa using hv))
  cases hq : P.info? ty with
  | none => simp [hq] at hi
  | some i =>
    have hs : i.size = cs.size := by simpa [hq] using hi
    have hagg : (isAgg ty).run P w = .ok true w := by
      unfold isAgg
      rw [Sem.run_bind, run_underlying hu w]
      cases d <;> simp_all
    simp only [Array.length_toList, Array.toArray_toList] at hl
    simp [loadVar, Sem.run_bind, hagg, sizeOf, typeInfo, hq, hs, hl]
abbrev outC (val : Int) (is : Bool) (err point : Int) : Array Value := #[.int .i64 val, .bool is, .int .i64 err, .int .i64 point, .slice none 0 0]
abbrev outZ : Array Value := outC 0 false 0 0
theorem prog_sub {w : World} {gp : Nat} {l : Ly} {A : Option Addr} {n cap i : Nat} (k : Bk w gp 133 (progC l A n cap i)) : ∀ (j : Nat) (v : Value), (lyC l)[j]? = some v → w.cell? ⟨gp, 0 + j, none⟩ = some v := by
  intro j v h
  have hj : j < 25 := (Array.getElem?_eq_some_iff.1 h).1
  rw [Nat.zero_add, k.cell j, show progC l A n cap i = lyC l ++ #[.slice A n cap, .int .i64 (i : Nat)] from rfl, Array.getElem?_append_left hj]
  exact h
theorem PrSt.row {w : World} {B gp g : Nat} {l : Ly} {A : Option Addr} {cap i : Nat} {log : Log} {cs : Array Value} (h : PrSt w B gp l A cap i log) (hg : gp < g) : PrSt (w.setRow g cs) B gp l A cap i log :=
  ⟨(setRow_other _ _ _ _ (by omega)).trans h.kp, h.sl.below ⟨rfl, rfl, rfl, by simp [World.setRow], fun b hb => setRow_other _ g b _ (by have := h.bp; omega)⟩, h.bp, h.le⟩
theorem Stp.setRow' {gm g : Nat} {w0 w : World} {old cs : Array Value} {t : TypeId} (h : Stp gm w0 w) (k : Bk w g t old) (hg : w0.heap.size ≤ g) : Stp gm w0 (w.setRow g cs) :=
  ⟨h.os, h.tape, h.output, by have := h.size; simpa [World.setRow] using this, fun b hb hn => (setRow_other _ g b _ (by omega)).trans (h.block b hb hn)⟩
/-- What a program of accesses does: it asks for one, or tells. -/
def ArPost (gp : Nat) (r : Ans) (w : World) (e : Ending) (w' : World) : Prop :=
  match r with
  | .ask k c o v => e = .panicked [{ v := askV k c o v, recovered := false }] ∧ Stp gp w w'
  | .out val is err point => e = .returned (.agg (outC val is err point)) ∧ Stp gp w w'
theorem arPost_ask {gp : Nat} {r : Ans} {k c o v : Int} {w w' : World} (hr : r = .ask k c o v) (h : Stp gp w w') : ArPost gp r w (.panicked [{ v := askV k c o v, recovered := false }]) w' := by rw [hr]; exact ⟨rfl, h⟩
theorem arPost_out {gp : Nat} {r : Ans} {val : Int} {is : Bool} {err point : Int} {w w' : World} (hr : r = .out val is err point) (h : Stp gp w w') : ArPost gp r w (.returned (.agg (outC val is err point))) w' := by rw [hr]; exact ⟨rfl, h⟩
def madeOf (gp : Nat) (w : World) : Nat := match w.cell? ⟨gp, 26, none⟩ with | some (.int _ z) => z.toNat | _ => 0
theorem madeOf_eq {w : World} {gp : Nat} {l : Ly} {A : Option Addr} {n cap i : Nat} (k : Bk w gp 133 (progC l A n cap i)) : madeOf gp w = i := by
  have h := k.cell 26
  unfold madeOf
  rw [h]
  simp
def TkRel (B gp go : Nat) (l : Ly) (A : Option Addr) (cap : Nat) (log : Log) (w wr : World) : Prop :=
  ∃ i, i ≤ log.length ∧ PrSt wr B gp l A cap i log ∧ Stp gp w wr ∧ Bk wr go 63 outZ ∧ takeM l 0 log = takeM l i (log.drop i)
set_option maxRecDepth 100000 in
set_option maxHeartbeats 4000000 in
theorem take_any {w : World} {B gp : Nat} {l : Ly} {A : Option Addr} {cap : Nat} {log : Log} (h : PrSt w B gp l A cap 0 log) (f : LyFull l) : Calls Try.prog 64 #[ptr gp] w (ArPost gp (takeM l 0 log) w) := by
  have HF := Lib.hid f
  have zg := h.kp.lt
  have hle := h.le
  have hrel0 : TkRel B gp w.heap.size l A cap log w (w.alloc (.cells outZ 63)) := ⟨0, Nat.zero_le _, h.keep (below_al (Below.refl _ _) _), (Stp.refl gp w).alloc _, Bk.made w 63 outZ, rfl⟩
  have HR := Lib.hid hrel0
  clear h f hrel0
  go_enter Try.func64, Try.ntmps64
  go_wp2_with fail
  generalize w.alloc (.cells outZ 63) = w1 at *
  obtain ⟨go, hgo⟩ : ∃ g, w.heap.size = g := ⟨_, rfl⟩
  rw [hgo] at HR zg ⊢
  have HGO := Lib.hid hgo
  clear hgo
  go_loopw [3] (fun _ wr => TkRel B gp go l A cap log w wr) (fun _ wr => log.length + 1 - madeOf gp wr)
  case atStart => exact HR.out
  case round =>
    clear HR
    obtain ⟨i, hi, hp, hst, ko, htk⟩ := hrel
    have hmd := madeOf_eq hp.kp
    have HTK := Lib.hid (And.intro htk hmd)
    clear htk hmd
    have c12 := hp.kp.cell 12
    have lg := hp.kp.lt
    simp at c12
    go_upto_region 1 with fail
    go_wp2_with fail
    cases hx : log[i]? with
    | none =>
      have hil : i = log.length := by have := List.getElem?_eq_none_iff.1 hx; omega
      (with_reducible refine (load_asks l.free hp hil).mono ?_)
      rintro e w2 ⟨rfl, hb⟩
      exact ⟨rfl, arPost_ask (HTK.out.1.trans (tk_ask0 hx)) (hst.trans (Stp.of_below gp hb))⟩
    | some x =>
      obtain ⟨x1, x2⟩ := x
      (with_reducible refine (load_told l.free hp hx).mono ?_)
      rintro e w2 ⟨rfl, hp2, hs2⟩
      replace hst := hst.trans hs2
      replace ko := hs2.keep ko (by omega)
      clear hs2 hp c12 lg
      have HX := Lib.hid hx
      have hil : i < log.length := (List.getElem?_eq_some_iff.1 hx).1
      clear hx
      go_upto_region 2 with fail
      go_wp2_with fail
      (with_reducible refine (of_any x1 _).mono ?_)
      rintro e w3 ⟨rfl, hb⟩
      replace hp2 := hp2.keep hb
      replace hst := hst.trans (Stp.of_below gp hb)
      replace ko := ko.keep hb
      clear hb
      obtain ⟨ix, hix⟩ : ∃ z, x1 % 65536 = z := ⟨_, rfl⟩
      obtain ⟨mk, hmk⟩ : ∃ b, (x1 / 65536 % 2 == 1) = b := ⟨_, rfl⟩
      obtain ⟨ct, hct⟩ : ∃ z, x1 / 131072 % 268435456 = z := ⟨_, rfl⟩
      have hib : 0 ≤ ix ∧ ix < 65536 := by omega
      rw [hix, hmk, hct]
      have HIX := Lib.hid (And.intro hix hct)
      clear hix hmk hct
      go_upto_region 3 with fail
      have kr := Bk.made w3 82 #[.int .i64 ix, .bool mk, .int .i64 ct]
      have zr : w.heap.size ≤ w3.heap.size := hst.size
      have zg3 := hp2.kp.lt
      have zo3 := ko.lt
      replace hp2 := hp2.keep (below_al (Below.refl _ _) (.cells #[.int .i64 ix, .bool mk, .int .i64 ct] 82))
      replace hst := hst.alloc (.cells #[.int .i64 ix, .bool mk, .int .i64 ct] 82)
      replace ko := ko.alloc (.cells #[.int .i64 ix, .bool mk, .int .i64 ct] 82)
      generalize w3.alloc (.cells #[.int .i64 ix, .bool mk, .int .i64 ct] 82) = w4 at *
      generalize w3.heap.size = gr at *
      have r0 := kr.cell 0
      have lr := kr.lt
      simp at r0
      by_cases hz : ix = 0
      · have hz0 : idxOf x1 = 0 := HIX.out.1.trans hz
        have e1 := HTK.out.1.trans (tk_out0 HX.out hz0)
        have HE := Lib.hid e1
        subst hz
        have c26 := hp2.kp.cell 26
        have lg := hp2.kp.lt
        simp at c26
        have q0 := ko.cell 0
        have f0 := ko.free 0
        have f1 := ko.free 1
        have f2 := ko.free 2
        have f3 := ko.free 3
        have f4 := ko.free 4
        have q1 := ko.cell 1
        have q2 := ko.cell 2
        have q3 := ko.cell 3
        have q4 := ko.cell 4
        simp at q0 q1 q2 q3 q4
        clear e1 hz0
        go_wp2_with (refine wpList_store_rowTo rfl 63 (.tmp 2) (.tmp 24) rfl rfl go (outC 0 false 8 i) rfl rfl 63 outZ ko (by kernel_rfl) rfl (by simp [Value.oneCell']) ?_)
        have kf := setRow_heap _ _ outZ (outC 0 false 8 i) 63 (0, 0) ko
        have hstf : Stp gp w (w4.setRow go (outC 0 false 8 i)) := Stp.setRow' hst ko (by rw [HGO.out]; exact Nat.le_refl _)
        exact bodyPost_ret (v := .agg (outC 0 false 8 i)) (results_cell_row (p := 2) (ty := 63) rfl _ _ go 63 (outC 0 false 8 i) (0, 0) _ rfl kf Try.underlying63 rfl (by kernel_rfl)) rfl (arPost_out HE.out hstf)
      · have hz0 : idxOf x1 ≠ 0 := by rw [show idxOf x1 = ix from HIX.out.1]; exact hz
        have HZ := Lib.hid hz0
        have hzz : (ix == (0 : Int)) = false := by simp [hz]
        have hzd : decide (ix = (0 : Int)) = false := by simp [hz]
        go_upto_region 5 with fail
        clear r0 lr hzz hzd hz0
        refine wp_region_E (S := fun w' => (∃ i', Bk w' gp 133 (progC l A log.length cap i')) ∧ Bk w' gr 82 #[.int .i64 ix, .bool mk, .int .i64 ct]) (E := fun _ => false) (by kernel_rfl) ?_
        replace hp2 := hp2.drew
        replace ko := ko.drew
        replace kr := kr.drew
        replace hst := hst.trans (Stp.of_below gp (below_drew' (Below.refl w4.heap.size w4)))
        generalize w4.drew = w5 at *
        refine wpAnyE_take (i := 0) (oi := _) (v := .pointer (some ⟨gp, 0, none⟩)) rfl (by kernel_rfl) (by kernel_rfl) (by kernel_rfl) (by kernel_rfl) (fun _ _ _ h => h) (Or.inl ⟨by rfl, ?_⟩) ⟨⟨_, hp2.kp⟩, kr⟩ ?_
        · intro w' hSw
          (try simp only [List.getElem_toArray, List.getElem_cons_zero])
          go_simp
        (try simp only [List.getElem_toArray, List.getElem_cons_zero, Act.put, List.setIfInBounds_toArray, List.set_cons_zero, List.set_cons_succ])
        refine wpAnyE_take (i := 1) (oi := _) (v := .pointer (some ⟨gp, 0, none⟩)) rfl (by kernel_rfl) (by kernel_rfl) (by kernel_rfl) (by kernel_rfl) (fun _ _ _ h => h) (Or.inl ⟨by rfl, ?_⟩) ⟨⟨_, hp2.kp⟩, kr⟩ ?_
        · intro w' hSw
          (try simp only [List.getElem_toArray, List.getElem_cons_succ, List.getElem_cons_zero])
          go_simp
        (try simp only [List.getElem_toArray, List.getElem_cons_succ, List.getElem_cons_zero, Act.put, List.setIfInBounds_toArray, List.set_cons_zero, List.set_cons_succ])
        refine wpAnyE_take (i := 2) (oi := _) (v := .pointer (some ⟨gp, 0, none⟩)) rfl (by kernel_rfl) (by kernel_rfl) (by kernel_rfl) (by kernel_rfl) (fun _ _ _ h => h) (Or.inl ⟨by rfl, ?_⟩) ⟨⟨_, hp2.kp⟩, kr⟩ ?_
        · intro w' hSw
          (try simp only [List.getElem_toArray, List.getElem_cons_succ, List.getElem_cons_zero])
          go_simp
        (try simp only [List.getElem_toArray, List.getElem_cons_succ, List.getElem_cons_zero, Act.put, List.setIfInBounds_toArray, List.set_cons_zero, List.set_cons_succ])
        refine wpAnyE_take (i := 3) (oi := _) (v := .pointer (some ⟨gp, 0, none⟩)) rfl (by kernel_rfl) (by kernel_rfl) (by kernel_rfl) (by kernel_rfl) (fun _ _ _ h => h) (Or.inl ⟨by rfl, ?_⟩) ⟨⟨_, hp2.kp⟩, kr⟩ ?_
        · intro w' hSw
          (try simp only [List.getElem_toArray, List.getElem_cons_succ, List.getElem_cons_zero])
          go_simp
        (try simp only [List.getElem_toArray, List.getElem_cons_succ, List.getElem_cons_zero, Act.put, List.setIfInBounds_toArray, List.set_cons_zero, List.set_cons_succ])
        refine wpAnyE_take (i := 4) (oi := _) (v := .agg (lyC l)) rfl (by kernel_rfl) (by kernel_rfl) (by kernel_rfl) (by kernel_rfl) (fun _ _ _ h => h) (Or.inl ⟨by rfl, ?_⟩) ⟨⟨_, hp2.kp⟩, kr⟩ ?_
        · intro w' hSw
          obtain ⟨i9, k9⟩ := hSw.1
          (try simp only [List.getElem_toArray, List.getElem_cons_succ, List.getElem_cons_zero])
          simp only [execOp, Instr.loadAt, Instr.sureAddr, Sem.run_bind, Sem.run_pure]
          rw [show (Act.eval _ (Operand.tmp 28)) = Value.pointer (some ⟨gp, 0, none⟩) from rfl]
          simp only [Sem.run_pure, Result.andThen_ok, run_loadVar_sub w' gp 0 40 (lyC l) _ (prog_sub k9) Try.underlying40 rfl (by kernel_rfl)]
        (try simp only [List.getElem_toArray, List.getElem_cons_succ, List.getElem_cons_zero, Act.put, List.setIfInBounds_toArray, List.set_cons_zero, List.set_cons_succ])
        refine wpAnyE_take (i := 5) (oi := _) (v := .pointer (some ⟨gr, 0, none⟩)) rfl (by kernel_rfl) (by kernel_rfl) (by kernel_rfl) (by kernel_rfl) (fun _ _ _ h => h) (Or.inl ⟨by rfl, ?_⟩) ⟨⟨_, hp2.kp⟩, kr⟩ ?_
        · intro w' hSw
          (try simp only [List.getElem_toArray, List.getElem_cons_succ, List.getElem_cons_zero])
          go_simp
        (try simp only [List.getElem_toArray, List.getElem_cons_succ, List.getElem_cons_zero, Act.put, List.setIfInBounds_toArray, List.set_cons_zero, List.set_cons_succ])
        refine wpAnyE_take (i := 6) (oi := _) (v := .int .i64 ix) rfl (by kernel_rfl) (by kernel_rfl) (by kernel_rfl) (by kernel_rfl) (fun _ _ _ h => h) (Or.inl ⟨by rfl, ?_⟩) ⟨⟨_, hp2.kp⟩, kr⟩ ?_
        · intro w' hSw
          have s1 := hSw.2.cell 0
          (try simp at s1)
          (try simp only [List.getElem_toArray, List.getElem_cons_succ, List.getElem_cons_zero])
          go_simp
        (try simp only [List.getElem_toArray, List.getElem_cons_succ, List.getElem_cons_zero, Act.put, List.setIfInBounds_toArray, List.set_cons_zero, List.set_cons_succ])
        refine wpAnyE_one (i := 7) (o := _) (by kernel_rfl) rfl (fun K hK => ?_)
        (try simp only [List.getElem_toArray, List.getElem_cons_succ, List.getElem_cons_zero])
        go_simp
        (with_reducible refine (node_any l ix 7 _ HF.out (by omega)).mono ?_)
        rintro e w6 ⟨rfl, hb⟩
        replace hp2 := hp2.keep hb
        replace ko := ko.keep hb
        replace kr := kr.keep hb
        replace hst := hst.trans (Stp.of_below gp hb)
        clear hb
        refine hK.out _ _ (fun _ => ⟨⟨_, hp2.kp⟩, kr⟩) ?_
        clear hK K
        (try simp only [List.getElem_toArray, List.getElem_cons_succ, List.getElem_cons_zero, Act.put, List.setIfInBounds_toArray, List.set_cons_zero, List.set_cons_succ])
        refine wpAnyE_one (i := 8) (o := _) (by kernel_rfl) rfl (fun K hK => ?_)
        (try simp only [List.getElem_toArray, List.getElem_cons_succ, List.getElem_cons_zero])
        go_simp
        cases hy : log[i + 1]? with
        | none =>
          have hil2 : i + 1 = log.length := by have := List.getElem?_eq_none_iff.1 hy; omega
          (with_reducible refine (load_asks (nodeAt l ix 7) hp2 hil2).mono ?_)
          rintro e w8 ⟨rfl, hb⟩
          exact ⟨rfl, arPost_ask (HTK.out.1.trans (by rw [tk_ask1 HX.out HZ.out hy, (show idxOf x1 = ix from HIX.out.1)])) (hst.trans (Stp.of_below gp hb))⟩
        | some y =>
          obtain ⟨y1, y2⟩ := y
          (with_reducible refine (load_told (nodeAt l ix 7) hp2 hy).mono ?_)
          rintro e w7 ⟨rfl, hp3, hs2⟩
          replace hst := hst.trans hs2
          replace ko := hs2.keep ko (by omega)
          replace kr := hs2.keep kr (by omega)
          clear hs2
          have HY := Lib.hid hy
          have hil2 : i + 1 < log.length := (List.getElem?_eq_some_iff.1 hy).1
          clear hy hp2
          refine hK.out _ _ (fun _ => ⟨⟨_, hp3.kp⟩, kr⟩) ?_
          clear hK K
          (try simp only [List.getElem_toArray, List.getElem_cons_succ, List.getElem_cons_zero, Act.put, List.setIfInBounds_toArray, List.set_cons_zero, List.set_cons_succ])
          refine wpAnyE_one (i := 9) (o := _) (by kernel_rfl) rfl (fun K hK => ?_)
          (try simp only [List.getElem_toArray, List.getElem_cons_succ, List.getElem_cons_zero])
          go_simp
          refine hK.out _ _ (fun _ => ⟨⟨_, hp3.kp⟩, kr⟩) ?_
          clear hK K
          (try simp only [List.getElem_toArray, List.getElem_cons_succ, List.getElem_cons_zero, Act.put, List.setIfInBounds_toArray, List.set_cons_zero, List.set_cons_succ])
          refine wpAnyE_done (by kernel_rfl) ?_ _
          go_upto_region 6 with fail
          refine wp_region_E (S := fun w' => (∃ i', Bk w' gp 133 (progC l A log.length cap i')) ∧ Bk w' gr 82 #[.int .i64 ix, .bool mk, .int .i64 ct]) (E := fun _ => false) (by kernel_rfl) ?_
          replace hp3 := hp3.drew
          replace ko := ko.drew
          replace kr := kr.drew
          replace hst := hst.trans (Stp.of_below gp (below_drew' (Below.refl w7.heap.size w7)))
          generalize w7.drew = w5 at *
          refine wpAnyE_take (i := 0) (oi := _) (v := .pointer (some ⟨gp, 0, none⟩)) rfl (by kernel_rfl) (by kernel_rfl) (by kernel_rfl) (by kernel_rfl) (fun _ _ _ h => h) (Or.inl ⟨by rfl, ?_⟩) ⟨⟨_, hp3.kp⟩, kr⟩ ?_
          · intro w' hSw
            (try simp only [List.getElem_toArray, List.getElem_cons_zero])
            go_simp
          (try simp only [List.getElem_toArray, List.getElem_cons_zero, Act.put, List.setIfInBounds_toArray, List.set_cons_zero, List.set_cons_succ])
          refine wpAnyE_take (i := 1) (oi := _) (v := .pointer (some ⟨gp, 0, none⟩)) rfl (by kernel_rfl) (by kernel_rfl) (by kernel_rfl) (by kernel_rfl) (fun _ _ _ h => h) (Or.inl ⟨by rfl, ?_⟩) ⟨⟨_, hp3.kp⟩, kr⟩ ?_
          · intro w' hSw
            (try simp only [List.getElem_toArray, List.getElem_cons_succ, List.getElem_cons_zero])
            go_simp
          (try simp only [List.getElem_toArray, List.getElem_cons_succ, List.getElem_cons_zero, Act.put, List.setIfInBounds_toArray, List.set_cons_zero, List.set_cons_succ])
          refine wpAnyE_take (i := 2) (oi := _) (v := .pointer (some ⟨gp, 0, none⟩)) rfl (by kernel_rfl) (by kernel_rfl) (by kernel_rfl) (by kernel_rfl) (fun _ _ _ h => h) (Or.inl ⟨by rfl, ?_⟩) ⟨⟨_, hp3.kp⟩, kr⟩ ?_
          · intro w' hSw
            (try simp only [List.getElem_toArray, List.getElem_cons_succ, List.getElem_cons_zero])
            go_simp
          (try simp only [List.getElem_toArray, List.getElem_cons_succ, List.getElem_cons_zero, Act.put, List.setIfInBounds_toArray, List.set_cons_zero, List.set_cons_succ])
          refine wpAnyE_take (i := 3) (oi := _) (v := .pointer (some ⟨gp, 0, none⟩)) rfl (by kernel_rfl) (by kernel_rfl) (by kernel_rfl) (by kernel_rfl) (fun _ _ _ h => h) (Or.inl ⟨by rfl, ?_⟩) ⟨⟨_, hp3.kp⟩, kr⟩ ?_
          · intro w' hSw
            (try simp only [List.getElem_toArray, List.getElem_cons_succ, List.getElem_cons_zero])
            go_simp
          (try simp only [List.getElem_toArray, List.getElem_cons_succ, List.getElem_cons_zero, Act.put, List.setIfInBounds_toArray, List.set_cons_zero, List.set_cons_succ])
          refine wpAnyE_take (i := 4) (oi := _) (v := .pointer (some ⟨gp, 12, none⟩)) rfl (by kernel_rfl) (by kernel_rfl) (by kernel_rfl) (by kernel_rfl) (fun _ _ _ h => h) (Or.inl ⟨by rfl, ?_⟩) ⟨⟨_, hp3.kp⟩, kr⟩ ?_
          · intro w' hSw
            (try simp only [List.getElem_toArray, List.getElem_cons_succ, List.getElem_cons_zero])
            go_simp
          (try simp only [List.getElem_toArray, List.getElem_cons_succ, List.getElem_cons_zero, Act.put, List.setIfInBounds_toArray, List.set_cons_zero, List.set_cons_succ])
          refine wpAnyE_take (i := 5) (oi := _) (v := .int .i64 l.free) rfl (by kernel_rfl) (by kernel_rfl) (by kernel_rfl) (by kernel_rfl) (fun _ _ _ h => h) (Or.inl ⟨by rfl, ?_⟩) ⟨⟨_, hp3.kp⟩, kr⟩ ?_
          · intro w' hSw
            obtain ⟨i9, k9⟩ := hSw.1
            have s1 := k9.cell 12
            (try simp at s1)
            (try simp only [List.getElem_toArray, List.getElem_cons_succ, List.getElem_cons_zero])
            go_simp
          (try simp only [List.getElem_toArray, List.getElem_cons_succ, List.getElem_cons_zero, Act.put, List.setIfInBounds_toArray, List.set_cons_zero, List.set_cons_succ])
          refine wpAnyE_take (i := 6) (oi := _) (v := .int .i64 x1) rfl (by kernel_rfl) (by kernel_rfl) (by kernel_rfl) (by kernel_rfl) (fun _ _ _ h => h) (Or.inl ⟨by rfl, ?_⟩) ⟨⟨_, hp3.kp⟩, kr⟩ ?_
          · intro w' hSw
            (try simp only [List.getElem_toArray, List.getElem_cons_succ, List.getElem_cons_zero])
            go_simp
          (try simp only [List.getElem_toArray, List.getElem_cons_succ, List.getElem_cons_zero, Act.put, List.setIfInBounds_toArray, List.set_cons_zero, List.set_cons_succ])
          refine wpAnyE_take (i := 7) (oi := _) (v := .agg #[.int .i64 ix, .bool mk, .int .i64 ct]) rfl (by kernel_rfl) (by kernel_rfl) (by kernel_rfl) (by kernel_rfl) (fun _ _ _ h => h) (Or.inl ⟨by rfl, ?_⟩) ⟨⟨_, hp3.kp⟩, kr⟩ ?_
          · intro w' hSw
            have s1 := hSw.2.cell 0
            have s2 := hSw.2.cell 1
            have s3 := hSw.2.cell 2
            (try simp at s1 s2 s3)
            (try simp only [List.getElem_toArray, List.getElem_cons_succ, List.getElem_cons_zero])
            go_simp
          (try simp only [List.getElem_toArray, List.getElem_cons_succ, List.getElem_cons_zero, Act.put, List.setIfInBounds_toArray, List.set_cons_zero, List.set_cons_succ])
          refine wpAnyE_take (i := 8) (oi := _) (v := .int .i64 y1) rfl (by kernel_rfl) (by kernel_rfl) (by kernel_rfl) (by kernel_rfl) (fun _ _ _ h => h) (Or.inl ⟨by rfl, ?_⟩) ⟨⟨_, hp3.kp⟩, kr⟩ ?_
          · intro w' hSw
            (try simp only [List.getElem_toArray, List.getElem_cons_succ, List.getElem_cons_zero])
            go_simp
          (try simp only [List.getElem_toArray, List.getElem_cons_succ, List.getElem_cons_zero, Act.put, List.setIfInBounds_toArray, List.set_cons_zero, List.set_cons_succ])
          refine wpAnyE_one (i := 9) (o := _) (by kernel_rfl) rfl (fun K hK => ?_)
          (try simp only [List.getElem_toArray, List.getElem_cons_succ, List.getElem_cons_zero])
          go_simp
          (with_reducible refine (wturn_any ix mk ct y1 _).mono ?_)
          rintro e w6 ⟨rfl, hb⟩
          replace hp3 := hp3.keep hb
          replace ko := ko.keep hb
          replace kr := kr.keep hb
          replace hst := hst.trans (Stp.of_below gp hb)
          clear hb
          refine hK.out _ _ (fun _ => ⟨⟨_, hp3.kp⟩, kr⟩) ?_
          clear hK K
          (try simp only [List.getElem_toArray, List.getElem_cons_succ, List.getElem_cons_zero, Act.put, List.setIfInBounds_toArray, List.set_cons_zero, List.set_cons_succ])
          refine wpAnyE_one (i := 10) (o := _) (by kernel_rfl) rfl (fun K hK => ?_)
          (try simp only [List.getElem_toArray, List.getElem_cons_succ, List.getElem_cons_zero])
          go_simp
          (with_reducible refine (pack_any (y1 % 65536) false ((ct + 1) % 268435456) _).mono ?_)
          rintro e w8 ⟨rfl, hb⟩
          replace hp3 := hp3.keep hb
          replace ko := ko.keep hb
          replace kr := kr.keep hb
          replace hst := hst.trans (Stp.of_below gp hb)
          clear hb
          obtain ⟨tw, htw⟩ : ∃ z, packI (y1 % 65536) false ((ct + 1) % 268435456) = z := ⟨_, rfl⟩
          have htw2 : turnW x1 y1 = tw := by
            unfold turnW
            rw [show cntOf x1 = ct from HIX.out.2]
            exact htw
          rw [htw]
          have HTW := Lib.hid htw2
          clear htw htw2
          refine hK.out _ _ (fun _ => ⟨⟨_, hp3.kp⟩, kr⟩) ?_
          clear hK K
          (try simp only [List.getElem_toArray, List.getElem_cons_succ, List.getElem_cons_zero, Act.put, List.setIfInBounds_toArray, List.set_cons_zero, List.set_cons_succ])
          refine wpAnyE_one (i := 11) (o := _) (by kernel_rfl) rfl (fun K hK => ?_)
          (try simp only [List.getElem_toArray, List.getElem_cons_succ, List.getElem_cons_zero])
          go_simp
          cases hy : log[i + 2]? with
          | none =>
            have hil2 : i + 1 + 1 = log.length := by have := List.getElem?_eq_none_iff.1 hy; omega
            (with_reducible refine (cas_asks l.free x1 tw hp3 hil2).mono ?_)
            rintro e wq ⟨rfl, hb⟩
            exact ⟨rfl, arPost_ask (HTK.out.1.trans (by rw [tk_ask2 HX.out HZ.out HY.out hy, HTW.out])) (hst.trans (Stp.of_below gp hb))⟩
          | some z =>
            obtain ⟨z1, z2⟩ := z
            (with_reducible refine (cas_told l.free x1 tw hp3 hy).mono ?_)
            rintro e w9 ⟨rfl, hp4, hs2⟩
            replace hst := hst.trans hs2
            replace ko := hs2.keep ko (by omega)
            replace kr := hs2.keep kr (by omega)
            clear hs2
            have HZZ := Lib.hid hy
            have hil3 : i + 2 < log.length := (List.getElem?_eq_some_iff.1 hy).1
            clear hy hp3
            refine hK.out _ _ (fun _ => ⟨⟨_, hp4.kp⟩, kr⟩) ?_
            clear hK K
            (try simp only [List.getElem_toArray, List.getElem_cons_succ, List.getElem_cons_zero, Act.put, List.setIfInBounds_toArray, List.set_cons_zero, List.set_cons_succ])
            refine wpAnyE_take (i := 12) (oi := _) (v := .bool (!z2)) rfl (by kernel_rfl) (by kernel_rfl) (by kernel_rfl) (by kernel_rfl) (fun _ _ _ h => h) (Or.inl ⟨by rfl, ?_⟩) ⟨⟨_, hp4.kp⟩, kr⟩ ?_
            · intro w' hSw
              (try simp only [List.getElem_toArray, List.getElem_cons_succ, List.getElem_cons_zero])
              go_simp
            (try simp only [List.getElem_toArray, List.getElem_cons_succ, List.getElem_cons_zero, Act.put, List.setIfInBounds_toArray, List.set_cons_zero, List.set_cons_succ])
            refine wpAnyE_done (by kernel_rfl) ?_ _
            cases z2 with
            | false =>
              have hr1 : TkRel B gp go l A cap log w w9 := ⟨i + 3, by omega, hp4, hst, ko, HTK.out.1.trans (tk_fail HX.out HZ.out HY.out HZZ.out rfl)⟩
              have hm1 : log.length + 1 - madeOf gp w9 < log.length + 1 - madeOf gp wr := by rw [madeOf_eq hp4.kp, HTK.out.2]; omega
              have HR1 := Lib.hid (And.intro hr1 hm1)
              clear hr1 hm1 hp4 ko kr hst
              go_wp2_with fail
              exact HR1.out
            | true =>
              go_upto_region 7 with fail
              refine wp_region_E (S := fun w' => Below w9.drew.heap.size w9.drew w') (E := fun i => i == 9) (by kernel_rfl) ?_
              replace hp4 := hp4.drew
              replace ko := ko.drew
              replace kr := kr.drew
              replace hst := hst.trans (Stp.of_below gp (below_drew' (Below.refl w9.heap.size w9)))
              generalize w9.drew = w10 at *
              refine wpAnyE_take (i := 0) (oi := _) (v := .pointer (some ⟨gr, 0, none⟩)) rfl (by kernel_rfl) (by kernel_rfl) (by kernel_rfl) (by kernel_rfl) (fun _ _ _ h => h) (Or.inl ⟨by rfl, ?_⟩) (Below.refl _ _) ?_
              · intro w' hSw
                (try simp only [List.getElem_toArray, List.getElem_cons_zero])
                go_simp
              (try simp only [List.getElem_toArray, List.getElem_cons_zero, Act.put, List.setIfInBounds_toArray, List.set_cons_zero, List.set_cons_succ])
              refine wpAnyE_take (i := 1) (oi := _) (v := .int .i64 ix) rfl (by kernel_rfl) (by kernel_rfl) (by kernel_rfl) (by kernel_rfl) (fun _ _ _ h => h) (Or.inl ⟨by rfl, ?_⟩) (Below.refl _ _) ?_
              · intro w' hSw
                have s1 := (kr.keep hSw).cell 0
                (try simp at s1)
                (try simp only [List.getElem_toArray, List.getElem_cons_succ, List.getElem_cons_zero])
                go_simp
              (try simp only [List.getElem_toArray, List.getElem_cons_succ, List.getElem_cons_zero, Act.put, List.setIfInBounds_toArray, List.set_cons_zero, List.set_cons_succ])
              refine wpAnyE_take (i := 2) (oi := _) (v := .pointer (some ⟨gp, 0, none⟩)) rfl (by kernel_rfl) (by kernel_rfl) (by kernel_rfl) (by kernel_rfl) (fun _ _ _ h => h) (Or.inl ⟨by rfl, ?_⟩) (Below.refl _ _) ?_
              · intro w' hSw
                (try simp only [List.getElem_toArray, List.getElem_cons_succ, List.getElem_cons_zero])
                go_simp
              (try simp only [List.getElem_toArray, List.getElem_cons_succ, List.getElem_cons_zero, Act.put, List.setIfInBounds_toArray, List.set_cons_zero, List.set_cons_succ])
              refine wpAnyE_take (i := 3) (oi := _) (v := .pointer (some ⟨gp, 0, none⟩)) rfl (by kernel_rfl) (by kernel_rfl) (by kernel_rfl) (by kernel_rfl) (fun _ _ _ h => h) (Or.inl ⟨by rfl, ?_⟩) (Below.refl _ _) ?_
              · intro w' hSw
                (try simp only [List.getElem_toArray, List.getElem_cons_succ, List.getElem_cons_zero])
                go_simp
              (try simp only [List.getElem_toArray, List.getElem_cons_succ, List.getElem_cons_zero, Act.put, List.setIfInBounds_toArray, List.set_cons_zero, List.set_cons_succ])
              refine wpAnyE_take (i := 4) (oi := _) (v := .pointer (some ⟨gp, 26, none⟩)) rfl (by kernel_rfl) (by kernel_rfl) (by kernel_rfl) (by kernel_rfl) (fun _ _ _ h => h) (Or.inl ⟨by rfl, ?_⟩) (Below.refl _ _) ?_
              · intro w' hSw
                (try simp only [List.getElem_toArray, List.getElem_cons_succ, List.getElem_cons_zero])
                go_simp
              (try simp only [List.getElem_toArray, List.getElem_cons_succ, List.getElem_cons_zero, Act.put, List.setIfInBounds_toArray, List.set_cons_zero, List.set_cons_succ])
              refine wpAnyE_take (i := 5) (oi := _) (v := .int .i64 ((i + 1 + 1 + 1 : Nat) : Int)) rfl (by kernel_rfl) (by kernel_rfl) (by kernel_rfl) (by kernel_rfl) (fun _ _ _ h => h) (Or.inl ⟨by rfl, ?_⟩) (Below.refl _ _) ?_
              · intro w' hSw
                have s1 := (hp4.kp.keep hSw).cell 26
                (try simp at s1)
                (try simp only [List.getElem_toArray, List.getElem_cons_succ, List.getElem_cons_zero])
                go_simp
              (try simp only [List.getElem_toArray, List.getElem_cons_succ, List.getElem_cons_zero, Act.put, List.setIfInBounds_toArray, List.set_cons_zero, List.set_cons_succ])
              refine wpAnyE_take (i := 6) (oi := _) (v := .int .i64 ((i + 2 : Nat) : Int)) rfl (by kernel_rfl) (by kernel_rfl) (by kernel_rfl) (by kernel_rfl) (fun _ _ _ h => h) (Or.inl ⟨by rfl, ?_⟩) (Below.refl _ _) ?_
              · intro w' hSw
                have hw1 : IntKind.i64.wrap ((i : Int) + 1 + 1) = (i : Int) + 2 := by rw [show ((i : Int) + 1 + 1) = i + 2 from by omega]; exact IntWalk.i64_in _ (by omega)
                (try simp only [List.getElem_toArray, List.getElem_cons_succ, List.getElem_cons_zero])
                go_simp
              (try simp only [List.getElem_toArray, List.getElem_cons_succ, List.getElem_cons_zero, Act.put, List.setIfInBounds_toArray, List.set_cons_zero, List.set_cons_succ])
              refine wpAnyE_take (i := 7) (oi := _) (v := .agg (outC ix true 0 (i + 2 : Nat))) rfl (by kernel_rfl) (by kernel_rfl) (by kernel_rfl) (by kernel_rfl) (fun _ _ _ h => h) (Or.inl ⟨by rfl, ?_⟩) (Below.refl _ _) ?_
              · intro w' hSw
                (try simp only [List.getElem_toArray, List.getElem_cons_succ, List.getElem_cons_zero])
                go_simp
              (try simp only [List.getElem_toArray, List.getElem_cons_succ, List.getElem_cons_zero, Act.put, List.setIfInBounds_toArray, List.set_cons_zero, List.set_cons_succ])
              refine wpAnyE_one (i := 8) (o := _) (by kernel_rfl) rfl (fun K hK => ?_)
              (try simp only [List.getElem_toArray, List.getElem_cons_succ, List.getElem_cons_zero])
              go_simp
              have kx := Bk.made w10 63 outZ
              have zg9 := hp4.kp.lt
              have zo9 := ko.lt
              have zr9 := kr.lt
              replace hp4 := hp4.keep (below_al (Below.refl _ _) (.cells outZ 63))
              replace ko := ko.alloc (.cells outZ 63)
              replace kr := kr.alloc (.cells outZ 63)
              have zx : w.heap.size ≤ w10.heap.size := hst.size
              replace hst := hst.alloc (.cells outZ 63)
              refine hK.out _ _ (fun _ => below_al (Below.refl _ _) _) ?_
              clear hK K
              (try simp only [List.getElem_toArray, List.getElem_cons_succ, List.getElem_cons_zero, Act.put, List.setIfInBounds_toArray, List.set_cons_zero, List.set_cons_succ])
              generalize w10.alloc (.cells outZ 63) = w11 at *
              generalize w10.heap.size = gx at *
              refine wpAnyE_one (i := 9) (o := _) (by kernel_rfl) rfl (fun K hK => ?_)
              rw [if_pos (by rfl)]
              refine wp_store_row 63 (.tmp 6) (.tmp 54) rfl gx (outC ix true 0 (i + 2 : Nat)) rfl rfl 63 outZ kx (by kernel_rfl) rfl (by simp [Value.oneCell']) ?_
              refine hK.out _ _ (fun h => absurd h (by decide)) ?_
              clear hK K
              refine wpAnyE_done (by kernel_rfl) ?_ _
              replace hst : Stp gp w (w11.setRow gx (outC ix true 0 (i + 2 : Nat))) := Stp.setRow' hst kx zx
              replace hp4 := hp4.row (g := gx) (cs := (outC ix true 0 (i + 2 : Nat))) (by omega)
              replace ko : Bk (w11.setRow gx (outC ix true 0 (i + 2 : Nat))) go 63 outZ := (setRow_other _ _ _ _ (by omega)).trans ko
              replace kr : Bk (w11.setRow gx (outC ix true 0 (i + 2 : Nat))) gr 82 #[.int .i64 ix, .bool mk, .int .i64 ct] := (setRow_other _ _ _ _ (by omega)).trans kr
              replace kx := setRow_heap _ _ outZ (outC ix true 0 (i + 2 : Nat)) 63 (0, 0) kx
              generalize w11.setRow gx (outC ix true 0 (i + 2 : Nat)) = w12 at *
              go_upto_region 8 with fail
              refine wp_region_E (S := fun w' => (∃ i', Bk w' gp 133 (progC l A log.length cap i')) ∧ Bk w' gr 82 #[.int .i64 ix, .bool mk, .int .i64 ct]) (E := fun _ => false) (by kernel_rfl) ?_
              replace hp4 := hp4.drew
              replace ko := ko.drew
              replace kr := kr.drew
              replace kx : Bk w12.drew gx 63 (outC ix true 0 (i + 2 : Nat)) := kx
              replace hst := hst.trans (Stp.of_below gp (below_drew' (Below.refl w12.heap.size w12)))
              generalize w12.drew = w13 at *
              refine wpAnyE_take (i := 0) (oi := _) (v := .pointer (some ⟨gp, 0, none⟩)) rfl (by kernel_rfl) (by kernel_rfl) (by kernel_rfl) (by kernel_rfl) (fun _ _ _ h => h) (Or.inl ⟨by rfl, ?_⟩) ⟨⟨_, hp4.kp⟩, kr⟩ ?_
              · intro w' hSw
                (try simp only [List.getElem_toArray, List.getElem_cons_succ, List.getElem_cons_zero])
                go_simp
              (try simp only [List.getElem_toArray, List.getElem_cons_succ, List.getElem_cons_zero, Act.put, List.setIfInBounds_toArray, List.set_cons_zero, List.set_cons_succ])
              refine wpAnyE_take (i := 1) (oi := _) (v := .pointer (some ⟨gp, 0, none⟩)) rfl (by kernel_rfl) (by kernel_rfl) (by kernel_rfl) (by kernel_rfl) (fun _ _ _ h => h) (Or.inl ⟨by rfl, ?_⟩) ⟨⟨_, hp4.kp⟩, kr⟩ ?_
              · intro w' hSw
                (try simp only [List.getElem_toArray, List.getElem_cons_succ, List.getElem_cons_zero])
                go_simp
              (try simp only [List.getElem_toArray, List.getElem_cons_succ, List.getElem_cons_zero, Act.put, List.setIfInBounds_toArray, List.set_cons_zero, List.set_cons_succ])
              refine wpAnyE_take (i := 2) (oi := _) (v := .pointer (some ⟨gp, 0, none⟩)) rfl (by kernel_rfl) (by kernel_rfl) (by kernel_rfl) (by kernel_rfl) (fun _ _ _ h => h) (Or.inl ⟨by rfl, ?_⟩) ⟨⟨_, hp4.kp⟩, kr⟩ ?_
              · intro w' hSw
                (try simp only [List.getElem_toArray, List.getElem_cons_succ, List.getElem_cons_zero])
                go_simp
              (try simp only [List.getElem_toArray, List.getElem_cons_succ, List.getElem_cons_zero, Act.put, List.setIfInBounds_toArray, List.set_cons_zero, List.set_cons_succ])
              refine wpAnyE_take (i := 3) (oi := _) (v := .pointer (some ⟨gp, 0, none⟩)) rfl (by kernel_rfl) (by kernel_rfl) (by kernel_rfl) (by kernel_rfl) (fun _ _ _ h => h) (Or.inl ⟨by rfl, ?_⟩) ⟨⟨_, hp4.kp⟩, kr⟩ ?_
              · intro w' hSw
                (try simp only [List.getElem_toArray, List.getElem_cons_succ, List.getElem_cons_zero])
                go_simp
              (try simp only [List.getElem_toArray, List.getElem_cons_succ, List.getElem_cons_zero, Act.put, List.setIfInBounds_toArray, List.set_cons_zero, List.set_cons_succ])
              refine wpAnyE_take (i := 4) (oi := _) (v := .agg (lyC l)) rfl (by kernel_rfl) (by kernel_rfl) (by kernel_rfl) (by kernel_rfl) (fun _ _ _ h => h) (Or.inl ⟨by rfl, ?_⟩) ⟨⟨_, hp4.kp⟩, kr⟩ ?_
              · intro w' hSw
                obtain ⟨i9, k9⟩ := hSw.1
                (try simp only [List.getElem_toArray, List.getElem_cons_succ, List.getElem_cons_zero])
                simp only [execOp, Instr.loadAt, Instr.sureAddr, Sem.run_bind, Sem.run_pure]
                rw [show (Act.eval _ (Operand.tmp 58)) = Value.pointer (some ⟨gp, 0, none⟩) from rfl]
                simp only [Sem.run_pure, Result.andThen_ok, run_loadVar_sub w' gp 0 40 (lyC l) _ (prog_sub k9) Try.underlying40 rfl (by kernel_rfl)]
              (try simp only [List.getElem_toArray, List.getElem_cons_succ, List.getElem_cons_zero, Act.put, List.setIfInBounds_toArray, List.set_cons_zero, List.set_cons_succ])
              refine wpAnyE_take (i := 5) (oi := _) (v := .pointer (some ⟨gr, 0, none⟩)) rfl (by kernel_rfl) (by kernel_rfl) (by kernel_rfl) (by kernel_rfl) (fun _ _ _ h => h) (Or.inl ⟨by rfl, ?_⟩) ⟨⟨_, hp4.kp⟩, kr⟩ ?_
              · intro w' hSw
                (try simp only [List.getElem_toArray, List.getElem_cons_succ, List.getElem_cons_zero])
                go_simp
              (try simp only [List.getElem_toArray, List.getElem_cons_succ, List.getElem_cons_zero, Act.put, List.setIfInBounds_toArray, List.set_cons_zero, List.set_cons_succ])
              refine wpAnyE_take (i := 6) (oi := _) (v := .int .i64 ix) rfl (by kernel_rfl) (by kernel_rfl) (by kernel_rfl) (by kernel_rfl) (fun _ _ _ h => h) (Or.inl ⟨by rfl, ?_⟩) ⟨⟨_, hp4.kp⟩, kr⟩ ?_
              · intro w' hSw
                have s1 := hSw.2.cell 0
                (try simp at s1)
                (try simp only [List.getElem_toArray, List.getElem_cons_succ, List.getElem_cons_zero])
                go_simp
              (try simp only [List.getElem_toArray, List.getElem_cons_succ, List.getElem_cons_zero, Act.put, List.setIfInBounds_toArray, List.set_cons_zero, List.set_cons_succ])
              refine wpAnyE_take (i := 8) (oi := _) (v := .pointer (some ⟨gp, 0, none⟩)) rfl (by kernel_rfl) (by kernel_rfl) (by kernel_rfl) (by kernel_rfl) (fun _ _ _ h => h) (Or.inl ⟨by rfl, ?_⟩) ⟨⟨_, hp4.kp⟩, kr⟩ ?_
              · intro w' hSw
                (try simp only [List.getElem_toArray, List.getElem_cons_succ, List.getElem_cons_zero])
                go_simp
              (try simp only [List.getElem_toArray, List.getElem_cons_succ, List.getElem_cons_zero, Act.put, List.setIfInBounds_toArray, List.set_cons_zero, List.set_cons_succ])
              refine wpAnyE_take (i := 9) (oi := _) (v := .pointer (some ⟨gp, 0, none⟩)) rfl (by kernel_rfl) (by kernel_rfl) (by kernel_rfl) (by kernel_rfl) (fun _ _ _ h => h) (Or.inl ⟨by rfl, ?_⟩) ⟨⟨_, hp4.kp⟩, kr⟩ ?_
              · intro w' hSw
                (try simp only [List.getElem_toArray, List.getElem_cons_succ, List.getElem_cons_zero])
                go_simp
              (try simp only [List.getElem_toArray, List.getElem_cons_succ, List.getElem_cons_zero, Act.put, List.setIfInBounds_toArray, List.set_cons_zero, List.set_cons_succ])
              refine wpAnyE_take (i := 10) (oi := _) (v := .pointer (some ⟨gp, 0, none⟩)) rfl (by kernel_rfl) (by kernel_rfl) (by kernel_rfl) (by kernel_rfl) (fun _ _ _ h => h) (Or.inl ⟨by rfl, ?_⟩) ⟨⟨_, hp4.kp⟩, kr⟩ ?_
              · intro w' hSw
                (try simp only [List.getElem_toArray, List.getElem_cons_succ, List.getElem_cons_zero])
                go_simp
              (try simp only [List.getElem_toArray, List.getElem_cons_succ, List.getElem_cons_zero, Act.put, List.setIfInBounds_toArray, List.set_cons_zero, List.set_cons_succ])
              refine wpAnyE_take (i := 11) (oi := _) (v := .pointer (some ⟨gp, 0, none⟩)) rfl (by kernel_rfl) (by kernel_rfl) (by kernel_rfl) (by kernel_rfl) (fun _ _ _ h => h) (Or.inl ⟨by rfl, ?_⟩) ⟨⟨_, hp4.kp⟩, kr⟩ ?_
              · intro w' hSw
                (try simp only [List.getElem_toArray, List.getElem_cons_succ, List.getElem_cons_zero])
                go_simp
              (try simp only [List.getElem_toArray, List.getElem_cons_succ, List.getElem_cons_zero, Act.put, List.setIfInBounds_toArray, List.set_cons_zero, List.set_cons_succ])
              refine wpAnyE_take (i := 12) (oi := _) (v := .pointer (some ⟨gp, 11, none⟩)) rfl (by kernel_rfl) (by kernel_rfl) (by kernel_rfl) (by kernel_rfl) (fun _ _ _ h => h) (Or.inl ⟨by rfl, ?_⟩) ⟨⟨_, hp4.kp⟩, kr⟩ ?_
              · intro w' hSw
                (try simp only [List.getElem_toArray, List.getElem_cons_succ, List.getElem_cons_zero])
                go_simp
              (try simp only [List.getElem_toArray, List.getElem_cons_succ, List.getElem_cons_zero, Act.put, List.setIfInBounds_toArray, List.set_cons_zero, List.set_cons_succ])
              refine wpAnyE_take (i := 13) (oi := _) (v := .int .i64 l.era) rfl (by kernel_rfl) (by kernel_rfl) (by kernel_rfl) (by kernel_rfl) (fun _ _ _ h => h) (Or.inl ⟨by rfl, ?_⟩) ⟨⟨_, hp4.kp⟩, kr⟩ ?_
              · intro w' hSw
                obtain ⟨i9, k9⟩ := hSw.1
                have s1 := k9.cell 11
                (try simp at s1)
                (try simp only [List.getElem_toArray, List.getElem_cons_succ, List.getElem_cons_zero])
                go_simp
              (try simp only [List.getElem_toArray, List.getElem_cons_succ, List.getElem_cons_zero, Act.put, List.setIfInBounds_toArray, List.set_cons_zero, List.set_cons_succ])
              refine wpAnyE_one (i := 7) (o := _) (by kernel_rfl) rfl (fun K hK => ?_)
              (try simp only [List.getElem_toArray, List.getElem_cons_succ, List.getElem_cons_zero])
              go_simp
              (with_reducible refine (node_any l ix 6 _ HF.out (by omega)).mono ?_)
              rintro e w6 ⟨rfl, hb⟩
              replace hp4 := hp4.keep hb
              replace ko := ko.keep hb
              replace kr := kr.keep hb
              replace kx := kx.keep hb
              replace hst := hst.trans (Stp.of_below gp hb)
              clear hb
              refine hK.out _ _ (fun _ => ⟨⟨_, hp4.kp⟩, kr⟩) ?_
              clear hK K
              (try simp only [List.getElem_toArray, List.getElem_cons_succ, List.getElem_cons_zero, Act.put, List.setIfInBounds_toArray, List.set_cons_zero, List.set_cons_succ])
              refine wpAnyE_one (i := 14) (o := _) (by kernel_rfl) rfl (fun K hK => ?_)
              (try simp only [List.getElem_toArray, List.getElem_cons_succ, List.getElem_cons_zero])
              go_simp
              cases hy : log[i + 3]? with
              | none =>
                have hil2 : i + 1 + 1 + 1 = log.length := by have := List.getElem?_eq_none_iff.1 hy; omega
                (with_reducible refine (load_asks l.era hp4 hil2).mono ?_)
                rintro e w8 ⟨rfl, hb⟩
                exact ⟨rfl, arPost_ask (HTK.out.1.trans (tk_ask3 HX.out HZ.out HY.out HZZ.out rfl hy)) (hst.trans (Stp.of_below gp hb))⟩
              | some u =>
                obtain ⟨u1, u2⟩ := u
                (with_reducible refine (load_told l.era hp4 hy).mono ?_)
                rintro e w15 ⟨rfl, hp5, hs2⟩
                replace hst := hst.trans hs2
                replace ko := hs2.keep ko (by omega)
                replace kr := hs2.keep kr (by omega)
                replace kx := hs2.keep kx (by omega)
                clear hs2
                have HU := Lib.hid hy
                have hil4 : i + 3 < log.length := (List.getElem?_eq_some_iff.1 hy).1
                clear hy hp4
                refine hK.out _ _ (fun _ => ⟨⟨_, hp5.kp⟩, kr⟩) ?_
                clear hK K
                (try simp only [List.getElem_toArray, List.getElem_cons_succ, List.getElem_cons_zero, Act.put, List.setIfInBounds_toArray, List.set_cons_zero, List.set_cons_succ])
                refine wpAnyE_one (i := 15) (o := _) (by kernel_rfl) rfl (fun K hK => ?_)
                (try simp only [List.getElem_toArray, List.getElem_cons_succ, List.getElem_cons_zero])
                go_simp
                cases hy : log[i + 4]? with
                | none =>
                  have hil2 : i + 1 + 1 + 1 + 1 = log.length := by have := List.getElem?_eq_none_iff.1 hy; omega
                  (with_reducible refine (store_asks (nodeAt l ix 6) u1 hp5 hil2).mono ?_)
                  rintro e w8 ⟨rfl, hb⟩
                  exact ⟨rfl, arPost_ask (HTK.out.1.trans (by rw [tk_ask4 HX.out HZ.out HY.out HZZ.out rfl HU.out hy, (show idxOf x1 = ix from HIX.out.1)])) (hst.trans (Stp.of_below gp hb))⟩
                | some v =>
                  obtain ⟨v1, v2⟩ := v
                  (with_reducible refine (store_told (nodeAt l ix 6) u1 hp5 hy).mono ?_)
                  rintro e w16 ⟨rfl, hp6, hs2⟩
                  replace hst := hst.trans hs2
                  replace ko := hs2.keep ko (by omega)
                  replace kr := hs2.keep kr (by omega)
                  replace kx := hs2.keep kx (by omega)
                  clear hs2
                  have he := HTK.out.1.trans (tk_out HX.out HZ.out HY.out HZZ.out rfl HU.out hy)
                  have HE := Lib.hid he
                  clear hy hp5 he
                  refine hK.out _ _ (fun _ => ⟨⟨_, hp6.kp⟩, kr⟩) ?_
                  clear hK K
                  (try simp only [List.getElem_toArray, List.getElem_cons_succ, List.getElem_cons_zero, Act.put, List.setIfInBounds_toArray, List.set_cons_zero, List.set_cons_succ])
                  refine wpAnyE_done (by kernel_rfl) ?_ _
                  go_wp2_with (first
                    | (refine wpList_load_row rfl 63 (.tmp 6) rfl gx rfl 63 (outC ix true 0 (i + 2 : Nat)) (0, 0) _ kx Try.underlying63 rfl (by kernel_rfl) ?_)
                    | (refine wpList_store_rowTo rfl 63 (.tmp 2) (.tmp 71) rfl rfl go (outC ix true 0 (i + 2 : Nat)) rfl rfl 63 outZ ko (by kernel_rfl) rfl (by simp [Value.oneCell']) ?_))
                  have kf := setRow_heap _ _ outZ (outC ix true 0 (i + 2 : Nat)) 63 (0, 0) ko
                  have hstf : Stp gp w (w16.setRow go (outC ix true 0 (i + 2 : Nat))) := Stp.setRow' hst ko (by rw [HGO.out]; exact Nat.le_refl _)
                  exact bodyPost_ret (v := .agg (outC ix true 0 (i + 2 : Nat))) (results_cell_row (p := 2) (ty := 63) rfl _ _ go 63 (outC ix true 0 (i + 2 : Nat)) (0, 0) _ rfl kf Try.underlying63 rfl (by kernel_rfl)) rfl (arPost_out (by rw [HE.out, (show idxOf x1 = ix from HIX.out.1)]; rfl) hstf)
end Go.Proofs.Ytgjdjgainjedhaa
