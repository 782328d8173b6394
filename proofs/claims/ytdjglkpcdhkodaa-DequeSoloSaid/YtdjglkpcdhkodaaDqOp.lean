/- deque's steal, pop, push. Printed by dqops_gen.py. -/
import Derived.Test.YtdjglkpcdhkodaaDqPr
namespace Go.Proofs.Ytdjglkpcdhkodaa
open Go.RowKit
set_option linter.unusedVariables false
attribute [local go_sem ↓] Go.wp_at_zero Go.wp_at_succ

abbrev outC (val : Int) (is : Bool) (err point : Int) : Array Value := #[.int .i64 val, .bool is, .int .i64 err, .int .i64 point, .slice none 0 0]
abbrev outZ : Array Value := outC 0 false 0 0
theorem PrSt.row {w : World} {B gp g : Nat} {l : Ly} {A : Option Addr} {cap i : Nat} {log : Log} {cs : Array Value} (h : PrSt w B gp l A cap i log) (hg : gp < g) : PrSt (w.setRow g cs) B gp l A cap i log :=
  ⟨(setRow_other _ _ _ _ (by omega)).trans h.kp, h.sl.below ⟨rfl, rfl, rfl, by simp [World.setRow], fun b hb => setRow_other _ g b _ (by have := h.bp; omega)⟩, h.bp, h.le⟩
theorem Stp.setRow' {gm g : Nat} {w0 w : World} {old cs : Array Value} {t : TypeId} (h : Stp gm w0 w) (k : Bk w g t old) (hg : w0.heap.size ≤ g) : Stp gm w0 (w.setRow g cs) :=
  ⟨h.os, h.tape, h.output, by have := h.size; simpa [World.setRow] using this, fun b hb hn => (setRow_other _ g b _ (by omega)).trans (h.block b hb hn)⟩
/-- What a program of accesses does: it asks for one, or tells. -/
def ArPost (gp : Nat) (r : Ans) (w : World) (e : Ending) (w' : World) : Prop :=
  match r with
  | .ask k c o v => e = .panicked [{ v := askV k c o v, recovered := false }] ∧ Stp gp w w'
  | .out val is err point => e = .returned (.agg (outC val is err point)) ∧ Stp gp w w'
theorem arPost_ask {gp : Nat} {r : Ans} {k c o v : Int} {w w' : World} (hr : r = .ask k c o v) (h : Stp gp w w') : ArPost gp r w (.panicked [{ v := askV k c o v, recovered := false }]) w' := by rw [hr]; exact ⟨rfl, h⟩
theorem arPost_out {gp : Nat} {r : Ans} {val : Int} {is : Bool} {err point : Int} {w w' : World} (hr : r = .out val is err point) (h : Stp gp w w') : ArPost gp r w (.returned (.agg (outC val is err point))) w' := by rw [hr]; exact ⟨rfl, h⟩
theorem last_at {w : World} {B gp : Nat} {l : Ly} {A : Option Addr} {cap i : Nat} {log : Log} (z : Int) (h : PrSt w B gp l A cap i log) (h1 : 1 ≤ i) (hz : z = (i : Int) - 1) (hi : i ≤ 1000) : Calls Try.prog 52 #[ptr gp] w (IntSame z w) := by
  obtain ⟨k, rfl⟩ : ∃ k, i = k + 1 := ⟨i - 1, by omega⟩
  have e : z = (k : Int) := by omega
  rw [e]
  exact last_any h (by omega)
set_option maxRecDepth 100000 in
set_option maxHeartbeats 4000000 in
theorem steal_any {w : World} {B gp : Nat} {l : Ly} {A : Option Addr} {cap : Nat} {log : Log} (op : Opr) (h : PrSt w B gp l A cap 0 log) (f : DqLy l) (hl : LogIn log) : Calls Try.prog 43 #[ptr gp, .agg (oprC op)] w (ArPost gp (stealM l log) w) := by
  have HF := Lib.hid f
  have HL := Lib.hid hl
  have zg := h.kp.lt
  have hle := h.le
  have hp := h.keep (below_al (below_al (Below.refl _ _) (.cells (oprC op) 39)) (.cells outZ 50))
  have hst : Stp gp w ((w.alloc (.cells (oprC op) 39)).alloc (.cells outZ 50)) := ((Stp.refl gp w).alloc _).alloc _
  have ka := (Bk.made w 39 (oprC op)).alloc (.cells outZ 50)
  have ko := Bk.new (w.alloc (.cells (oprC op) 39)) (g := w.heap.size + 1) (by simp) 50 outZ
  clear h f hl
  go_enter Try.func43, Try.ntmps43
  go_upto_region 1 with fail
  generalize (w.alloc (.cells (oprC op) 39)).alloc (.cells outZ 50) = w1 at *
  obtain ⟨go, hgo⟩ : ∃ g, w.heap.size + 1 = g := ⟨_, rfl⟩
  obtain ⟨ga, hga⟩ : ∃ g, w.heap.size = g := ⟨_, rfl⟩
  rw [hgo] at ko ⊢
  rw [hga] at ka zg ⊢
  have zgo : ga ≤ go := by omega
  have zgo2 : ga < go := by omega
  have HGO := Lib.hid hga
  clear hgo hga
  clear ka
  go_wp2_with fail
  (with_reducible refine (cellp_any 0 hp HF.out (by omega)).mono ?_)
  rintro e w2 ⟨rfl, hb⟩
  replace hp := hp.keep hb
  replace hst := hst.trans (Stp.of_below gp hb)
  replace ko := ko.keep hb
  clear hb
  rw [Int.add_zero]
  go_wp2_with fail
  cases hx : log[0]? with
  | none =>
    have hil : 0 = log.length := by have := List.getElem?_eq_none_iff.1 hx; omega
    (with_reducible refine (load_asks l.deque hp hil).mono ?_)
    rintro e wq ⟨rfl, hb⟩
    exact ⟨rfl, arPost_ask (st0 hx) (hst.trans (Stp.of_below gp hb))⟩
  | some x =>
    obtain ⟨t1, t2⟩ := x
    (with_reducible refine (load_told l.deque hp hx).mono ?_)
    rintro e w3 ⟨rfl, hp2, hs2⟩
    have hil_t : 0 < log.length := (List.getElem?_eq_some_iff.1 hx).1
    have hin_t := HL.out _ _ hx
    dsimp only at hin_t
    have Ht := Lib.hid hx
    replace hst := hst.trans hs2
    replace ko := hs2.keep ko (by omega)
    clear hs2 hp hx
    have hp := hp2
    clear hp2
    go_wp2_with fail
    (with_reducible refine (cellp_any 1 hp HF.out (by omega)).mono ?_)
    rintro e w4 ⟨rfl, hb⟩
    replace hp := hp.keep hb
    replace hst := hst.trans (Stp.of_below gp hb)
    replace ko := ko.keep hb
    clear hb
    go_wp2_with fail
    cases hx : log[1]? with
    | none =>
      have hil : 1 = log.length := by have := List.getElem?_eq_none_iff.1 hx; omega
      (with_reducible refine (load_asks (l.deque + 1) hp hil).mono ?_)
      rintro e wq ⟨rfl, hb⟩
      exact ⟨rfl, arPost_ask (st1 Ht.out hx) (hst.trans (Stp.of_below gp hb))⟩
    | some x =>
      obtain ⟨b1, b2⟩ := x
      (with_reducible refine (load_told (l.deque + 1) hp hx).mono ?_)
      rintro e w5 ⟨rfl, hp2, hs2⟩
      have hil_b : 1 < log.length := (List.getElem?_eq_some_iff.1 hx).1
      have hin_b := HL.out _ _ hx
      dsimp only at hin_b
      have Hb := Lib.hid hx
      replace hst := hst.trans hs2
      replace ko := hs2.keep ko (by omega)
      clear hs2 hp hx
      have hp := hp2
      clear hp2
      cases hc : decide (b1 ≤ t1) with
      | true =>
        have hc2 : b1 ≤ t1 := by simpa using hc
        go_wp2_with fail
        (with_reducible refine (last_at (1) hp (by omega) (by omega) (by omega)).mono ?_)
        rintro e wl ⟨rfl, hwl⟩
        replace hwl := hwl.symm
        subst hwl
        go_wp2_with (first
          | (refine wpList_store_rowTo rfl 50 (.tmp 4) (.tmp 22) rfl rfl go (outC 0 false 16 1) rfl rfl 50 outZ ko (by kernel_rfl) rfl (by simp [Value.oneCell']) ?_))
        have kf := setRow_heap _ _ outZ (outC 0 false 16 1) 50 (0, 0) ko
        have hstf := Stp.setRow' (cs := (outC 0 false 16 1)) hst ko (by rw [HGO.out]; exact zgo)
        exact bodyPost_ret (v := .agg (outC 0 false 16 1)) (results_cell_row (p := 4) (ty := 50) rfl _ _ go 50 (outC 0 false 16 1) (0, 0) _ rfl kf Try.underlying50 rfl (by kernel_rfl)) rfl (arPost_out (st2e Ht.out Hb.out hc2) hstf)
      | false =>
        have HC := Lib.hid (show t1 < b1 by simpa using hc)
        go_wp2_with fail
        (with_reducible refine (cellp_any 2 hp HF.out (by omega)).mono ?_)
        rintro e w6 ⟨rfl, hb⟩
        replace hp := hp.keep hb
        replace hst := hst.trans (Stp.of_below gp hb)
        replace ko := ko.keep hb
        clear hb
        go_wp2_with fail
        cases hx : log[2]? with
        | none =>
          have hil : 2 = log.length := by have := List.getElem?_eq_none_iff.1 hx; omega
          (with_reducible refine (load_asks (l.deque + 2) hp hil).mono ?_)
          rintro e wq ⟨rfl, hb⟩
          exact ⟨rfl, arPost_ask (st2 Ht.out Hb.out HC.out hx) (hst.trans (Stp.of_below gp hb))⟩
        | some x =>
          obtain ⟨r1, r2⟩ := x
          (with_reducible refine (load_told (l.deque + 2) hp hx).mono ?_)
          rintro e w7 ⟨rfl, hp2, hs2⟩
          have hil_r : 2 < log.length := (List.getElem?_eq_some_iff.1 hx).1
          have hin_r := HL.out _ _ hx
          dsimp only at hin_r
          have Hr := Lib.hid hx
          replace hst := hst.trans hs2
          replace ko := hs2.keep ko (by omega)
          clear hs2 hp hx
          have hp := hp2
          clear hp2
          go_wp2_with fail
          (with_reducible refine (placep_any r1 t1 hp HF.out).mono ?_)
          rintro e w8 ⟨rfl, hb⟩
          replace hp := hp.keep hb
          replace hst := hst.trans (Stp.of_below gp hb)
          replace ko := ko.keep hb
          clear hb
          go_wp2_with fail
          cases hx : log[3]? with
          | none =>
            have hil : 3 = log.length := by have := List.getElem?_eq_none_iff.1 hx; omega
            (with_reducible refine (load_asks (placeAt l 0 r1 t1) hp hil).mono ?_)
            rintro e wq ⟨rfl, hb⟩
            exact ⟨rfl, arPost_ask (st3 Ht.out Hb.out HC.out Hr.out hx) (hst.trans (Stp.of_below gp hb))⟩
          | some x =>
            obtain ⟨x1, x2⟩ := x
            (with_reducible refine (load_told (placeAt l 0 r1 t1) hp hx).mono ?_)
            rintro e w9 ⟨rfl, hp2, hs2⟩
            have hil_x : 3 < log.length := (List.getElem?_eq_some_iff.1 hx).1
            have hin_x := HL.out _ _ hx
            dsimp only at hin_x
            have Hx := Lib.hid hx
            replace hst := hst.trans hs2
            replace ko := hs2.keep ko (by omega)
            clear hs2 hp hx
            have hp := hp2
            clear hp2
            clear hc
            go_wp2_with fail
            cases hx : log[4]? with
            | none =>
              have hil : 4 = log.length := by have := List.getElem?_eq_none_iff.1 hx; omega
              (with_reducible refine (raise_asks t1 (by omega) hp HF.out hil).mono ?_)
              rintro e wq ⟨rfl, hb⟩
              exact ⟨rfl, arPost_ask (st4 Ht.out Hb.out HC.out Hr.out Hx.out hx) (hst.trans (Stp.of_below gp hb))⟩
            | some x =>
              obtain ⟨c1, c2⟩ := x
              (with_reducible refine (raise_told t1 (by omega) hp HF.out hx).mono ?_)
              rintro e w10 ⟨rfl, hp2, hs2⟩
              have hil_c : 4 < log.length := (List.getElem?_eq_some_iff.1 hx).1
              have Hc := Lib.hid hx
              replace hst := hst.trans hs2
              replace ko := hs2.keep ko (by omega)
              clear hs2 hp hx
              have hp := hp2
              clear hp2
              cases c2 with
              | false =>
                go_wp2_with fail
                (with_reducible refine (last_at (4) hp (by omega) (by omega) (by omega)).mono ?_)
                rintro e wl ⟨rfl, hwl⟩
                replace hwl := hwl.symm
                subst hwl
                go_wp2_with (first
                  | (refine wpList_store_rowTo rfl 50 (.tmp 4) (.tmp 39) rfl rfl go (outC 0 false 0 4) rfl rfl 50 outZ ko (by kernel_rfl) rfl (by simp [Value.oneCell']) ?_))
                have kf := setRow_heap _ _ outZ (outC 0 false 0 4) 50 (0, 0) ko
                have hstf := Stp.setRow' (cs := (outC 0 false 0 4)) hst ko (by rw [HGO.out]; exact zgo)
                exact bodyPost_ret (v := .agg (outC 0 false 0 4)) (results_cell_row (p := 4) (ty := 50) rfl _ _ go 50 (outC 0 false 0 4) (0, 0) _ rfl kf Try.underlying50 rfl (by kernel_rfl)) rfl (arPost_out (st5 Ht.out Hb.out HC.out Hr.out Hx.out Hc.out) hstf)
              | true =>
                go_wp2_with fail
                (with_reducible refine (last_at (4) hp (by omega) (by omega) (by omega)).mono ?_)
                rintro e wl ⟨rfl, hwl⟩
                replace hwl := hwl.symm
                subst hwl
                go_wp2_with (first
                  | (refine wpList_store_rowTo rfl 50 (.tmp 4) (.tmp 43) rfl rfl go (outC x1 true 0 4) rfl rfl 50 outZ ko (by kernel_rfl) rfl (by simp [Value.oneCell']) ?_))
                have kf := setRow_heap _ _ outZ (outC x1 true 0 4) 50 (0, 0) ko
                have hstf := Stp.setRow' (cs := (outC x1 true 0 4)) hst ko (by rw [HGO.out]; exact zgo)
                exact bodyPost_ret (v := .agg (outC x1 true 0 4)) (results_cell_row (p := 4) (ty := 50) rfl _ _ go 50 (outC x1 true 0 4) (0, 0) _ rfl kf Try.underlying50 rfl (by kernel_rfl)) rfl (arPost_out (st5 Ht.out Hb.out HC.out Hr.out Hx.out Hc.out) hstf)
theorem PrSt.setNew {w : World} {B gp g i : Nat} {l : Ly} {A : Option Addr} {cap k : Nat} {log : Log} (h : PrSt w B gp l A cap k log) (hg : gp < g) (v : Value) : PrSt (w.setCell ⟨g, i, none⟩ v) B gp l A cap k log :=
  ⟨h.kp.other (p := ⟨g, i, none⟩) (by dsimp only; omega) v, h.sl.below ((Below.refl B w).setCell (p := ⟨g, i, none⟩) (by have := h.bp; dsimp only; omega) v), h.bp, h.le⟩
theorem Stp.setNew {gm g i : Nat} {w0 w : World} (h : Stp gm w0 w) (hg : w0.heap.size ≤ g) (v : Value) : Stp gm w0 (w.setCell ⟨g, i, none⟩ v) :=
  ⟨h.os, h.tape, h.output, by have := h.size; simpa using this, fun b hb hn => (Below.heap_setCell w ⟨g, i, none⟩ v b (by dsimp only; omega)).trans (h.block b hb hn)⟩
set_option maxRecDepth 100000 in
set_option maxHeartbeats 4000000 in
theorem pop_any {w : World} {B gp : Nat} {l : Ly} {A : Option Addr} {cap : Nat} {log : Log} (op : Opr) (h : PrSt w B gp l A cap 0 log) (f : DqLy l) (hl : LogIn log) : Calls Try.prog 42 #[ptr gp, .agg (oprC op)] w (ArPost gp (popM l log) w) := by
  have HF := Lib.hid f
  have HL := Lib.hid hl
  have zg := h.kp.lt
  have hle := h.le
  have hp := h.keep (below_al (below_al (Below.refl _ _) (.cells (oprC op) 39)) (.cells outZ 50))
  have hst : Stp gp w ((w.alloc (.cells (oprC op) 39)).alloc (.cells outZ 50)) := ((Stp.refl gp w).alloc _).alloc _
  have ka := (Bk.made w 39 (oprC op)).alloc (.cells outZ 50)
  have ko := Bk.new (w.alloc (.cells (oprC op) 39)) (g := w.heap.size + 1) (by simp) 50 outZ
  clear h f hl
  go_enter Try.func42, Try.ntmps42
  go_upto_region 1 with fail
  generalize (w.alloc (.cells (oprC op) 39)).alloc (.cells outZ 50) = w1 at *
  obtain ⟨go, hgo⟩ : ∃ g, w.heap.size + 1 = g := ⟨_, rfl⟩
  obtain ⟨ga, hga⟩ : ∃ g, w.heap.size = g := ⟨_, rfl⟩
  rw [hgo] at ko ⊢
  rw [hga] at ka zg ⊢
  have zgo : ga ≤ go := by omega
  have zgo2 : ga < go := by omega
  have HGO := Lib.hid hga
  clear hgo hga
  clear ka
  go_wp2_with fail
  (with_reducible refine (cellp_any 1 hp HF.out (by omega)).mono ?_)
  rintro e w2 ⟨rfl, hb⟩
  replace hp := hp.keep hb
  replace hst := hst.trans (Stp.of_below gp hb)
  replace ko := ko.keep hb
  clear hb
  go_wp2_with fail
  cases hx : log[0]? with
  | none =>
    have hil : 0 = log.length := by have := List.getElem?_eq_none_iff.1 hx; omega
    (with_reducible refine (load_asks (l.deque + 1) hp hil).mono ?_)
    rintro e wq ⟨rfl, hb⟩
    exact ⟨rfl, arPost_ask (pp0 hx) (hst.trans (Stp.of_below gp hb))⟩
  | some x =>
    obtain ⟨b1, b2⟩ := x
    (with_reducible refine (load_told (l.deque + 1) hp hx).mono ?_)
    rintro e w3 ⟨rfl, hp2, hs2⟩
    have hil_b : 0 < log.length := (List.getElem?_eq_some_iff.1 hx).1
    have hin_b := HL.out _ _ hx
    dsimp only at hin_b
    have Hb := Lib.hid hx
    replace hst := hst.trans hs2
    replace ko := hs2.keep ko (by omega)
    clear hs2 hp hx
    have hp := hp2
    clear hp2
    go_wp2_with fail
    (with_reducible refine (cellp_any 1 hp HF.out (by omega)).mono ?_)
    rintro e w4 ⟨rfl, hb⟩
    replace hp := hp.keep hb
    replace hst := hst.trans (Stp.of_below gp hb)
    replace ko := ko.keep hb
    clear hb
    go_wp2_with fail
    cases hx : log[1]? with
    | none =>
      have hil : 1 = log.length := by have := List.getElem?_eq_none_iff.1 hx; omega
      (with_reducible refine (store_asks (l.deque + 1) (b1 - 1) hp hil).mono ?_)
      rintro e wq ⟨rfl, hb⟩
      exact ⟨rfl, arPost_ask (pp1 Hb.out hx) (hst.trans (Stp.of_below gp hb))⟩
    | some x =>
      obtain ⟨y1, y2⟩ := x
      (with_reducible refine (store_told (l.deque + 1) (b1 - 1) hp hx).mono ?_)
      rintro e w5 ⟨rfl, hp2, hs2⟩
      have hil_y : 1 < log.length := (List.getElem?_eq_some_iff.1 hx).1
      have hin_y := HL.out _ _ hx
      dsimp only at hin_y
      have Hy := Lib.hid hx
      replace hst := hst.trans hs2
      replace ko := hs2.keep ko (by omega)
      clear hs2 hp hx
      have hp := hp2
      clear hp2
      go_wp2_with fail
      (with_reducible refine (cellp_any 0 hp HF.out (by omega)).mono ?_)
      rintro e w6 ⟨rfl, hb⟩
      replace hp := hp.keep hb
      replace hst := hst.trans (Stp.of_below gp hb)
      replace ko := ko.keep hb
      clear hb
      rw [Int.add_zero]
      go_wp2_with fail
      cases hx : log[2]? with
      | none =>
        have hil : 2 = log.length := by have := List.getElem?_eq_none_iff.1 hx; omega
        (with_reducible refine (load_asks l.deque hp hil).mono ?_)
        rintro e wq ⟨rfl, hb⟩
        exact ⟨rfl, arPost_ask (pp2 Hb.out Hy.out hx) (hst.trans (Stp.of_below gp hb))⟩
      | some x =>
        obtain ⟨t1, t2⟩ := x
        (with_reducible refine (load_told l.deque hp hx).mono ?_)
        rintro e w7 ⟨rfl, hp2, hs2⟩
        have hil_t : 2 < log.length := (List.getElem?_eq_some_iff.1 hx).1
        have hin_t := HL.out _ _ hx
        dsimp only at hin_t
        have Ht := Lib.hid hx
        replace hst := hst.trans hs2
        replace ko := hs2.keep ko (by omega)
        clear hs2 hp hx
        have hp := hp2
        clear hp2
        go_wp2_with fail
        (with_reducible refine (last_at (2) hp (by omega) (by omega) (by omega)).mono ?_)
        rintro e wl ⟨rfl, hwl⟩
        replace hwl := hwl.symm
        subst hwl
        go_upto_region 5 with (refine wpList_store_new rfl 50 (.tmp 7) (.tmp 26) rfl rfl w7.heap.size _ _ (outC 0 false 0 2) rfl rfl rfl rfl (by kernel_rfl) rfl (by simp [Value.oneCell']) ?_)
        have kq := Bk.made w7 50 (outC 0 false 0 2)
        have zq : go < w7.heap.size := ko.lt
        have zq2 : gp < w7.heap.size := hp.kp.lt
        replace hp := hp.keep (below_al (Below.refl _ _) (.cells (outC 0 false 0 2) 50))
        replace hst := hst.trans (Stp.of_below gp (below_al (Below.refl _ _) (.cells (outC 0 false 0 2) 50)))
        replace ko := ko.alloc (.cells (outC 0 false 0 2) 50)
        generalize w7.alloc (.cells (outC 0 false 0 2) 50) = w8 at *
        generalize w7.heap.size = gq at *
        cases hc : decide (b1 - 1 < t1) with
        | true =>
          have HC := Lib.hid (show b1 - 1 < t1 by simpa using hc)
          go_wp2_with fail
          (with_reducible refine (cellp_any 1 hp HF.out (by omega)).mono ?_)
          rintro e w9 ⟨rfl, hb⟩
          replace hp := hp.keep hb
          replace hst := hst.trans (Stp.of_below gp hb)
          replace ko := ko.keep hb
          replace kq := kq.keep hb
          clear hb
          have hbb : b1 - 1 + 1 = b1 := by omega
          go_wp2_with fail
          try rw [hbb]
          clear hbb
          cases hx : log[3]? with
          | none =>
            have hil : 3 = log.length := by have := List.getElem?_eq_none_iff.1 hx; omega
            (with_reducible refine (store_asks (l.deque + 1) b1 hp hil).mono ?_)
            rintro e wq ⟨rfl, hb⟩
            exact ⟨rfl, arPost_ask (pp3e Hb.out Hy.out Ht.out HC.out hx) (hst.trans (Stp.of_below gp hb))⟩
          | some x =>
            obtain ⟨z1, z2⟩ := x
            (with_reducible refine (store_told (l.deque + 1) b1 hp hx).mono ?_)
            rintro e w10 ⟨rfl, hp2, hs2⟩
            have hil_z : 3 < log.length := (List.getElem?_eq_some_iff.1 hx).1
            have hin_z := HL.out _ _ hx
            dsimp only at hin_z
            have Hz := Lib.hid hx
            replace hst := hst.trans hs2
            replace ko := hs2.keep ko (by omega)
            replace kq := hs2.keep kq (by omega)
            clear hs2 hp hx
            have hp := hp2
            clear hp2
            go_wp2_with (first
              | (refine wpList_store_rowTo rfl 50 (.tmp 4) (.tmp 36) rfl rfl go (outC 0 false 0 2) rfl rfl 50 outZ ko (by kernel_rfl) rfl (by simp [Value.oneCell']) ?_)
              | (refine wpList_load_row rfl 50 (.tmp 7) rfl gq rfl 50 (outC 0 false 0 2) (0, 0) _ kq Try.underlying50 rfl (by kernel_rfl) ?_))
            have kf := setRow_heap _ _ outZ (outC 0 false 0 2) 50 (0, 0) ko
            have hstf := Stp.setRow' (cs := (outC 0 false 0 2)) hst ko (by rw [HGO.out]; exact zgo)
            exact bodyPost_ret (v := .agg (outC 0 false 0 2)) (results_cell_row (p := 4) (ty := 50) rfl _ _ go 50 (outC 0 false 0 2) (0, 0) _ rfl kf Try.underlying50 rfl (by kernel_rfl)) rfl (arPost_out (pp4e Hb.out Hy.out Ht.out HC.out Hz.out) hstf)
        | false =>
          have HC := Lib.hid (show t1 ≤ b1 - 1 by simpa using hc)
          go_wp2_with fail
          (with_reducible refine (cellp_any 2 hp HF.out (by omega)).mono ?_)
          rintro e w9 ⟨rfl, hb⟩
          replace hp := hp.keep hb
          replace hst := hst.trans (Stp.of_below gp hb)
          replace ko := ko.keep hb
          replace kq := kq.keep hb
          clear hb
          go_wp2_with fail
          cases hx : log[3]? with
          | none =>
            have hil : 3 = log.length := by have := List.getElem?_eq_none_iff.1 hx; omega
            (with_reducible refine (load_asks (l.deque + 2) hp hil).mono ?_)
            rintro e wq ⟨rfl, hb⟩
            exact ⟨rfl, arPost_ask (pp3 Hb.out Hy.out Ht.out HC.out hx) (hst.trans (Stp.of_below gp hb))⟩
          | some x =>
            obtain ⟨r1, r2⟩ := x
            (with_reducible refine (load_told (l.deque + 2) hp hx).mono ?_)
            rintro e w10 ⟨rfl, hp2, hs2⟩
            have hil_r : 3 < log.length := (List.getElem?_eq_some_iff.1 hx).1
            have hin_r := HL.out _ _ hx
            dsimp only at hin_r
            have Hr := Lib.hid hx
            replace hst := hst.trans hs2
            replace ko := hs2.keep ko (by omega)
            replace kq := hs2.keep kq (by omega)
            clear hs2 hp hx
            have hp := hp2
            clear hp2
            go_wp2_with fail
            (with_reducible refine (placep_any r1 (b1 - 1) hp HF.out).mono ?_)
            rintro e w11 ⟨rfl, hb⟩
            replace hp := hp.keep hb
            replace hst := hst.trans (Stp.of_below gp hb)
            replace ko := ko.keep hb
            replace kq := kq.keep hb
            clear hb
            go_wp2_with fail
            cases hx : log[4]? with
            | none =>
              have hil : 4 = log.length := by have := List.getElem?_eq_none_iff.1 hx; omega
              (with_reducible refine (load_asks (placeAt l 0 r1 (b1 - 1)) hp hil).mono ?_)
              rintro e wq ⟨rfl, hb⟩
              exact ⟨rfl, arPost_ask (pp4 Hb.out Hy.out Ht.out HC.out Hr.out hx) (hst.trans (Stp.of_below gp hb))⟩
            | some x =>
              obtain ⟨x1, x2⟩ := x
              (with_reducible refine (load_told (placeAt l 0 r1 (b1 - 1)) hp hx).mono ?_)
              rintro e w12 ⟨rfl, hp2, hs2⟩
              have hil_x : 4 < log.length := (List.getElem?_eq_some_iff.1 hx).1
              have hin_x := HL.out _ _ hx
              dsimp only at hin_x
              have Hx := Lib.hid hx
              replace hst := hst.trans hs2
              replace ko := hs2.keep ko (by omega)
              replace kq := hs2.keep kq (by omega)
              clear hs2 hp hx
              have hp := hp2
              clear hp2
              clear hc
              have q1 := kq.cell 1
              have f1 := kq.free 1
              have lq := kq.lt
              simp at q1
              go_upto_region 11 with fail
              clear q1 f1 lq
              replace kq : Bk (w12.setCell ⟨gq, 1, none⟩ (.bool true)) gq 50 (outC 0 true 0 2) := kq.stored 1 (.bool true)
              replace ko := ko.other (p := ⟨gq, 1, none⟩) (by dsimp only; omega) (.bool true)
              replace hp := hp.setNew (i := 1) (by omega) (.bool true)
              replace hst := hst.setNew (g := gq) (i := 1) (by rw [HGO.out]; omega) (.bool true)
              generalize w12.setCell ⟨gq, 1, none⟩ (.bool true) = w13 at *
              cases he : decide (t1 = b1 - 1) with
              | false =>
                have he2 : (t1 == b1 - 1) = false := by simpa using he
                have HE := Lib.hid (show ¬ t1 = b1 - 1 by simpa using he)
                have q1 := kq.cell 1
                have lq := kq.lt
                simp at q1
                go_upto_region 16 with fail
                clear q1 lq
                have q1 := kq.cell 0
                have f1 := kq.free 0
                have lq := kq.lt
                simp at q1
                go_upto_region 17 with fail
                clear q1 f1 lq
                replace kq : Bk (w13.setCell ⟨gq, 0, none⟩ (.int .i64 x1)) gq 50 (outC x1 true 0 2) := kq.stored 0 (.int .i64 x1)
                replace ko := ko.other (p := ⟨gq, 0, none⟩) (by dsimp only; omega) (.int .i64 x1)
                replace hp := hp.setNew (i := 0) (by omega) (.int .i64 x1)
                replace hst := hst.setNew (g := gq) (i := 0) (by rw [HGO.out]; omega) (.int .i64 x1)
                generalize w13.setCell ⟨gq, 0, none⟩ (.int .i64 x1) = w14 at *
                go_wp2_with (first
                  | (refine wpList_store_rowTo rfl 50 (.tmp 4) (.tmp 68) rfl rfl go (outC x1 true 0 2) rfl rfl 50 outZ ko (by kernel_rfl) rfl (by simp [Value.oneCell']) ?_)
                  | (refine wpList_load_row rfl 50 (.tmp 7) rfl gq rfl 50 (outC x1 true 0 2) (0, 0) _ kq Try.underlying50 rfl (by kernel_rfl) ?_))
                have kf := setRow_heap _ _ outZ (outC x1 true 0 2) 50 (0, 0) ko
                have hstf := Stp.setRow' (cs := (outC x1 true 0 2)) hst ko (by rw [HGO.out]; exact zgo)
                exact bodyPost_ret (v := .agg (outC x1 true 0 2)) (results_cell_row (p := 4) (ty := 50) rfl _ _ go 50 (outC x1 true 0 2) (0, 0) _ rfl kf Try.underlying50 rfl (by kernel_rfl)) rfl (arPost_out (pp5 Hb.out Hy.out Ht.out HC.out Hr.out Hx.out HE.out) hstf)
              | true =>
                have he2 : (t1 == b1 - 1) = true := by simpa using he
                have HE := Lib.hid (show t1 = b1 - 1 by simpa using he)
                go_wp2_with fail
                cases hx : log[5]? with
                | none =>
                  have hil : 5 = log.length := by have := List.getElem?_eq_none_iff.1 hx; omega
                  (with_reducible refine (raise_asks t1 (by omega) hp HF.out hil).mono ?_)
                  rintro e wq ⟨rfl, hb⟩
                  exact ⟨rfl, arPost_ask (pp5c Hb.out Hy.out Ht.out HC.out Hr.out Hx.out HE.out hx) (hst.trans (Stp.of_below gp hb))⟩
                | some x =>
                  obtain ⟨c1, c2⟩ := x
                  (with_reducible refine (raise_told t1 (by omega) hp HF.out hx).mono ?_)
                  rintro e w14 ⟨rfl, hp2, hs2⟩
                  have hil_c : 5 < log.length := (List.getElem?_eq_some_iff.1 hx).1
                  have Hc := Lib.hid hx
                  replace hst := hst.trans hs2
                  replace ko := hs2.keep ko (by omega)
                  replace kq := hs2.keep kq (by omega)
                  clear hs2 hp hx
                  have hp := hp2
                  clear hp2
                  clear he he2
                  have q1 := kq.cell 1
                  have f1 := kq.free 1
                  have lq := kq.lt
                  simp at q1
                  go_upto_region 13 with fail
                  clear q1 f1 lq
                  replace kq : Bk (w14.setCell ⟨gq, 1, none⟩ (.bool c2)) gq 50 (outC 0 c2 0 2) := kq.stored 1 (.bool c2)
                  replace ko := ko.other (p := ⟨gq, 1, none⟩) (by dsimp only; omega) (.bool c2)
                  replace hp := hp.setNew (i := 1) (by omega) (.bool c2)
                  replace hst := hst.setNew (g := gq) (i := 1) (by rw [HGO.out]; omega) (.bool c2)
                  generalize w14.setCell ⟨gq, 1, none⟩ (.bool c2) = w15 at *
                  go_wp2_with fail
                  (with_reducible refine (last_at (5) hp (by omega) (by omega) (by omega)).mono ?_)
                  rintro e wl ⟨rfl, hwl⟩
                  replace hwl := hwl.symm
                  subst hwl
                  have q1 := kq.cell 3
                  have f1 := kq.free 3
                  have lq := kq.lt
                  simp at q1
                  go_upto_region 14 with fail
                  clear q1 f1 lq
                  replace kq : Bk (w15.setCell ⟨gq, 3, none⟩ (.int .i64 5)) gq 50 (outC 0 c2 0 5) := kq.stored 3 (.int .i64 5)
                  replace ko := ko.other (p := ⟨gq, 3, none⟩) (by dsimp only; omega) (.int .i64 5)
                  replace hp := hp.setNew (i := 3) (by omega) (.int .i64 5)
                  replace hst := hst.setNew (g := gq) (i := 3) (by rw [HGO.out]; omega) (.int .i64 5)
                  generalize w15.setCell ⟨gq, 3, none⟩ (.int .i64 5) = w16 at *
                  go_wp2_with fail
                  (with_reducible refine (cellp_any 1 hp HF.out (by omega)).mono ?_)
                  rintro e w17 ⟨rfl, hb⟩
                  replace hp := hp.keep hb
                  replace hst := hst.trans (Stp.of_below gp hb)
                  replace ko := ko.keep hb
                  replace kq := kq.keep hb
                  clear hb
                  have hbb : b1 - 1 + 1 = b1 := by omega
                  go_wp2_with fail
                  try rw [hbb]
                  clear hbb
                  cases hx : log[6]? with
                  | none =>
                    have hil : 6 = log.length := by have := List.getElem?_eq_none_iff.1 hx; omega
                    (with_reducible refine (store_asks (l.deque + 1) b1 hp hil).mono ?_)
                    rintro e wq ⟨rfl, hb⟩
                    exact ⟨rfl, arPost_ask (pp6 Hb.out Hy.out Ht.out HC.out Hr.out Hx.out HE.out Hc.out hx) (hst.trans (Stp.of_below gp hb))⟩
                  | some x =>
                    obtain ⟨z1, z2⟩ := x
                    (with_reducible refine (store_told (l.deque + 1) b1 hp hx).mono ?_)
                    rintro e w18 ⟨rfl, hp2, hs2⟩
                    have hil_z : 6 < log.length := (List.getElem?_eq_some_iff.1 hx).1
                    have hin_z := HL.out _ _ hx
                    dsimp only at hin_z
                    have Hz := Lib.hid hx
                    replace hst := hst.trans hs2
                    replace ko := hs2.keep ko (by omega)
                    replace kq := hs2.keep kq (by omega)
                    clear hs2 hp hx
                    have hp := hp2
                    clear hp2
                    have q1 := kq.cell 1
                    have lq := kq.lt
                    simp at q1
                    cases c2 with
                    | false =>
                      go_upto_region 17 with fail
                      clear q1 lq
                      go_wp2_with (first
                        | (refine wpList_store_rowTo rfl 50 (.tmp 4) (.tmp 68) rfl rfl go (outC 0 false 0 5) rfl rfl 50 outZ ko (by kernel_rfl) rfl (by simp [Value.oneCell']) ?_)
                        | (refine wpList_load_row rfl 50 (.tmp 7) rfl gq rfl 50 (outC 0 false 0 5) (0, 0) _ kq Try.underlying50 rfl (by kernel_rfl) ?_))
                      have kf := setRow_heap _ _ outZ (outC 0 false 0 5) 50 (0, 0) ko
                      have hstf := Stp.setRow' (cs := (outC 0 false 0 5)) hst ko (by rw [HGO.out]; exact zgo)
                      exact bodyPost_ret (v := .agg (outC 0 false 0 5)) (results_cell_row (p := 4) (ty := 50) rfl _ _ go 50 (outC 0 false 0 5) (0, 0) _ rfl kf Try.underlying50 rfl (by kernel_rfl)) rfl (arPost_out (pp7 Hb.out Hy.out Ht.out HC.out Hr.out Hx.out HE.out Hc.out Hz.out) hstf)
                    | true =>
                      go_upto_region 16 with fail
                      clear q1 lq
                      have q1 := kq.cell 0
                      have f1 := kq.free 0
                      have lq := kq.lt
                      simp at q1
                      go_upto_region 17 with fail
                      clear q1 f1 lq
                      replace kq : Bk (w18.setCell ⟨gq, 0, none⟩ (.int .i64 x1)) gq 50 (outC x1 true 0 5) := kq.stored 0 (.int .i64 x1)
                      replace ko := ko.other (p := ⟨gq, 0, none⟩) (by dsimp only; omega) (.int .i64 x1)
                      replace hp := hp.setNew (i := 0) (by omega) (.int .i64 x1)
                      replace hst := hst.setNew (g := gq) (i := 0) (by rw [HGO.out]; omega) (.int .i64 x1)
                      generalize w18.setCell ⟨gq, 0, none⟩ (.int .i64 x1) = w19 at *
                      go_wp2_with (first
                        | (refine wpList_store_rowTo rfl 50 (.tmp 4) (.tmp 68) rfl rfl go (outC x1 true 0 5) rfl rfl 50 outZ ko (by kernel_rfl) rfl (by simp [Value.oneCell']) ?_)
                        | (refine wpList_load_row rfl 50 (.tmp 7) rfl gq rfl 50 (outC x1 true 0 5) (0, 0) _ kq Try.underlying50 rfl (by kernel_rfl) ?_))
                      have kf := setRow_heap _ _ outZ (outC x1 true 0 5) 50 (0, 0) ko
                      have hstf := Stp.setRow' (cs := (outC x1 true 0 5)) hst ko (by rw [HGO.out]; exact zgo)
                      exact bodyPost_ret (v := .agg (outC x1 true 0 5)) (results_cell_row (p := 4) (ty := 50) rfl _ _ go 50 (outC x1 true 0 5) (0, 0) _ rfl kf Try.underlying50 rfl (by kernel_rfl)) rfl (arPost_out (pp7 Hb.out Hy.out Ht.out HC.out Hr.out Hx.out HE.out Hc.out Hz.out) hstf)
end Go.Proofs.Ytdjglkpcdhkodaa
