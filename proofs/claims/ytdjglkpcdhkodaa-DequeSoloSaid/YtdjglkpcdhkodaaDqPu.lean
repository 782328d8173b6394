/- deque's push. Printed by dqpush_gen.py. -/
import Derived.Test.YtdjglkpcdhkodaaDqOp
namespace Go.Proofs.Ytdjglkpcdhkodaa
open Go.RowKit
set_option linter.unusedVariables false
attribute [local go_sem ↓] Go.wp_at_zero Go.wp_at_succ

theorem wp_load_sub {P : Program} {o : Oper} {a : Act} {w : World} {K : Act → World → Prop} {Q : Exit → Act → World → Prop} (ty : TypeId) (x : Operand) (ho : o.op = .load ty x)
    (g b : Nat) (hx : a.eval x = .pointer (some ⟨g, b, none⟩)) (cs : Array Value) (d : TypeDesc) (hc : ∀ (j : Nat) (v : Value), cs[j]? = some v → w.cell? ⟨g, b + j, none⟩ = some v)
    (hu : P.underlying ty = some d) (hd : (match d with | .struct _ | .array _ _ => true | _ => false) = true) (hi : (P.info? ty).map (·.size) = some cs.size)
    (h : K (a.put o.dst (.agg cs)) w) : o.wp P a w K Q := by
  unfold Oper.wp execOp
  simp only [ho, hx, Instr.loadAt, Instr.sureAddr, Sem.run_bind, Sem.run_pure, Result.andThen_ok, run_loadVar_sub w g b ty cs d hc hu hd hi]
  exact h
theorem wpList_load_subG {P : Program} {ops : Array Oper} {rest : List Oper} {o : Oper} {a : Act} {w : World} {Q : Exit → Act → World → Prop} (hgd : Region.wanted o (yielded ops a.tmps) = true) (ty : TypeId) (x : Operand) (ho : o.op = .load ty x)
    (g b : Nat) (hx : a.eval x = .pointer (some ⟨g, b, none⟩)) (cs : Array Value) (d : TypeDesc) (hc : ∀ (j : Nat) (v : Value), cs[j]? = some v → w.cell? ⟨g, b + j, none⟩ = some v)
    (hu : P.underlying ty = some d) (hd : (match d with | .struct _ | .array _ _ => true | _ => false) = true) (hi : (P.info? ty).map (·.size) = some cs.size)
    (h : wpList P ops Q rest (a.put o.dst (.agg cs)) w) : wpList P ops Q (o :: rest) a w := by
  simp only [wpList, hgd, if_true]
  exact .inl (wp_load_sub ty x ho g b hx cs d hc hu hd hi h)
/-- Pairs, in a row of their own, behind block gp. -/
def PairsIn (w : World) (gp : Nat) (A : Option Addr) (mv : List (Int × Int)) : Prop :=
  0 < mv.length → ∃ G cur, A = some ⟨G, 0, none⟩ ∧ gp < G ∧ Bk w G 90 cur ∧ ∀ (k : Nat) (m : Int × Int), mv[k]? = some m → cur[k * 2]? = some (.int .i64 m.1) ∧ cur[k * 2 + 1]? = some (.int .i64 m.2)
theorem PairsIn.step {w w' : World} {gp : Nat} {A : Option Addr} {mv : List (Int × Int)} (h : PairsIn w gp A mv) (s : Stp gp w w') : PairsIn w' gp A mv := by
  intro hp
  obtain ⟨G, cur, e, hg, k, hc⟩ := h hp
  exact ⟨G, cur, e, hg, s.keep k (by omega), hc⟩
theorem pairCells_at : ∀ (l : List (Int × Int)) (k : Nat) (r : Int × Int), l[k]? = some r → (pairCells l)[k * 2]? = some (.int .i64 r.1) ∧ (pairCells l)[k * 2 + 1]? = some (.int .i64 r.2) := by
  intro l
  induction l with
  | nil => intro k r h; simp at h
  | cons x l ih =>
    intro k r h
    cases k with
    | zero => simp at h; subst h; simp [pairCells]
    | succ k =>
      obtain ⟨h1, h2⟩ := ih k r (by simpa using h)
      have e1 : (k + 1) * 2 = k * 2 + 1 + 1 := by omega
      rw [e1]
      simp only [pairCells, List.flatMap_cons, List.cons_append, List.nil_append, List.getElem?_cons_succ]
      exact ⟨h1, h2⟩
theorem pairsIn_of {w : World} {base gp c : Nat} {A : Option Addr} {mv : List (Int × Int)} (h : OwnPairs w base (.slice A mv.length c) mv) (hb : gp < base) : PairsIn w gp A mv := by
  intro hp
  rcases h.2 with ⟨h1, _⟩ | ⟨g, cap, cur, h1, h2, h3, h4, h5, h6, h7⟩
  · injection h1 with _ h1 _
    omega
  · injection h1 with h1 _ _
    refine ⟨g, cur, h1, by omega, h3, fun k m hk => ?_⟩
    obtain ⟨q1, q2⟩ := pairCells_at mv k m hk
    have hlt := (List.getElem?_eq_some_iff.1 hk).1
    rw [← h7] at q1 q2
    rw [List.getElem?_take_of_lt (by omega)] at q1 q2
    exact ⟨by simpa using q1, by simpa using q2⟩
def MvRl (B gp go ga : Nat) (l : Ly) (A : Option Addr) (cap : Nat) (op : Opr) (r b : Int) (mv : List (Int × Int)) (MA : Option Addr) (log : Log) (w0 : World) (i : Value) (wr : World) : Prop :=
  ∃ k : Nat, k ≤ mv.length ∧ 3 + 2 * k ≤ log.length ∧ i = .int .i64 k ∧ PrSt wr B gp l A cap (3 + 2 * k) log ∧ Stp gp w0 wr ∧ Bk wr go 50 outZ ∧ Bk wr ga 39 (oprC op) ∧ PairsIn wr gp MA mv ∧ pushM l op.a log = movM l r b op.a (mv.drop k) (3 + 2 * k) (log.drop (3 + 2 * k))
set_option maxRecDepth 100000 in
set_option maxHeartbeats 4000000 in
theorem push_any {w : World} {B gp : Nat} {l : Ly} {A : Option Addr} {cap : Nat} {log : Log} (op : Opr) (h : PrSt w B gp l A cap 0 log) (f : DqLy l) (hl : LogIn log) : Calls Try.prog 41 #[ptr gp, .agg (oprC op)] w (ArPost gp (pushM l op.a log) w) := by
  have HF := Lib.hid f
  have HL := Lib.hid hl
  have zg := h.kp.lt
  have hle := h.le
  have hp := h.keep (below_al (below_al (Below.refl _ _) (.cells (oprC op) 39)) (.cells outZ 50))
  have hst : Stp gp w ((w.alloc (.cells (oprC op) 39)).alloc (.cells outZ 50)) := ((Stp.refl gp w).alloc _).alloc _
  have ka := (Bk.made w 39 (oprC op)).alloc (.cells outZ 50)
  have ko := Bk.new (w.alloc (.cells (oprC op) 39)) (g := w.heap.size + 1) (by simp) 50 outZ
  clear h f hl
  go_enter Try.func41, Try.ntmps41
  go_upto_region 1 with fail
  generalize (w.alloc (.cells (oprC op) 39)).alloc (.cells outZ 50) = w1 at *
  obtain ⟨go, hgo⟩ : ∃ g, w.heap.size + 1 = g := ⟨_, rfl⟩
  obtain ⟨ga, hga⟩ : ∃ g, w.heap.size = g := ⟨_, rfl⟩
  rw [hgo] at ko ⊢
  rw [hga] at ka zg ⊢
  have zgo : ga ≤ go := by omega
  have zgo2 : ga < go := by omega
  have HGO := Lib.hid hga
  clear hgo hga
  go_wp2_with fail
  (with_reducible refine (cellp_any 1 hp HF.out (by omega)).mono ?_)
  rintro e w2 ⟨rfl, hb⟩
  replace hp := hp.keep hb
  replace hst := hst.trans (Stp.of_below gp hb)
  replace ko := ko.keep hb
  replace ka := ka.keep hb
  clear hb
  go_wp2_with fail
  cases hx : log[0]? with
  | none =>
    have hil : 0 = log.length := by have := List.getElem?_eq_none_iff.1 hx; omega
    (with_reducible refine (load_asks (l.deque + 1) hp hil).mono ?_)
    rintro e wq ⟨rfl, hb⟩
    exact ⟨rfl, arPost_ask (ps0 hx) (hst.trans (Stp.of_below gp hb))⟩
  | some x =>
    obtain ⟨b1, b2⟩ := x
    (with_reducible refine (load_told (l.deque + 1) hp hx).mono ?_)
    rintro e w3 ⟨rfl, hp2, hs2⟩
    have hil_b : 0 < log.length := (List.getElem?_eq_some_iff.1 hx).1
    have hin_b := HL.out _ _ hx
    dsimp only at hin_b
    have Hb := Lib.hid hx
    replace hst := hst.trans hs2
    replace ko := hs2.keep ko (by omega)
    replace ka := hs2.keep ka (by omega)
    clear hs2 hp hx
    have hp := hp2
    clear hp2
    go_wp2_with fail
    (with_reducible refine (cellp_any 0 hp HF.out (by omega)).mono ?_)
    rintro e w4 ⟨rfl, hb⟩
    replace hp := hp.keep hb
    replace hst := hst.trans (Stp.of_below gp hb)
    replace ko := ko.keep hb
    replace ka := ka.keep hb
    clear hb
    rw [Int.add_zero]
    go_wp2_with fail
    cases hx : log[1]? with
    | none =>
      have hil : 1 = log.length := by have := List.getElem?_eq_none_iff.1 hx; omega
      (with_reducible refine (load_asks l.deque hp hil).mono ?_)
      rintro e wq ⟨rfl, hb⟩
      exact ⟨rfl, arPost_ask (ps1 Hb.out hx) (hst.trans (Stp.of_below gp hb))⟩
    | some x =>
      obtain ⟨t1, t2⟩ := x
      (with_reducible refine (load_told l.deque hp hx).mono ?_)
      rintro e w5 ⟨rfl, hp2, hs2⟩
      have hil_t : 1 < log.length := (List.getElem?_eq_some_iff.1 hx).1
      have hin_t := HL.out _ _ hx
      dsimp only at hin_t
      have Ht := Lib.hid hx
      replace hst := hst.trans hs2
      replace ko := hs2.keep ko (by omega)
      replace ka := hs2.keep ka (by omega)
      clear hs2 hp hx
      have hp := hp2
      clear hp2
      go_wp2_with fail
      (with_reducible refine (cellp_any 2 hp HF.out (by omega)).mono ?_)
      rintro e w6 ⟨rfl, hb⟩
      replace hp := hp.keep hb
      replace hst := hst.trans (Stp.of_below gp hb)
      replace ko := ko.keep hb
      replace ka := ka.keep hb
      clear hb
      go_wp2_with fail
      cases hx : log[2]? with
      | none =>
        have hil : 2 = log.length := by have := List.getElem?_eq_none_iff.1 hx; omega
        (with_reducible refine (load_asks (l.deque + 2) hp hil).mono ?_)
        rintro e wq ⟨rfl, hb⟩
        exact ⟨rfl, arPost_ask (ps2 Hb.out Ht.out hx) (hst.trans (Stp.of_below gp hb))⟩
      | some x =>
        obtain ⟨r1, r2⟩ := x
        (with_reducible refine (load_told (l.deque + 2) hp hx).mono ?_)
        rintro e w7 ⟨rfl, hp2, hs2⟩
        have hil_r : 2 < log.length := (List.getElem?_eq_some_iff.1 hx).1
        have hin_r := HL.out _ _ hx
        dsimp only at hin_r
        have Hr := Lib.hid hx
        replace hst := hst.trans hs2
        replace ko := hs2.keep ko (by omega)
        replace ka := hs2.keep ka (by omega)
        clear hs2 hp hx
        have hp := hp2
        clear hp2
        go_wp2_with fail
        (with_reducible refine (size_any r1 _).mono ?_)
        rintro e wl ⟨rfl, hwl⟩
        replace hwl := hwl.symm
        subst hwl
        have hsz := sizeN_in r1
        obtain ⟨sz, hsze⟩ : ∃ z, sizeN r1 = z := ⟨_, rfl⟩
        rw [hsze] at hsz ⊢
        have HSZ := Lib.hid hsze
        clear hsze
        cases hs : decide (sz ≤ b1 - t1) with
        | false =>
          have HM := Lib.hid (ps_put (l := l) (a := op.a) Hb.out Ht.out Hr.out (show ¬ sizeN r1 ≤ b1 - t1 by rw [HSZ.out]; simpa using hs))
          dsimp only at HM
          go_upto_region 14 with fail
          have qa := ka.cell 2
          have la := ka.lt
          simp at qa
          refine wp_region_E (S := fun w' => Bk w' ga 39 (oprC op)) (E := fun _ => false) (by kernel_rfl) ?_
          replace hp := hp.drew
          replace ko := ko.drew
          replace ka := ka.drew
          replace hst := hst.trans (Stp.of_below gp (below_drew' (Below.refl w7.heap.size w7)))
          clear qa la
          generalize w7.drew = w8 at *
          refine wpAnyE_take (i := 0) (oi := _) (v := .pointer (some ⟨gp, 0, none⟩)) rfl (by kernel_rfl) (by kernel_rfl) (by kernel_rfl) (by kernel_rfl) (fun _ _ _ h => h) (Or.inl ⟨by rfl, ?_⟩) ka ?_
          · intro w' hSw
            (try simp only [List.getElem_toArray, List.getElem_cons_zero])
            go_simp
          (try simp only [List.getElem_toArray, List.getElem_cons_zero, Act.put, List.setIfInBounds_toArray, List.set_cons_zero, List.set_cons_succ])
          refine wpAnyE_take (i := 1) (oi := _) (v := .pointer (some ⟨gp, 0, none⟩)) rfl (by kernel_rfl) (by kernel_rfl) (by kernel_rfl) (by kernel_rfl) (fun _ _ _ h => h) (Or.inl ⟨by rfl, ?_⟩) ka ?_
          · intro w' hSw
            (try simp only [List.getElem_toArray, List.getElem_cons_succ, List.getElem_cons_zero])
            go_simp
          (try simp only [List.getElem_toArray, List.getElem_cons_succ, List.getElem_cons_zero, Act.put, List.setIfInBounds_toArray, List.set_cons_zero, List.set_cons_succ])
          refine wpAnyE_take (i := 2) (oi := _) (v := .int .i64 (r1)) rfl (by kernel_rfl) (by kernel_rfl) (by kernel_rfl) (by kernel_rfl) (fun _ _ _ h => h) (Or.inl ⟨by rfl, ?_⟩) ka ?_
          · intro w' hSw
            (try simp only [List.getElem_toArray, List.getElem_cons_succ, List.getElem_cons_zero])
            go_simp
          (try simp only [List.getElem_toArray, List.getElem_cons_succ, List.getElem_cons_zero, Act.put, List.setIfInBounds_toArray, List.set_cons_zero, List.set_cons_succ])
          refine wpAnyE_take (i := 3) (oi := _) (v := .int .i64 b1) rfl (by kernel_rfl) (by kernel_rfl) (by kernel_rfl) (by kernel_rfl) (fun _ _ _ h => h) (Or.inl ⟨by rfl, ?_⟩) ka ?_
          · intro w' hSw
            (try simp only [List.getElem_toArray, List.getElem_cons_succ, List.getElem_cons_zero])
            go_simp
          (try simp only [List.getElem_toArray, List.getElem_cons_succ, List.getElem_cons_zero, Act.put, List.setIfInBounds_toArray, List.set_cons_zero, List.set_cons_succ])
          refine wpAnyE_take (i := 5) (oi := _) (v := .pointer (some ⟨ga, 2, none⟩)) rfl (by kernel_rfl) (by kernel_rfl) (by kernel_rfl) (by kernel_rfl) (fun _ _ _ h => h) (Or.inl ⟨by rfl, ?_⟩) ka ?_
          · intro w' hSw
            (try simp only [List.getElem_toArray, List.getElem_cons_succ, List.getElem_cons_zero])
            go_simp
          (try simp only [List.getElem_toArray, List.getElem_cons_succ, List.getElem_cons_zero, Act.put, List.setIfInBounds_toArray, List.set_cons_zero, List.set_cons_succ])
          refine wpAnyE_take (i := 6) (oi := _) (v := .int .i64 op.a) rfl (by kernel_rfl) (by kernel_rfl) (by kernel_rfl) (by kernel_rfl) (fun _ _ _ h => h) (Or.inl ⟨by rfl, ?_⟩) ka ?_
          · intro w' hSw
            have s1 := hSw.cell 2
            (try simp at s1)
            (try simp only [List.getElem_toArray, List.getElem_cons_succ, List.getElem_cons_zero])
            go_simp
          (try simp only [List.getElem_toArray, List.getElem_cons_succ, List.getElem_cons_zero, Act.put, List.setIfInBounds_toArray, List.set_cons_zero, List.set_cons_succ])
          refine wpAnyE_one (i := 4) (o := _) (by kernel_rfl) rfl (fun K hK => ?_)
          (try simp only [List.getElem_toArray, List.getElem_cons_succ, List.getElem_cons_zero])
          go_simp
          (with_reducible refine (placep_any (r1) b1 hp HF.out).mono ?_)
          rintro e w9 ⟨rfl, hb⟩
          replace hp := hp.keep hb
          replace hst := hst.trans (Stp.of_below gp hb)
          replace ko := ko.keep hb
          replace ka := ka.keep hb
          clear hb
          refine hK.out _ _ (fun _ => ka) ?_
          clear hK K
          (try simp only [List.getElem_toArray, List.getElem_cons_succ, List.getElem_cons_zero, Act.put, List.setIfInBounds_toArray, List.set_cons_zero, List.set_cons_succ])
          refine wpAnyE_one (i := 7) (o := _) (by kernel_rfl) rfl (fun K hK => ?_)
          (try simp only [List.getElem_toArray, List.getElem_cons_succ, List.getElem_cons_zero])
          go_simp
          cases hx : log[3]? with
          | none =>
            have hil : 3 = log.length := by have := List.getElem?_eq_none_iff.1 hx; omega
            (with_reducible refine (store_asks (placeAt l 0 (r1) b1) op.a hp hil).mono ?_)
            rintro e wq ⟨rfl, hb⟩
            exact ⟨rfl, arPost_ask (HM.out.trans (pt0 hx)) (hst.trans (Stp.of_below gp hb))⟩
          | some x =>
            obtain ⟨x1, x2⟩ := x
            (with_reducible refine (store_told (placeAt l 0 (r1) b1) op.a hp hx).mono ?_)
            rintro e w10 ⟨rfl, hp2, hs2⟩
            have hil_x : 3 < log.length := (List.getElem?_eq_some_iff.1 hx).1
            have hin_x := HL.out _ _ hx
            dsimp only at hin_x
            have Hx := Lib.hid hx
            replace hst := hst.trans hs2
            replace ko := hs2.keep ko (by omega)
            replace ka := hs2.keep ka (by omega)
            clear hs2 hp hx
            have hp := hp2
            clear hp2
            refine hK.out _ _ (fun _ => ka) ?_
            clear hK K
            (try simp only [List.getElem_toArray, List.getElem_cons_succ, List.getElem_cons_zero, Act.put, List.setIfInBounds_toArray, List.set_cons_zero, List.set_cons_succ])
            refine wpAnyE_done (by kernel_rfl) ?_ _
            clear ka
            go_wp2_with fail
            (with_reducible refine (cellp_any 1 hp HF.out (by omega)).mono ?_)
            rintro e w11 ⟨rfl, hb⟩
            replace hp := hp.keep hb
            replace hst := hst.trans (Stp.of_below gp hb)
            replace ko := ko.keep hb
            clear hb
            go_wp2_with fail
            cases hx : log[3 + 1]? with
            | none =>
              have hil : 3 + 1 = log.length := by have := List.getElem?_eq_none_iff.1 hx; omega
              (with_reducible refine (store_asks (l.deque + 1) (b1 + 1) hp hil).mono ?_)
              rintro e wq ⟨rfl, hb⟩
              exact ⟨rfl, arPost_ask (HM.out.trans (pt1 Hx.out hx)) (hst.trans (Stp.of_below gp hb))⟩
            | some x =>
              obtain ⟨y1, y2⟩ := x
              (with_reducible refine (store_told (l.deque + 1) (b1 + 1) hp hx).mono ?_)
              rintro e w12 ⟨rfl, hp2, hs2⟩
              have hil_y : 3 + 1 < log.length := (List.getElem?_eq_some_iff.1 hx).1
              have hin_y := HL.out _ _ hx
              dsimp only at hin_y
              have Hy := Lib.hid hx
              replace hst := hst.trans hs2
              replace ko := hs2.keep ko (by omega)
              clear hs2 hp hx
              have hp := hp2
              clear hp2
              go_wp2_with fail
              (with_reducible refine (last_at (((3 : Nat) : Int) + 1) hp (by omega) (by omega) (by omega)).mono ?_)
              rintro e wl ⟨rfl, hwl⟩
              replace hwl := hwl.symm
              subst hwl
              go_wp2_with (first
                | (refine wpList_store_rowTo rfl 50 (.tmp 4) (.tmp 90) rfl rfl go (outC 0 true 0 (((3 : Nat) : Int) + 1)) rfl rfl 50 outZ ko (by kernel_rfl) rfl (by simp [Value.oneCell']) ?_))
              have kf := setRow_heap _ _ outZ (outC 0 true 0 (((3 : Nat) : Int) + 1)) 50 (0, 0) ko
              have hstf := Stp.setRow' (cs := (outC 0 true 0 (((3 : Nat) : Int) + 1))) hst ko (by rw [HGO.out]; exact zgo)
              exact bodyPost_ret (v := .agg (outC 0 true 0 (((3 : Nat) : Int) + 1))) (results_cell_row (p := 4) (ty := 50) rfl _ _ go 50 (outC 0 true 0 (((3 : Nat) : Int) + 1)) (0, 0) _ rfl kf Try.underlying50 rfl (by kernel_rfl)) rfl (arPost_out (HM.out.trans (pt2 Hx.out Hy.out)) hstf)
        | true =>
          have HS := Lib.hid (show sizeN r1 ≤ b1 - t1 by rw [HSZ.out]; simpa using hs)
          cases hr0 : decide (r1 < 0) with
          | true =>
            have HR := Lib.hid (show r1 < 0 by simpa using hr0)
            go_wp2_with (first
              | (refine wpList_store_rowTo rfl 50 (.tmp 4) (.tmp 40) rfl rfl go (outC 0 false 9 (-1)) rfl rfl 50 outZ ko (by kernel_rfl) rfl (by simp [Value.oneCell']) ?_))
            have kf := setRow_heap _ _ outZ (outC 0 false 9 (-1)) 50 (0, 0) ko
            have hstf := Stp.setRow' (cs := (outC 0 false 9 (-1))) hst ko (by rw [HGO.out]; exact zgo)
            exact bodyPost_ret (v := .agg (outC 0 false 9 (-1))) (results_cell_row (p := 4) (ty := 50) rfl _ _ go 50 (outC 0 false 9 (-1)) (0, 0) _ rfl kf Try.underlying50 rfl (by kernel_rfl)) rfl (arPost_out (ps_full Hb.out Ht.out Hr.out HS.out (.inl HR.out)) hstf)
          | false =>
            go_wp2_with (refine wpList_load_subG (by rfl) 31 (.tmp 34) rfl gp 0 rfl (lyC l) _ (prog_sub hp.kp) Try.underlying31 rfl (by kernel_rfl) ?_)
            have hrn := ringsN_in l.c.tasks
            (with_reducible refine (rings_any l _ HF.out.fit.t1 HF.out.fit.t2).mono ?_)
            rintro e w8 ⟨rfl, hb⟩
            replace hp := hp.keep hb
            replace hst := hst.trans (Stp.of_below gp hb)
            replace ko := ko.keep hb
            replace ka := ka.keep hb
            clear hb
            obtain ⟨rn, hrne⟩ : ∃ z, ringsN l.c.tasks = z := ⟨_, rfl⟩
            rw [hrne] at hrn ⊢
            have HRN := Lib.hid hrne
            clear hrne
            cases hr1 : decide (rn - 1 ≤ r1) with
            | true =>
              have HR := Lib.hid (show ringsN l.c.tasks - 1 ≤ r1 by rw [HRN.out]; simpa using hr1)
              go_wp2_with (first
                | (refine wpList_store_rowTo rfl 50 (.tmp 4) (.tmp 40) rfl rfl go (outC 0 false 9 (-1)) rfl rfl 50 outZ ko (by kernel_rfl) rfl (by simp [Value.oneCell']) ?_))
              have kf := setRow_heap _ _ outZ (outC 0 false 9 (-1)) 50 (0, 0) ko
              have hstf := Stp.setRow' (cs := (outC 0 false 9 (-1))) hst ko (by rw [HGO.out]; exact zgo)
              exact bodyPost_ret (v := .agg (outC 0 false 9 (-1))) (results_cell_row (p := 4) (ty := 50) rfl _ _ go 50 (outC 0 false 9 (-1)) (0, 0) _ rfl kf Try.underlying50 rfl (by kernel_rfl)) rfl (arPost_out (ps_full Hb.out Ht.out Hr.out HS.out (.inr HR.out)) hstf)
            | false =>
              have HM := Lib.hid (ps_mov (l := l) (a := op.a) Hb.out Ht.out Hr.out HS.out (show ¬ (r1 < 0 ∨ ringsN l.c.tasks - 1 ≤ r1) by rw [HRN.out]; simp at hr0 hr1; omega))
              dsimp only at HM
              go_upto_region 7 with fail
              clear hr0 hr1 hs
              refine wp_region_E (S := fun w' => Bk w' gp 85 (progC l A log.length cap (0 + 1 + 1 + 1))) (E := fun _ => false) (by kernel_rfl) ?_
              replace hp := hp.drew
              replace ko := ko.drew
              replace ka := ka.drew
              replace hst := hst.trans (Stp.of_below gp (below_drew' (Below.refl w8.heap.size w8)))
              generalize w8.drew = w9 at *
              refine wpAnyE_take (i := 0) (oi := _) (v := .pointer (some ⟨gp, 0, none⟩)) rfl (by kernel_rfl) (by kernel_rfl) (by kernel_rfl) (by kernel_rfl) (fun _ _ _ h => h) (Or.inl ⟨by rfl, ?_⟩) hp.kp ?_
              · intro w' hSw
                (try simp only [List.getElem_toArray, List.getElem_cons_zero])
                go_simp
              (try simp only [List.getElem_toArray, List.getElem_cons_zero, Act.put, List.setIfInBounds_toArray, List.set_cons_zero, List.set_cons_succ])
              refine wpAnyE_take (i := 1) (oi := _) (v := .pointer (some ⟨gp, 0, none⟩)) rfl (by kernel_rfl) (by kernel_rfl) (by kernel_rfl) (by kernel_rfl) (fun _ _ _ h => h) (Or.inl ⟨by rfl, ?_⟩) hp.kp ?_
              · intro w' hSw
                (try simp only [List.getElem_toArray, List.getElem_cons_succ, List.getElem_cons_zero])
                go_simp
              (try simp only [List.getElem_toArray, List.getElem_cons_succ, List.getElem_cons_zero, Act.put, List.setIfInBounds_toArray, List.set_cons_zero, List.set_cons_succ])
              refine wpAnyE_take (i := 2) (oi := _) (v := .pointer (some ⟨gp, 0, none⟩)) rfl (by kernel_rfl) (by kernel_rfl) (by kernel_rfl) (by kernel_rfl) (fun _ _ _ h => h) (Or.inl ⟨by rfl, ?_⟩) hp.kp ?_
              · intro w' hSw
                (try simp only [List.getElem_toArray, List.getElem_cons_succ, List.getElem_cons_zero])
                go_simp
              (try simp only [List.getElem_toArray, List.getElem_cons_succ, List.getElem_cons_zero, Act.put, List.setIfInBounds_toArray, List.set_cons_zero, List.set_cons_succ])
              refine wpAnyE_take (i := 3) (oi := _) (v := .agg (lyC l)) rfl (by kernel_rfl) (by kernel_rfl) (by kernel_rfl) (by kernel_rfl) (fun _ _ _ h => h) (Or.inl ⟨by rfl, ?_⟩) hp.kp ?_
              · intro w' hSw
                (try simp only [List.getElem_toArray, List.getElem_cons_succ, List.getElem_cons_zero])
                simp only [execOp, Instr.loadAt, Instr.sureAddr, Sem.run_bind, Sem.run_pure]
                rw [show (Act.eval _ (Operand.tmp 43)) = Value.pointer (some ⟨gp, 0, none⟩) from rfl]
                simp only [Sem.run_pure, Result.andThen_ok, run_loadVar_sub w' gp 0 31 (lyC l) _ (prog_sub hSw) Try.underlying31 rfl (by kernel_rfl)]
              (try simp only [List.getElem_toArray, List.getElem_cons_succ, List.getElem_cons_zero, Act.put, List.setIfInBounds_toArray, List.set_cons_zero, List.set_cons_succ])
              refine wpAnyE_take (i := 4) (oi := _) (v := .pointer (some ⟨gp, 0, none⟩)) rfl (by kernel_rfl) (by kernel_rfl) (by kernel_rfl) (by kernel_rfl) (fun _ _ _ h => h) (Or.inl ⟨by rfl, ?_⟩) hp.kp ?_
              · intro w' hSw
                (try simp only [List.getElem_toArray, List.getElem_cons_succ, List.getElem_cons_zero])
                go_simp
              (try simp only [List.getElem_toArray, List.getElem_cons_succ, List.getElem_cons_zero, Act.put, List.setIfInBounds_toArray, List.set_cons_zero, List.set_cons_succ])
              refine wpAnyE_take (i := 5) (oi := _) (v := .pointer (some ⟨gp, 0, none⟩)) rfl (by kernel_rfl) (by kernel_rfl) (by kernel_rfl) (by kernel_rfl) (fun _ _ _ h => h) (Or.inl ⟨by rfl, ?_⟩) hp.kp ?_
              · intro w' hSw
                (try simp only [List.getElem_toArray, List.getElem_cons_succ, List.getElem_cons_zero])
                go_simp
              (try simp only [List.getElem_toArray, List.getElem_cons_succ, List.getElem_cons_zero, Act.put, List.setIfInBounds_toArray, List.set_cons_zero, List.set_cons_succ])
              refine wpAnyE_take (i := 6) (oi := _) (v := .pointer (some ⟨gp, 25, none⟩)) rfl (by kernel_rfl) (by kernel_rfl) (by kernel_rfl) (by kernel_rfl) (fun _ _ _ h => h) (Or.inl ⟨by rfl, ?_⟩) hp.kp ?_
              · intro w' hSw
                (try simp only [List.getElem_toArray, List.getElem_cons_succ, List.getElem_cons_zero])
                go_simp
              (try simp only [List.getElem_toArray, List.getElem_cons_succ, List.getElem_cons_zero, Act.put, List.setIfInBounds_toArray, List.set_cons_zero, List.set_cons_succ])
              refine wpAnyE_take (i := 7) (oi := _) (v := .int .i64 0) rfl (by kernel_rfl) (by kernel_rfl) (by kernel_rfl) (by kernel_rfl) (fun _ _ _ h => h) (Or.inl ⟨by rfl, ?_⟩) hp.kp ?_
              · intro w' hSw
                have s1 := hSw.cell 25
                (try simp at s1)
                (try simp only [List.getElem_toArray, List.getElem_cons_succ, List.getElem_cons_zero])
                go_simp
              (try simp only [List.getElem_toArray, List.getElem_cons_succ, List.getElem_cons_zero, Act.put, List.setIfInBounds_toArray, List.set_cons_zero, List.set_cons_succ])
              refine wpAnyE_take (i := 8) (oi := _) (v := .int .i64 r1) rfl (by kernel_rfl) (by kernel_rfl) (by kernel_rfl) (by kernel_rfl) (fun _ _ _ h => h) (Or.inl ⟨by rfl, ?_⟩) hp.kp ?_
              · intro w' hSw
                (try simp only [List.getElem_toArray, List.getElem_cons_succ, List.getElem_cons_zero])
                go_simp
              (try simp only [List.getElem_toArray, List.getElem_cons_succ, List.getElem_cons_zero, Act.put, List.setIfInBounds_toArray, List.set_cons_zero, List.set_cons_succ])
              refine wpAnyE_take (i := 9) (oi := _) (v := .int .i64 t1) rfl (by kernel_rfl) (by kernel_rfl) (by kernel_rfl) (by kernel_rfl) (fun _ _ _ h => h) (Or.inl ⟨by rfl, ?_⟩) hp.kp ?_
              · intro w' hSw
                (try simp only [List.getElem_toArray, List.getElem_cons_succ, List.getElem_cons_zero])
                go_simp
              (try simp only [List.getElem_toArray, List.getElem_cons_succ, List.getElem_cons_zero, Act.put, List.setIfInBounds_toArray, List.set_cons_zero, List.set_cons_succ])
              refine wpAnyE_take (i := 10) (oi := _) (v := .int .i64 b1) rfl (by kernel_rfl) (by kernel_rfl) (by kernel_rfl) (by kernel_rfl) (fun _ _ _ h => h) (Or.inl ⟨by rfl, ?_⟩) hp.kp ?_
              · intro w' hSw
                (try simp only [List.getElem_toArray, List.getElem_cons_succ, List.getElem_cons_zero])
                go_simp
              (try simp only [List.getElem_toArray, List.getElem_cons_succ, List.getElem_cons_zero, Act.put, List.setIfInBounds_toArray, List.set_cons_zero, List.set_cons_succ])
              refine wpAnyE_take (i := 13) (oi := _) (v := .int .i64 0) rfl (by kernel_rfl) (by kernel_rfl) (by kernel_rfl) (by kernel_rfl) (fun _ _ _ h => h) (Or.inl ⟨by rfl, ?_⟩) hp.kp ?_
              · intro w' hSw
                (try simp only [List.getElem_toArray, List.getElem_cons_succ, List.getElem_cons_zero])
                go_simp
              (try simp only [List.getElem_toArray, List.getElem_cons_succ, List.getElem_cons_zero, Act.put, List.setIfInBounds_toArray, List.set_cons_zero, List.set_cons_succ])
              refine wpAnyE_one (i := 11) (o := _) (by kernel_rfl) rfl (fun K hK => ?_)
              (try simp only [List.getElem_toArray, List.getElem_cons_succ, List.getElem_cons_zero])
              go_simp
              (with_reducible refine (moves_any l 0 r1 t1 b1 _ HF.out.fit (by omega) (by omega)).mono ?_)
              rintro e w10 ⟨MA, mc, rfl, hown, hb⟩
              have hpi := pairsIn_of hown hp.kp.lt
              replace hp := hp.keep hb
              replace hst := hst.trans (Stp.of_below gp hb)
              replace ko := ko.keep hb
              replace ka := ka.keep hb
              clear hb
              obtain ⟨mv, hmv⟩ : ∃ z, movesOf l 0 r1 t1 b1 = z := ⟨_, rfl⟩
              rw [hmv] at hown hpi HM ⊢
              obtain ⟨ml, hml⟩ : ∃ z, mv.length = z := ⟨_, rfl⟩
              have hmc : ml ≤ mc := by
                rcases hown.2 with ⟨h1, _⟩ | ⟨g, cap, cur, h1, h2, h3, h4, h5, h6, h7⟩
                · injection h1 with _ h1 h2; omega
                · injection h1 with _ h1 h2; omega
              rw [hml]
              have HML := Lib.hid hml
              clear hmv hown hml
              refine hK.out _ _ (fun _ => hp.kp) ?_
              clear hK K
              (try simp only [List.getElem_toArray, List.getElem_cons_succ, List.getElem_cons_zero, Act.put, List.setIfInBounds_toArray, List.set_cons_zero, List.set_cons_succ])
              refine wpAnyE_take (i := 12) (oi := _) (v := .int .i64 (ml : Nat)) rfl (by kernel_rfl) (by kernel_rfl) (by kernel_rfl) (by kernel_rfl) (fun _ _ _ h => h) (Or.inl ⟨by rfl, ?_⟩) hp.kp ?_
              · intro w' hSw
                (try simp only [List.getElem_toArray, List.getElem_cons_succ, List.getElem_cons_zero])
                go_simp
              (try simp only [List.getElem_toArray, List.getElem_cons_succ, List.getElem_cons_zero, Act.put, List.setIfInBounds_toArray, List.set_cons_zero, List.set_cons_succ])
              refine wpAnyE_done (by kernel_rfl) ?_ _
              have hrl : MvRl B gp go ga l A cap op r1 b1 mv MA log w (.int .i64 0) w10 := ⟨0, Nat.zero_le _, by omega, rfl, hp, hst, ko, ka, hpi, by rw [HM.out]; rfl⟩
              have HRL := Lib.hid hrl
              have hzz : ga < gp + 1 ∨ gp < ga := by omega
              clear hrl hp hst ko ka hpi
              go_wp2_with fail
              go_loopw [9, 54, 55, 56, 57, 58, 59, 60, 61, 62, 63, 64, 65, 66] (fun _ i _ _ _ _ _ _ _ _ _ _ _ _ wr => MvRl B gp go ga l A cap op r1 b1 mv MA log w i wr) (fun _ i _ _ _ _ _ _ _ _ _ _ _ _ _ => ml - (intOf i).toNat)
              case atStart => exact HRL.out
              case round =>
                clear HRL
                obtain ⟨k, hk, hkl, rfl, hp, hst, ko, ka, hpi, hmm⟩ := hrel
                have hml := HML.out
                rw [hml] at hk
                have HMM := Lib.hid hmm
                clear hmm hml
                by_cases hlt : k < ml
                · obtain ⟨⟨m1, m2⟩, hm⟩ : ∃ x, mv[k]? = some x := ⟨_, List.getElem?_eq_getElem (by rw [HML.out]; exact hlt)⟩
                  obtain ⟨G, cur, hMA, hG, kG, hc⟩ := hpi (by rw [HML.out]; omega)
                  obtain ⟨d1, d2⟩ := hc k _ hm
                  have c1 := (kG.cell (k * 2)).trans d1
                  have c2 := (kG.cell (k * 2 + 1)).trans d2
                  have lG := kG.lt
                  have lp := hp.kp.lt
                  dsimp only at c1 c2
                  subst hMA
                  have hdr := drop_at hm
                  have HMM2 := Lib.hid (show pushM l op.a log = movM l r1 b1 op.a ((m1, m2) :: mv.drop (k + 1)) (3 + 2 * k) (log.drop (3 + 2 * k)) by rw [HMM.out, hdr])
                  have HPI := Lib.hid hpi
                  have g1 : (k : Int) < ml := by omega
                  have g2 : (k : Int) < mc := by omega
                  clear hm hdr hc d1 d2 hpi HMM
                  go_upto_region 10 with fail
                  have k9 := Bk.made wr 90 #[.int .i64 m1, .int .i64 m2]
                  replace hp := hp.keep (below_al (Below.refl _ _) (.cells #[.int .i64 m1, .int .i64 m2] 90))
                  replace hst := hst.trans (Stp.of_below gp (below_al (Below.refl _ _) (.cells #[.int .i64 m1, .int .i64 m2] 90)))
                  have HPI2 := Lib.hid (HPI.out.step (Stp.of_below gp (below_al (Below.refl _ _) (.cells #[.int .i64 m1, .int .i64 m2] 90))))
                  replace ko := ko.alloc (.cells #[.int .i64 m1, .int .i64 m2] 90)
                  replace ka := ka.alloc (.cells #[.int .i64 m1, .int .i64 m2] 90)
                  clear c1 c2 kG HPI
                  generalize wr.alloc (.cells #[.int .i64 m1, .int .i64 m2] 90) = v1 at *
                  obtain ⟨g9, hg9⟩ : ∃ g, wr.heap.size = g := ⟨_, rfl⟩
                  rw [hg9] at k9 ⊢
                  have z9 : gp < g9 := by omega
                  clear hg9
                  refine wp_region_E (S := fun w' => Bk w' g9 90 #[.int .i64 m1, .int .i64 m2]) (E := fun _ => false) (by kernel_rfl) ?_
                  replace hp := hp.drew
                  replace ko := ko.drew
                  replace ka := ka.drew
                  replace k9 := k9.drew
                  replace HPI2 := Lib.hid (HPI2.out.step (Stp.of_below gp (below_drew' (Below.refl v1.heap.size v1))))
                  replace hst := hst.trans (Stp.of_below gp (below_drew' (Below.refl v1.heap.size v1)))
                  generalize v1.drew = v2 at *
                  refine wpAnyE_take (i := 0) (oi := _) (v := .pointer (some ⟨gp, 0, none⟩)) rfl (by kernel_rfl) (by kernel_rfl) (by kernel_rfl) (by kernel_rfl) (fun _ _ _ h => h) (Or.inl ⟨by rfl, ?_⟩) k9 ?_
                  · intro w' hSw
                    (try simp only [List.getElem_toArray, List.getElem_cons_zero])
                    go_simp
                  (try simp only [List.getElem_toArray, List.getElem_cons_zero, Act.put, List.setIfInBounds_toArray, List.set_cons_zero, List.set_cons_succ])
                  refine wpAnyE_take (i := 1) (oi := _) (v := .pointer (some ⟨g9, 1, none⟩)) rfl (by kernel_rfl) (by kernel_rfl) (by kernel_rfl) (by kernel_rfl) (fun _ _ _ h => h) (Or.inl ⟨by rfl, ?_⟩) k9 ?_
                  · intro w' hSw
                    (try simp only [List.getElem_toArray, List.getElem_cons_succ, List.getElem_cons_zero])
                    go_simp
                  (try simp only [List.getElem_toArray, List.getElem_cons_succ, List.getElem_cons_zero, Act.put, List.setIfInBounds_toArray, List.set_cons_zero, List.set_cons_succ])
                  refine wpAnyE_take (i := 2) (oi := _) (v := .int .i64 m2) rfl (by kernel_rfl) (by kernel_rfl) (by kernel_rfl) (by kernel_rfl) (fun _ _ _ h => h) (Or.inl ⟨by rfl, ?_⟩) k9 ?_
                  · intro w' hSw
                    have s1 := hSw.cell 1
                    (try simp at s1)
                    (try simp only [List.getElem_toArray, List.getElem_cons_succ, List.getElem_cons_zero])
                    go_simp
                  (try simp only [List.getElem_toArray, List.getElem_cons_succ, List.getElem_cons_zero, Act.put, List.setIfInBounds_toArray, List.set_cons_zero, List.set_cons_succ])
                  refine wpAnyE_take (i := 3) (oi := _) (v := .pointer (some ⟨gp, 0, none⟩)) rfl (by kernel_rfl) (by kernel_rfl) (by kernel_rfl) (by kernel_rfl) (fun _ _ _ h => h) (Or.inl ⟨by rfl, ?_⟩) k9 ?_
                  · intro w' hSw
                    (try simp only [List.getElem_toArray, List.getElem_cons_succ, List.getElem_cons_zero])
                    go_simp
                  (try simp only [List.getElem_toArray, List.getElem_cons_succ, List.getElem_cons_zero, Act.put, List.setIfInBounds_toArray, List.set_cons_zero, List.set_cons_succ])
                  refine wpAnyE_take (i := 4) (oi := _) (v := .pointer (some ⟨g9, 0, none⟩)) rfl (by kernel_rfl) (by kernel_rfl) (by kernel_rfl) (by kernel_rfl) (fun _ _ _ h => h) (Or.inl ⟨by rfl, ?_⟩) k9 ?_
                  · intro w' hSw
                    (try simp only [List.getElem_toArray, List.getElem_cons_succ, List.getElem_cons_zero])
                    go_simp
                  (try simp only [List.getElem_toArray, List.getElem_cons_succ, List.getElem_cons_zero, Act.put, List.setIfInBounds_toArray, List.set_cons_zero, List.set_cons_succ])
                  refine wpAnyE_take (i := 5) (oi := _) (v := .int .i64 m1) rfl (by kernel_rfl) (by kernel_rfl) (by kernel_rfl) (by kernel_rfl) (fun _ _ _ h => h) (Or.inl ⟨by rfl, ?_⟩) k9 ?_
                  · intro w' hSw
                    have s1 := hSw.cell 0
                    (try simp at s1)
                    (try simp only [List.getElem_toArray, List.getElem_cons_succ, List.getElem_cons_zero])
                    go_simp
                  (try simp only [List.getElem_toArray, List.getElem_cons_succ, List.getElem_cons_zero, Act.put, List.setIfInBounds_toArray, List.set_cons_zero, List.set_cons_succ])
                  refine wpAnyE_one (i := 6) (o := _) (by kernel_rfl) rfl (fun K hK => ?_)
                  (try simp only [List.getElem_toArray, List.getElem_cons_succ, List.getElem_cons_zero])
                  go_simp
                  cases hx : log[3 + 2 * k]? with
                  | none =>
                    have hil : 3 + 2 * k = log.length := by have := List.getElem?_eq_none_iff.1 hx; omega
                    (with_reducible refine (load_asks m1 hp hil).mono ?_)
                    rintro e wq ⟨rfl, hb⟩
                    exact ⟨rfl, arPost_ask (HMM2.out.trans (mv0 hx)) (hst.trans (Stp.of_below gp hb))⟩
                  | some x =>
                    obtain ⟨x1, x2⟩ := x
                    (with_reducible refine (load_told m1 hp hx).mono ?_)
                    rintro e v11 ⟨rfl, hp2, hs2⟩
                    have hil_x : 3 + 2 * k < log.length := (List.getElem?_eq_some_iff.1 hx).1
                    have hin_x := HL.out _ _ hx
                    dsimp only at hin_x
                    have Hx := Lib.hid hx
                    replace hst := hst.trans hs2
                    replace ko := hs2.keep ko (by omega)
                    replace ka := hs2.keep ka (by omega)
                    replace k9 := hs2.keep k9 (by omega)
                    replace HPI2 := Lib.hid (HPI2.out.step hs2)
                    clear hs2 hp hx
                    have hp := hp2
                    clear hp2
                    refine hK.out _ _ (fun _ => k9) ?_
                    clear hK K
                    (try simp only [List.getElem_toArray, List.getElem_cons_succ, List.getElem_cons_zero, Act.put, List.setIfInBounds_toArray, List.set_cons_zero, List.set_cons_succ])
                    refine wpAnyE_one (i := 7) (o := _) (by kernel_rfl) rfl (fun K hK => ?_)
                    (try simp only [List.getElem_toArray, List.getElem_cons_succ, List.getElem_cons_zero])
                    go_simp
                    cases hx : log[3 + 2 * k + 1]? with
                    | none =>
                      have hil : 3 + 2 * k + 1 = log.length := by have := List.getElem?_eq_none_iff.1 hx; omega
                      (with_reducible refine (store_asks m2 x1 hp hil).mono ?_)
                      rintro e wq ⟨rfl, hb⟩
                      exact ⟨rfl, arPost_ask (HMM2.out.trans (mv1 Hx.out hx)) (hst.trans (Stp.of_below gp hb))⟩
                    | some x =>
                      obtain ⟨y1, y2⟩ := x
                      (with_reducible refine (store_told m2 x1 hp hx).mono ?_)
                      rintro e v12 ⟨rfl, hp2, hs2⟩
                      have hil_y : 3 + 2 * k + 1 < log.length := (List.getElem?_eq_some_iff.1 hx).1
                      have hin_y := HL.out _ _ hx
                      dsimp only at hin_y
                      have Hy := Lib.hid hx
                      replace hst := hst.trans hs2
                      replace ko := hs2.keep ko (by omega)
                      replace ka := hs2.keep ka (by omega)
                      replace k9 := hs2.keep k9 (by omega)
                      replace HPI2 := Lib.hid (HPI2.out.step hs2)
                      clear hs2 hp hx
                      have hp := hp2
                      clear hp2
                      refine hK.out _ _ (fun _ => k9) ?_
                      clear hK K
                      (try simp only [List.getElem_toArray, List.getElem_cons_succ, List.getElem_cons_zero, Act.put, List.setIfInBounds_toArray, List.set_cons_zero, List.set_cons_succ])
                      refine wpAnyE_done (by kernel_rfl) ?_ _
                      have hrl : MvRl B gp go ga l A cap op r1 b1 mv (some ⟨G, 0, none⟩) log w (.int .i64 ((k + 1 : Nat) : Int)) v12 := ⟨k + 1, by rw [HML.out]; omega, by omega, rfl, (show 3 + 2 * (k + 1) = 3 + 2 * k + 1 + 1 by omega) ▸ hp, hst, ko, ka, HPI2.out, by rw [HMM2.out, mv2 Hx.out Hy.out, show 3 + 2 * (k + 1) = 3 + 2 * k + 2 by omega]⟩
                      have HRL2 := Lib.hid hrl
                      clear hrl hp hst ko ka k9
                      have hkk : (k : Int) + 1 ≤ 1000000 := by omega
                      go_wp2_with fail
                      go_roundw
                      case rel => exact HRL2.out
                      case measure => simp [intOf]; omega
                · obtain rfl : k = ml := by omega
                  have HMM2 := Lib.hid (show pushM l op.a log = movM l r1 b1 op.a [] (3 + 2 * k) (log.drop (3 + 2 * k)) by rw [HMM.out, ← HML.out, List.drop_length])
                  clear HMM hpi
                  go_upto_region 13 with fail
                  go_wp2_with fail
                  (with_reducible refine (cellp_any 2 hp HF.out (by omega)).mono ?_)
                  rintro e w51 ⟨rfl, hb⟩
                  replace hp := hp.keep hb
                  replace hst := hst.trans (Stp.of_below gp hb)
                  replace ko := ko.keep hb
                  replace ka := ka.keep hb
                  clear hb
                  go_wp2_with fail
                  cases hx : log[3 + 2 * k]? with
                  | none =>
                    have hil : 3 + 2 * k = log.length := by have := List.getElem?_eq_none_iff.1 hx; omega
                    (with_reducible refine (store_asks (l.deque + 2) (r1 + 1) hp hil).mono ?_)
                    rintro e wq ⟨rfl, hb⟩
                    exact ⟨rfl, arPost_ask (HMM2.out.trans (mv3 hx)) (hst.trans (Stp.of_below gp hb))⟩
                  | some x =>
                    obtain ⟨z1, z2⟩ := x
                    (with_reducible refine (store_told (l.deque + 2) (r1 + 1) hp hx).mono ?_)
                    rintro e w52 ⟨rfl, hp2, hs2⟩
                    have hil_z : 3 + 2 * k < log.length := (List.getElem?_eq_some_iff.1 hx).1
                    have hin_z := HL.out _ _ hx
                    dsimp only at hin_z
                    have Hz := Lib.hid hx
                    replace hst := hst.trans hs2
                    replace ko := hs2.keep ko (by omega)
                    replace ka := hs2.keep ka (by omega)
                    clear hs2 hp hx
                    have hp := hp2
                    clear hp2
                    have HM3 := Lib.hid (HMM2.out.trans (mv4 Hz.out))
                    have hlog3 : 3 + 2 * k + 1 ≤ 1000 := by omega
                    go_upto_region 14 with fail
                    have qa := ka.cell 2
                    have la := ka.lt
                    simp at qa
                    refine wp_region_E (S := fun w' => Bk w' ga 39 (oprC op)) (E := fun _ => false) (by kernel_rfl) ?_
                    replace hp := hp.drew
                    replace ko := ko.drew
                    replace ka := ka.drew
                    replace hst := hst.trans (Stp.of_below gp (below_drew' (Below.refl w52.heap.size w52)))
                    clear qa la
                    generalize w52.drew = w53 at *
                    refine wpAnyE_take (i := 0) (oi := _) (v := .pointer (some ⟨gp, 0, none⟩)) rfl (by kernel_rfl) (by kernel_rfl) (by kernel_rfl) (by kernel_rfl) (fun _ _ _ h => h) (Or.inl ⟨by rfl, ?_⟩) ka ?_
                    · intro w' hSw
                      (try simp only [List.getElem_toArray, List.getElem_cons_zero])
                      go_simp
                    (try simp only [List.getElem_toArray, List.getElem_cons_zero, Act.put, List.setIfInBounds_toArray, List.set_cons_zero, List.set_cons_succ])
                    refine wpAnyE_take (i := 1) (oi := _) (v := .pointer (some ⟨gp, 0, none⟩)) rfl (by kernel_rfl) (by kernel_rfl) (by kernel_rfl) (by kernel_rfl) (fun _ _ _ h => h) (Or.inl ⟨by rfl, ?_⟩) ka ?_
                    · intro w' hSw
                      (try simp only [List.getElem_toArray, List.getElem_cons_succ, List.getElem_cons_zero])
                      go_simp
                    (try simp only [List.getElem_toArray, List.getElem_cons_succ, List.getElem_cons_zero, Act.put, List.setIfInBounds_toArray, List.set_cons_zero, List.set_cons_succ])
                    refine wpAnyE_take (i := 2) (oi := _) (v := .int .i64 (r1 + 1)) rfl (by kernel_rfl) (by kernel_rfl) (by kernel_rfl) (by kernel_rfl) (fun _ _ _ h => h) (Or.inl ⟨by rfl, ?_⟩) ka ?_
                    · intro w' hSw
                      (try simp only [List.getElem_toArray, List.getElem_cons_succ, List.getElem_cons_zero])
                      go_simp
                    (try simp only [List.getElem_toArray, List.getElem_cons_succ, List.getElem_cons_zero, Act.put, List.setIfInBounds_toArray, List.set_cons_zero, List.set_cons_succ])
                    refine wpAnyE_take (i := 3) (oi := _) (v := .int .i64 b1) rfl (by kernel_rfl) (by kernel_rfl) (by kernel_rfl) (by kernel_rfl) (fun _ _ _ h => h) (Or.inl ⟨by rfl, ?_⟩) ka ?_
                    · intro w' hSw
                      (try simp only [List.getElem_toArray, List.getElem_cons_succ, List.getElem_cons_zero])
                      go_simp
                    (try simp only [List.getElem_toArray, List.getElem_cons_succ, List.getElem_cons_zero, Act.put, List.setIfInBounds_toArray, List.set_cons_zero, List.set_cons_succ])
                    refine wpAnyE_take (i := 5) (oi := _) (v := .pointer (some ⟨ga, 2, none⟩)) rfl (by kernel_rfl) (by kernel_rfl) (by kernel_rfl) (by kernel_rfl) (fun _ _ _ h => h) (Or.inl ⟨by rfl, ?_⟩) ka ?_
                    · intro w' hSw
                      (try simp only [List.getElem_toArray, List.getElem_cons_succ, List.getElem_cons_zero])
                      go_simp
                    (try simp only [List.getElem_toArray, List.getElem_cons_succ, List.getElem_cons_zero, Act.put, List.setIfInBounds_toArray, List.set_cons_zero, List.set_cons_succ])
                    refine wpAnyE_take (i := 6) (oi := _) (v := .int .i64 op.a) rfl (by kernel_rfl) (by kernel_rfl) (by kernel_rfl) (by kernel_rfl) (fun _ _ _ h => h) (Or.inl ⟨by rfl, ?_⟩) ka ?_
                    · intro w' hSw
                      have s1 := hSw.cell 2
                      (try simp at s1)
                      (try simp only [List.getElem_toArray, List.getElem_cons_succ, List.getElem_cons_zero])
                      go_simp
                    (try simp only [List.getElem_toArray, List.getElem_cons_succ, List.getElem_cons_zero, Act.put, List.setIfInBounds_toArray, List.set_cons_zero, List.set_cons_succ])
                    refine wpAnyE_one (i := 4) (o := _) (by kernel_rfl) rfl (fun K hK => ?_)
                    (try simp only [List.getElem_toArray, List.getElem_cons_succ, List.getElem_cons_zero])
                    go_simp
                    (with_reducible refine (placep_any (r1 + 1) b1 hp HF.out).mono ?_)
                    rintro e w54 ⟨rfl, hb⟩
                    replace hp := hp.keep hb
                    replace hst := hst.trans (Stp.of_below gp hb)
                    replace ko := ko.keep hb
                    replace ka := ka.keep hb
                    clear hb
                    refine hK.out _ _ (fun _ => ka) ?_
                    clear hK K
                    (try simp only [List.getElem_toArray, List.getElem_cons_succ, List.getElem_cons_zero, Act.put, List.setIfInBounds_toArray, List.set_cons_zero, List.set_cons_succ])
                    refine wpAnyE_one (i := 7) (o := _) (by kernel_rfl) rfl (fun K hK => ?_)
                    (try simp only [List.getElem_toArray, List.getElem_cons_succ, List.getElem_cons_zero])
                    go_simp
                    cases hx : log[3 + 2 * k + 1]? with
                    | none =>
                      have hil : 3 + 2 * k + 1 = log.length := by have := List.getElem?_eq_none_iff.1 hx; omega
                      (with_reducible refine (store_asks (placeAt l 0 (r1 + 1) b1) op.a hp hil).mono ?_)
                      rintro e wq ⟨rfl, hb⟩
                      exact ⟨rfl, arPost_ask (HM3.out.trans (pt0 hx)) (hst.trans (Stp.of_below gp hb))⟩
                    | some x =>
                      obtain ⟨x1, x2⟩ := x
                      (with_reducible refine (store_told (placeAt l 0 (r1 + 1) b1) op.a hp hx).mono ?_)
                      rintro e w55 ⟨rfl, hp2, hs2⟩
                      have hil_x : 3 + 2 * k + 1 < log.length := (List.getElem?_eq_some_iff.1 hx).1
                      have hin_x := HL.out _ _ hx
                      dsimp only at hin_x
                      have Hx := Lib.hid hx
                      replace hst := hst.trans hs2
                      replace ko := hs2.keep ko (by omega)
                      replace ka := hs2.keep ka (by omega)
                      clear hs2 hp hx
                      have hp := hp2
                      clear hp2
                      refine hK.out _ _ (fun _ => ka) ?_
                      clear hK K
                      (try simp only [List.getElem_toArray, List.getElem_cons_succ, List.getElem_cons_zero, Act.put, List.setIfInBounds_toArray, List.set_cons_zero, List.set_cons_succ])
                      refine wpAnyE_done (by kernel_rfl) ?_ _
                      clear ka
                      go_wp2_with fail
                      (with_reducible refine (cellp_any 1 hp HF.out (by omega)).mono ?_)
                      rintro e w56 ⟨rfl, hb⟩
                      replace hp := hp.keep hb
                      replace hst := hst.trans (Stp.of_below gp hb)
                      replace ko := ko.keep hb
                      clear hb
                      go_wp2_with fail
                      cases hx : log[3 + 2 * k + 1 + 1]? with
                      | none =>
                        have hil : 3 + 2 * k + 1 + 1 = log.length := by have := List.getElem?_eq_none_iff.1 hx; omega
                        (with_reducible refine (store_asks (l.deque + 1) (b1 + 1) hp hil).mono ?_)
                        rintro e wq ⟨rfl, hb⟩
                        exact ⟨rfl, arPost_ask (HM3.out.trans (pt1 Hx.out hx)) (hst.trans (Stp.of_below gp hb))⟩
                      | some x =>
                        obtain ⟨y1, y2⟩ := x
                        (with_reducible refine (store_told (l.deque + 1) (b1 + 1) hp hx).mono ?_)
                        rintro e w57 ⟨rfl, hp2, hs2⟩
                        have hil_y : 3 + 2 * k + 1 + 1 < log.length := (List.getElem?_eq_some_iff.1 hx).1
                        have hin_y := HL.out _ _ hx
                        dsimp only at hin_y
                        have Hy := Lib.hid hx
                        replace hst := hst.trans hs2
                        replace ko := hs2.keep ko (by omega)
                        clear hs2 hp hx
                        have hp := hp2
                        clear hp2
                        go_wp2_with fail
                        (with_reducible refine (last_at (((3 + 2 * k + 1 : Nat) : Int) + 1) hp (by omega) (by omega) (by omega)).mono ?_)
                        rintro e wl ⟨rfl, hwl⟩
                        replace hwl := hwl.symm
                        subst hwl
                        go_wp2_with (first
                          | (refine wpList_store_rowTo rfl 50 (.tmp 4) (.tmp 90) rfl rfl go (outC 0 true 0 (((3 + 2 * k + 1 : Nat) : Int) + 1)) rfl rfl 50 outZ ko (by kernel_rfl) rfl (by simp [Value.oneCell']) ?_))
                        have kf := setRow_heap _ _ outZ (outC 0 true 0 (((3 + 2 * k + 1 : Nat) : Int) + 1)) 50 (0, 0) ko
                        have hstf := Stp.setRow' (cs := (outC 0 true 0 (((3 + 2 * k + 1 : Nat) : Int) + 1))) hst ko (by rw [HGO.out]; exact zgo)
                        exact bodyPost_ret (v := .agg (outC 0 true 0 (((3 + 2 * k + 1 : Nat) : Int) + 1))) (results_cell_row (p := 4) (ty := 50) rfl _ _ go 50 (outC 0 true 0 (((3 + 2 * k + 1 : Nat) : Int) + 1)) (0, 0) _ rfl kf Try.underlying50 rfl (by kernel_rfl)) rfl (arPost_out (HM3.out.trans (pt2 Hx.out Hy.out)) hstf)
end Go.Proofs.Ytdjglkpcdhkodaa
