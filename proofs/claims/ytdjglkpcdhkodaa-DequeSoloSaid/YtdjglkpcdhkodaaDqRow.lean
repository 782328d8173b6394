/- The reference's Row, of seat 0's deque. Printed by dqrow_gen.py. -/
import Derived.Test.YtdjglkpcdhkodaaRefB
import Derived.Test.YtdjglkpcdhkodaaRefO
import Derived.Test.YtdjglkpcdhkodaaDqEnd
namespace Go.Proofs.Ytdjglkpcdhkodaa
open Go.RowKit
set_option linter.unusedVariables false
attribute [local go_sem ↓] Go.wp_at_zero Go.wp_at_succ

theorem rat14_t (x : Int) (w : World) : Calls Try.prog 35 #[.int .i64 x, .bool true] w (IntSame x w) := by
  go_enter Try.func35, Try.ntmps35
  go_wp2
  go_ret
  exact ⟨rfl, rfl⟩
set_option maxRecDepth 100000 in
set_option maxHeartbeats 2000000 in
theorem rdeq_any (l : Ly) (b : Int) (w : World) (hd : l.deque = 19) (hs : l.c.seats = 3) (h0 : 0 ≤ b) (h1 : b ≤ 2) : Calls Try.prog 22 #[lyV l, .int .i64 0, .int .i64 b] w (IntBelow (19 + b) w) := by
  have ws0 : IntKind.i64.wrap (l.c.seats - 1) = l.c.seats - 1 := wrap_in _ (by omega) (by omega)
  have c0 : inB 0 (0) (l.c.seats - 1) = true := by simp [inB]; omega
  have c1 : inB b (0) (2) = true := by simp [inB]; omega
  have wa1 : IntKind.i64.wrap (l.deque + 0) = l.deque + 0 := wrap_in _ (by omega) (by omega)
  have wa1' : IntKind.i64.wrap l.deque = l.deque := wrap_in _ (by omega) (by omega)
  have wa2 : IntKind.i64.wrap (l.deque + 0 + b) = l.deque + 0 + b := wrap_in _ (by omega) (by omega)
  have wa2' : IntKind.i64.wrap (l.deque + b) = l.deque + b := wrap_in _ (by omega) (by omega)
  have HD := Lib.hid (And.intro hd hs)
  clear hd hs
  go_enter Try.func22, Try.ntmps22
  go_wp2_with fail
  go_quiet (first | (go_at_call 32; exact Calls.quiet_of_same (rin_any _ _ _ _)) | (go_at_call 35; exact Calls.quiet_of_same (rat14_t _ _)))
  go_wp2
  go_ret
  refine ⟨?_, below_dn (below_al (Below.refl _ _) _) _⟩
  rw [← HD.out.1]
  simp
  rw [show IntKind.i64.wrap 0 = 0 from rfl, Int.add_zero, wa1', wa2']
def AtPost (v : Int) (w : World) (e : Ending) (w' : World) : Prop := e = .returned (.tuple #[.int .i64 v, .bool true]) ∧ Below w.heap.size w w'
set_option maxHeartbeats 2000000 in
theorem rat17_any (m : List Int) (A : Option Addr) (c N k : Nat) (w : World) (hN : m.length = N) (h : Sl w w.heap.size A N (ints m)) (hk : k < N) : Calls Try.prog 21 #[.agg #[.slice A N c], .int .i64 k] w (AtPost (cel m k) w) := by
  obtain ⟨g, o, rfl, hg, hc⟩ := h.2 (by omega)
  have hx : (ints m)[k]? = some (.int .i64 (cel m k)) := by
    unfold cel ints
    rw [List.getElem?_map, List.getD_eq_getElem?_getD, Int.toNat_natCast, List.getElem?_eq_getElem (by omega)]
    rfl
  have hcell := ((below_al (Below.refl w.heap.size w) (.cells #[.slice (some ⟨g, o, none⟩) N c] 37)).cell (p := ⟨g, o + k, none⟩) hg).trans (hc k _ hx)
  have k0 := Bk.made w 37 #[.slice (some ⟨g, o, none⟩) N c]
  have hbl := below_al (Below.refl w.heap.size w) (.cells #[.slice (some ⟨g, o, none⟩) N c] 37)
  have q0 := k0.cell 0
  have l0 := k0.lt
  have HB := Lib.hid hbl
  clear hbl k0 hc hx h
  go_enter Try.func21, Try.ntmps21
  simp at q0
  go_wp2_with fail
  generalize w.alloc (.cells #[.slice (some ⟨g, o, none⟩) N c] 37) = w1 at *
  have g1 : decide ((k : Int) < 0) = false := by simp
  have g2 : decide ((N : Int) ≤ k) = false := by simp; omega
  have g2' : decide ((k : Int) ≥ N) = false := by simp; omega
  have g3 : (k : Int) < N := by omega
  go_wp2
  exact bodyPost_ret (v := .tuple #[.int .i64 (cel m k), .bool true]) (by simp [results, Try.results21, go_sem]) rfl ⟨rfl, HB.out⟩
theorem rat0_any (m : List Int) (A : Option Addr) (c N : Nat) (w : World) (hN : m.length = N) (hk : 21 < N) (h : Sl w w.heap.size A N (ints m)) : Calls Try.prog 21 #[.agg #[.slice A N c], .int .i64 19] w (AtPost (top m) w) := rat17_any m A c N 19 w hN h (by omega)
theorem rat1_any (m : List Int) (A : Option Addr) (c N : Nat) (w : World) (hN : m.length = N) (hk : 21 < N) (h : Sl w w.heap.size A N (ints m)) : Calls Try.prog 21 #[.agg #[.slice A N c], .int .i64 20] w (AtPost (bot m) w) := rat17_any m A c N 20 w hN h (by omega)
theorem rat2_any (m : List Int) (A : Option Addr) (c N : Nat) (w : World) (hN : m.length = N) (hk : 21 < N) (h : Sl w w.heap.size A N (ints m)) : Calls Try.prog 21 #[.agg #[.slice A N c], .int .i64 21] w (AtPost (whi m) w) := rat17_any m A c N 21 w hN h (by omega)
/-- What is needed of a memory, that its row be told. -/
structure RowOk (l : Ly) (sz : Nat) (m : List Int) : Prop where
  ml : m.length = sz
  t0 : 0 ≤ top m
  tb : top m ≤ bot m
  r0 : 0 ≤ whi m ∧ whi m < ringsN l.c.tasks
  sz : bot m - top m ≤ sizeN (whi m)
  b1 : bot m ≤ 1000000
theorem EndOk.row {l : Ly} {sz : Nat} {row0 : List Int} {t : TabD} (h : EndOk l sz row0 t) (ly : DLay l sz) : RowOk l sz t.m := by
  obtain ⟨pl, n, hd⟩ := h.ex
  obtain ⟨p, q, pre, post, ci, li, pm, _⟩ := hd.ex
  have hph := h.ph (who := 0) (by omega)
  have e0 : fli ((t.seat 0).ph l) = 0 := by rw [hph]; rfl
  have e1 : beff t.m ((t.seat 0).ph l) q = bot t.m := by rw [hph]; simp [beff, Ph.fl]
  have htb := ci.tb
  have hsz := ci.sz
  rw [e1] at htb
  rw [e0] at hsz
  have := hd.mb 20
  exact ⟨ci.ml, ci.t0, htb, ci.r0, by omega, by unfold bot; omega⟩
def RwPost (row : List Int) (w : World) (e : Ending) (w' : World) : Prop := ∃ A c, e = .returned (.slice A row.length c) ∧ OwnInts w' w.heap.size (.slice A row.length c) row ∧ Below w.heap.size w w'
def RRel (w4 : World) (row : List Int) (bL bM : Nat) (l : Ly) (A : Option Addr) (N c : Nat) (m : List Int) (v i : Value) (wr : World) : Prop :=
  ∃ k : Nat, k ≤ row.length ∧ i = .int .i64 k ∧ Below w4.heap.size w4 wr ∧ OwnInts wr w4.heap.size v (row.take k) ∧ (∃ G cc, v = .slice G k cc) ∧ Bk wr bL 31 (lyC l) ∧ Bk wr bM 37 #[.slice A N c]
theorem ringAt_ok {l : Ly} {sz : Nat} (ly : DLay l sz) {r : Int} (h0 : 0 ≤ r) (h1 : r < ringsN l.c.tasks) : ringAt l 0 r ≠ -1 := by
  rw [ringAt_eq l 0 r ⟨h0, h1, by omega, by rw [ly.st]; omega⟩, ly.rg]
  have : 0 ≤ aheadN r := by
    have hr := rings3 ly
    have h : r = 0 ∨ r = 1 ∨ r = 2 := by omega
    rcases h with rfl | rfl | rfl <;> decide
  have h2 : 0 ≤ aheadN (ringsN l.c.tasks) := by
    rcases rings_cases ly.tk.1 ly.tk.2 with ⟨_, e⟩ | ⟨_, e⟩ | ⟨_, e⟩ <;> omega
  omega
set_option maxRecDepth 1000000 in
set_option maxHeartbeats 8000000 in
theorem rrow_any (l : Ly) (sz : Nat) (m : List Int) (A : Option Addr) (c N : Nat) (w : World) (ly : DLay l sz) (f : DqLy l) (hr : RowOk l sz m) (hN : m.length = N) (h : Sl w w.heap.size A N (ints m)) (hs : sz ≤ 1000000) :
    Calls Try.prog 12 #[.agg (lyC l), .agg #[.slice A N c], .int .i64 0] w (RwPost (Lc m) w) := by
  obtain ⟨i0, hi0, hz0, hz1, hz2⟩ := info_parts int_info
  have hbig := ly.big
  have x0 := hr.ml
  have x1 := hr.t0
  have x2 := hr.tb
  have x3 := hr.sz
  have x4 := hr.b1
  have hNs : N = sz := by omega
  have hr0 := hr.r0
  have hr3 := rings3 ly
  have hah : 0 ≤ aheadN (ringsN l.c.tasks) := by rcases rings_cases ly.tk.1 ly.tk.2 with ⟨_, e⟩ | ⟨_, e⟩ | ⟨_, e⟩ <;> omega
  have hring := ringAt_ok ly hr.r0.1 hr.r0.2
  have hfit : (decide (ringAt l 0 (whi m) ≠ -1) && fitsB (whi m) (top m) (bot m)) = true := by
    simp [fitsB, hring]
    omega
  have hrow : (Lc m).length = (bot m - top m).toNat := by unfold Lc; rw [rowM_length]
  have hpl : ∀ k : Nat, (k : Int) < bot m - top m → ∃ j : Nat, placeAt l 0 (whi m) (top m + k) = (j : Int) ∧ j < N ∧ (Lc m)[k]? = some (cel m j) := by
    intro k hk
    have e := place_eq ly hr.r0.1 hr.r0.2 (i := top m + k) (by omega)
    have h3 := rings3 ly
    have p1 := plc_in hr.r0.1 (by omega) (top m + k)
    have p2 := plc_lt ly hr.r0.1 hr.r0.2 (top m + k)
    refine ⟨(plc (whi m) (top m + k)).toNat, by rw [e]; omega, by omega, ?_⟩
    unfold Lc rowM
    rw [List.getElem?_map, List.getElem?_range (by omega)]
    simp only [Option.map_some, rc]
    rw [show (((plc (whi m) (top m + k)).toNat : Nat) : Int) = plc (whi m) (top m + k) by omega]
  have HP := Lib.hid hpl
  have HFIT := Lib.hid hfit
  have HROW := Lib.hid hrow
  have HF := Lib.hid f
  have HLY := Lib.hid (And.intro ly.dq ly.st)
  have HS := Lib.hid (And.intro hN h)
  have hsub : IntKind.i64.wrap (bot m - top m) = bot m - top m := IntWalk.i64_in _ (by omega)
  obtain ⟨t, ht⟩ : ∃ t, top m = t := ⟨_, rfl⟩
  obtain ⟨b, hb⟩ : ∃ b, bot m = b := ⟨_, rfl⟩
  obtain ⟨r, hrr⟩ : ∃ r, whi m = r := ⟨_, rfl⟩
  rw [ht, hb] at hsub
  have HT := Lib.hid (And.intro ht (And.intro hb hrr))
  obtain ⟨row, hrw⟩ : ∃ row, Lc m = row := ⟨_, rfl⟩
  rw [hrw] at HP HROW ⊢
  rw [ht, hb] at HP HROW
  rw [hrr] at HP
  rw [ht, hb, hrr] at HFIT
  have n19 : 21 < N := by omega
  have n1 : 0 ≤ t ∧ t ≤ b ∧ b ≤ 1000000 := by omega
  clear hpl hfit hrow f hN h hr hring hr0 hr3 hah x0 x1 x2 x3 x4 ht hb hrr hrw hNs hbig ly
  have k0 := (Bk.made w 31 (lyC l)).alloc (.cells #[.slice A N c] 37)
  have k1 := Bk.new (w.alloc (.cells (lyC l) 31)) (g := w.heap.size + 1) (by simp) 37 #[.slice A N c]
  have hbl := below_al (below_al (Below.refl w.heap.size w) (.cells (lyC l) 31)) (.cells #[.slice A N c] 37)
  go_enter Try.func12, Try.ntmps12
  go_upto_region 1 with fail
  generalize (w.alloc (.cells (lyC l) 31)).alloc (.cells #[.slice A N c] 37) = w1 at *
  obtain ⟨bL, hbL⟩ : ∃ g, w.heap.size = g := ⟨_, rfl⟩
  obtain ⟨bM, hbM⟩ : ∃ g, w.heap.size + 1 = g := ⟨_, rfl⟩
  rw [hbM] at k1 ⊢
  have HBL := Lib.hid hbl
  rw [hbL] at k0 ⊢
  have HBB := Lib.hid (And.intro hbL hbM)
  clear hbl hbL hbM
  refine wp_region_E (S := fun w' => Below w1.drew.heap.size w1.drew w') (E := fun _ => false) (by kernel_rfl) ?_
  replace k0 := k0.drew
  replace k1 := k1.drew
  have HBL := Lib.hid HBL.out.drew
  generalize w1.drew = v1 at *
  refine wpAnyE_take (i := 0) (oi := _) (v := .agg #[.slice A N c]) rfl (by kernel_rfl) (by kernel_rfl) (by kernel_rfl) (by kernel_rfl) (fun _ _ _ h => h) (Or.inl ⟨by rfl, ?_⟩) (Below.refl _ _) ?_
  · intro w' hSw
    (try simp only [List.getElem_toArray, List.getElem_cons_zero])
    simp only [execOp, Instr.loadAt, Instr.sureAddr, Sem.run_bind, Sem.run_pure]
    rw [show (Act.eval _ (Operand.tmp 4)) = Value.pointer (some ⟨bM, 0, none⟩) from rfl]
    simp only [Sem.run_pure, Result.andThen_ok, run_loadVar_row w' bM 37 37 #[.slice A N c] (0, 0) _ (k1.keep hSw) Try.underlying37 rfl (by kernel_rfl)]
  (try simp only [List.getElem_toArray, List.getElem_cons_zero, Act.put, List.setIfInBounds_toArray, List.set_cons_zero, List.set_cons_succ])
  refine wpAnyE_take (i := 1) (oi := _) (v := .agg (lyC l)) rfl (by kernel_rfl) (by kernel_rfl) (by kernel_rfl) (by kernel_rfl) (fun _ _ _ h => h) (Or.inl ⟨by rfl, ?_⟩) (Below.refl _ _) ?_
  · intro w' hSw
    (try simp only [List.getElem_toArray, List.getElem_cons_succ, List.getElem_cons_zero])
    simp only [execOp, Instr.loadAt, Instr.sureAddr, Sem.run_bind, Sem.run_pure]
    rw [show (Act.eval _ (Operand.tmp 3)) = Value.pointer (some ⟨bL, 0, none⟩) from rfl]
    simp only [Sem.run_pure, Result.andThen_ok, run_loadVar_row w' bL 31 31 (lyC l) (0, 0) _ (k0.keep hSw) Try.underlying31 rfl (by kernel_rfl)]
  (try simp only [List.getElem_toArray, List.getElem_cons_succ, List.getElem_cons_zero, Act.put, List.setIfInBounds_toArray, List.set_cons_zero, List.set_cons_succ])
  refine wpAnyE_take (i := 2) (oi := _) (v := .int .i64 0) rfl (by kernel_rfl) (by kernel_rfl) (by kernel_rfl) (by kernel_rfl) (fun _ _ _ h => h) (Or.inl ⟨by rfl, ?_⟩) (Below.refl _ _) ?_
  · intro w' hSw
    (try simp only [List.getElem_toArray, List.getElem_cons_succ, List.getElem_cons_zero])
    go_simp
  (try simp only [List.getElem_toArray, List.getElem_cons_succ, List.getElem_cons_zero, Act.put, List.setIfInBounds_toArray, List.set_cons_zero, List.set_cons_succ])
  refine wpAnyE_one (i := 3) (o := _) (by kernel_rfl) rfl (fun K hK => ?_)
  (try simp only [List.getElem_toArray, List.getElem_cons_succ, List.getElem_cons_zero])
  go_simp
  (with_reducible refine (rdeq_any l 0 _ HLY.out.1 HLY.out.2 (by omega) (by omega)).mono ?_)
  rintro e u1 ⟨rfl, hb1⟩
  refine hK.out _ _ (fun _ => hb1) ?_
  clear hK K
  (try simp only [List.getElem_toArray, List.getElem_cons_succ, List.getElem_cons_zero, Act.put, List.setIfInBounds_toArray, List.set_cons_zero, List.set_cons_succ])
  refine wpAnyE_one (i := 4) (o := _) (by kernel_rfl) rfl (fun K hK => ?_)
  (try simp only [List.getElem_toArray, List.getElem_cons_succ, List.getElem_cons_zero])
  go_simp
  (with_reducible refine (rat0_any m A c N u1 HS.out.1 n19 ((HS.out.2.below (HBL.out.trans (hb1.mono HBL.out.size))).more (Below.size (HBL.out.trans (hb1.mono HBL.out.size))))).mono ?_)
  rintro e z1 ⟨rfl, hb2⟩
  rw [HT.out.1]
  replace hb1 := below_tr hb1 hb2
  clear hb2
  refine hK.out _ _ (fun _ => hb1) ?_
  clear hK K
  (try simp only [List.getElem_toArray, List.getElem_cons_succ, List.getElem_cons_zero, Act.put, List.setIfInBounds_toArray, List.set_cons_zero, List.set_cons_succ])
  refine wpAnyE_take (i := 5) (oi := _) (v := .tuple #[.int .i64 t, .bool true]) rfl (by kernel_rfl) (by kernel_rfl) (by kernel_rfl) (by kernel_rfl) (fun _ _ _ h => h) (Or.inl ⟨by rfl, ?_⟩) hb1 ?_
  · intro w' hSw
    (try simp only [List.getElem_toArray, List.getElem_cons_succ, List.getElem_cons_zero])
    go_simp
  (try simp only [List.getElem_toArray, List.getElem_cons_succ, List.getElem_cons_zero, Act.put, List.setIfInBounds_toArray, List.set_cons_zero, List.set_cons_succ])
  refine wpAnyE_take (i := 6) (oi := _) (v := .int .i64 t) rfl (by kernel_rfl) (by kernel_rfl) (by kernel_rfl) (by kernel_rfl) (fun _ _ _ h => h) (Or.inl ⟨by rfl, ?_⟩) hb1 ?_
  · intro w' hSw
    (try simp only [List.getElem_toArray, List.getElem_cons_succ, List.getElem_cons_zero])
    go_simp
  (try simp only [List.getElem_toArray, List.getElem_cons_succ, List.getElem_cons_zero, Act.put, List.setIfInBounds_toArray, List.set_cons_zero, List.set_cons_succ])
  refine wpAnyE_take (i := 7) (oi := _) (v := .bool true) rfl (by kernel_rfl) (by kernel_rfl) (by kernel_rfl) (by kernel_rfl) (fun _ _ _ h => h) (Or.inl ⟨by rfl, ?_⟩) hb1 ?_
  · intro w' hSw
    (try simp only [List.getElem_toArray, List.getElem_cons_succ, List.getElem_cons_zero])
    go_simp
  (try simp only [List.getElem_toArray, List.getElem_cons_succ, List.getElem_cons_zero, Act.put, List.setIfInBounds_toArray, List.set_cons_zero, List.set_cons_succ])
  refine wpAnyE_take (i := 8) (oi := _) (v := .int .i64 t) rfl (by kernel_rfl) (by kernel_rfl) (by kernel_rfl) (by kernel_rfl) (fun _ _ _ h => h) (Or.inl ⟨by rfl, ?_⟩) hb1 ?_
  · intro w' hSw
    (try simp only [List.getElem_toArray, List.getElem_cons_succ, List.getElem_cons_zero])
    go_simp
  (try simp only [List.getElem_toArray, List.getElem_cons_succ, List.getElem_cons_zero, Act.put, List.setIfInBounds_toArray, List.set_cons_zero, List.set_cons_succ])
  refine wpAnyE_take (i := 9) (oi := _) (v := .bool true) rfl (by kernel_rfl) (by kernel_rfl) (by kernel_rfl) (by kernel_rfl) (fun _ _ _ h => h) (Or.inl ⟨by rfl, ?_⟩) hb1 ?_
  · intro w' hSw
    (try simp only [List.getElem_toArray, List.getElem_cons_succ, List.getElem_cons_zero])
    go_simp
  (try simp only [List.getElem_toArray, List.getElem_cons_succ, List.getElem_cons_zero, Act.put, List.setIfInBounds_toArray, List.set_cons_zero, List.set_cons_succ])
  refine wpAnyE_done (by kernel_rfl) ?_ _
  replace k0 := k0.keep hb1
  replace k1 := k1.keep hb1
  have HBL := Lib.hid (HBL.out.trans (hb1.mono HBL.out.size))
  clear hb1
  generalize z1 = w2 at *
  go_upto_region 2 with fail
  refine wp_region_E (S := fun w' => Below w2.drew.heap.size w2.drew w') (E := fun _ => false) (by kernel_rfl) ?_
  replace k0 := k0.drew
  replace k1 := k1.drew
  have HBL := Lib.hid HBL.out.drew
  generalize w2.drew = v2 at *
  refine wpAnyE_take (i := 0) (oi := _) (v := .agg #[.slice A N c]) rfl (by kernel_rfl) (by kernel_rfl) (by kernel_rfl) (by kernel_rfl) (fun _ _ _ h => h) (Or.inl ⟨by rfl, ?_⟩) (Below.refl _ _) ?_
  · intro w' hSw
    (try simp only [List.getElem_toArray, List.getElem_cons_zero])
    simp only [execOp, Instr.loadAt, Instr.sureAddr, Sem.run_bind, Sem.run_pure]
    rw [show (Act.eval _ (Operand.tmp 4)) = Value.pointer (some ⟨bM, 0, none⟩) from rfl]
    simp only [Sem.run_pure, Result.andThen_ok, run_loadVar_row w' bM 37 37 #[.slice A N c] (0, 0) _ (k1.keep hSw) Try.underlying37 rfl (by kernel_rfl)]
  (try simp only [List.getElem_toArray, List.getElem_cons_zero, Act.put, List.setIfInBounds_toArray, List.set_cons_zero, List.set_cons_succ])
  refine wpAnyE_take (i := 1) (oi := _) (v := .agg (lyC l)) rfl (by kernel_rfl) (by kernel_rfl) (by kernel_rfl) (by kernel_rfl) (fun _ _ _ h => h) (Or.inl ⟨by rfl, ?_⟩) (Below.refl _ _) ?_
  · intro w' hSw
    (try simp only [List.getElem_toArray, List.getElem_cons_succ, List.getElem_cons_zero])
    simp only [execOp, Instr.loadAt, Instr.sureAddr, Sem.run_bind, Sem.run_pure]
    rw [show (Act.eval _ (Operand.tmp 3)) = Value.pointer (some ⟨bL, 0, none⟩) from rfl]
    simp only [Sem.run_pure, Result.andThen_ok, run_loadVar_row w' bL 31 31 (lyC l) (0, 0) _ (k0.keep hSw) Try.underlying31 rfl (by kernel_rfl)]
  (try simp only [List.getElem_toArray, List.getElem_cons_succ, List.getElem_cons_zero, Act.put, List.setIfInBounds_toArray, List.set_cons_zero, List.set_cons_succ])
  refine wpAnyE_take (i := 2) (oi := _) (v := .int .i64 0) rfl (by kernel_rfl) (by kernel_rfl) (by kernel_rfl) (by kernel_rfl) (fun _ _ _ h => h) (Or.inl ⟨by rfl, ?_⟩) (Below.refl _ _) ?_
  · intro w' hSw
    (try simp only [List.getElem_toArray, List.getElem_cons_succ, List.getElem_cons_zero])
    go_simp
  (try simp only [List.getElem_toArray, List.getElem_cons_succ, List.getElem_cons_zero, Act.put, List.setIfInBounds_toArray, List.set_cons_zero, List.set_cons_succ])
  refine wpAnyE_one (i := 3) (o := _) (by kernel_rfl) rfl (fun K hK => ?_)
  (try simp only [List.getElem_toArray, List.getElem_cons_succ, List.getElem_cons_zero])
  go_simp
  (with_reducible refine (rdeq_any l 1 _ HLY.out.1 HLY.out.2 (by omega) (by omega)).mono ?_)
  rintro e u2 ⟨rfl, hb1⟩
  refine hK.out _ _ (fun _ => hb1) ?_
  clear hK K
  (try simp only [List.getElem_toArray, List.getElem_cons_succ, List.getElem_cons_zero, Act.put, List.setIfInBounds_toArray, List.set_cons_zero, List.set_cons_succ])
  refine wpAnyE_one (i := 4) (o := _) (by kernel_rfl) rfl (fun K hK => ?_)
  (try simp only [List.getElem_toArray, List.getElem_cons_succ, List.getElem_cons_zero])
  go_simp
  (with_reducible refine (rat1_any m A c N u2 HS.out.1 n19 ((HS.out.2.below (HBL.out.trans (hb1.mono HBL.out.size))).more (Below.size (HBL.out.trans (hb1.mono HBL.out.size))))).mono ?_)
  rintro e z2 ⟨rfl, hb2⟩
  rw [HT.out.2.1]
  replace hb1 := below_tr hb1 hb2
  clear hb2
  refine hK.out _ _ (fun _ => hb1) ?_
  clear hK K
  (try simp only [List.getElem_toArray, List.getElem_cons_succ, List.getElem_cons_zero, Act.put, List.setIfInBounds_toArray, List.set_cons_zero, List.set_cons_succ])
  refine wpAnyE_take (i := 5) (oi := _) (v := .tuple #[.int .i64 b, .bool true]) rfl (by kernel_rfl) (by kernel_rfl) (by kernel_rfl) (by kernel_rfl) (fun _ _ _ h => h) (Or.inl ⟨by rfl, ?_⟩) hb1 ?_
  · intro w' hSw
    (try simp only [List.getElem_toArray, List.getElem_cons_succ, List.getElem_cons_zero])
    go_simp
  (try simp only [List.getElem_toArray, List.getElem_cons_succ, List.getElem_cons_zero, Act.put, List.setIfInBounds_toArray, List.set_cons_zero, List.set_cons_succ])
  refine wpAnyE_take (i := 6) (oi := _) (v := .int .i64 b) rfl (by kernel_rfl) (by kernel_rfl) (by kernel_rfl) (by kernel_rfl) (fun _ _ _ h => h) (Or.inl ⟨by rfl, ?_⟩) hb1 ?_
  · intro w' hSw
    (try simp only [List.getElem_toArray, List.getElem_cons_succ, List.getElem_cons_zero])
    go_simp
  (try simp only [List.getElem_toArray, List.getElem_cons_succ, List.getElem_cons_zero, Act.put, List.setIfInBounds_toArray, List.set_cons_zero, List.set_cons_succ])
  refine wpAnyE_take (i := 7) (oi := _) (v := .bool true) rfl (by kernel_rfl) (by kernel_rfl) (by kernel_rfl) (by kernel_rfl) (fun _ _ _ h => h) (Or.inl ⟨by rfl, ?_⟩) hb1 ?_
  · intro w' hSw
    (try simp only [List.getElem_toArray, List.getElem_cons_succ, List.getElem_cons_zero])
    go_simp
  (try simp only [List.getElem_toArray, List.getElem_cons_succ, List.getElem_cons_zero, Act.put, List.setIfInBounds_toArray, List.set_cons_zero, List.set_cons_succ])
  refine wpAnyE_take (i := 8) (oi := _) (v := .int .i64 b) rfl (by kernel_rfl) (by kernel_rfl) (by kernel_rfl) (by kernel_rfl) (fun _ _ _ h => h) (Or.inl ⟨by rfl, ?_⟩) hb1 ?_
  · intro w' hSw
    (try simp only [List.getElem_toArray, List.getElem_cons_succ, List.getElem_cons_zero])
    go_simp
  (try simp only [List.getElem_toArray, List.getElem_cons_succ, List.getElem_cons_zero, Act.put, List.setIfInBounds_toArray, List.set_cons_zero, List.set_cons_succ])
  refine wpAnyE_take (i := 9) (oi := _) (v := .bool true) rfl (by kernel_rfl) (by kernel_rfl) (by kernel_rfl) (by kernel_rfl) (fun _ _ _ h => h) (Or.inl ⟨by rfl, ?_⟩) hb1 ?_
  · intro w' hSw
    (try simp only [List.getElem_toArray, List.getElem_cons_succ, List.getElem_cons_zero])
    go_simp
  (try simp only [List.getElem_toArray, List.getElem_cons_succ, List.getElem_cons_zero, Act.put, List.setIfInBounds_toArray, List.set_cons_zero, List.set_cons_succ])
  refine wpAnyE_done (by kernel_rfl) ?_ _
  replace k0 := k0.keep hb1
  replace k1 := k1.keep hb1
  have HBL := Lib.hid (HBL.out.trans (hb1.mono HBL.out.size))
  clear hb1
  generalize z2 = w3 at *
  go_upto_region 3 with fail
  refine wp_region_E (S := fun w' => Below w3.drew.heap.size w3.drew w') (E := fun _ => false) (by kernel_rfl) ?_
  replace k0 := k0.drew
  replace k1 := k1.drew
  have HBL := Lib.hid HBL.out.drew
  generalize w3.drew = v3 at *
  refine wpAnyE_take (i := 0) (oi := _) (v := .agg #[.slice A N c]) rfl (by kernel_rfl) (by kernel_rfl) (by kernel_rfl) (by kernel_rfl) (fun _ _ _ h => h) (Or.inl ⟨by rfl, ?_⟩) (Below.refl _ _) ?_
  · intro w' hSw
    (try simp only [List.getElem_toArray, List.getElem_cons_zero])
    simp only [execOp, Instr.loadAt, Instr.sureAddr, Sem.run_bind, Sem.run_pure]
    rw [show (Act.eval _ (Operand.tmp 4)) = Value.pointer (some ⟨bM, 0, none⟩) from rfl]
    simp only [Sem.run_pure, Result.andThen_ok, run_loadVar_row w' bM 37 37 #[.slice A N c] (0, 0) _ (k1.keep hSw) Try.underlying37 rfl (by kernel_rfl)]
  (try simp only [List.getElem_toArray, List.getElem_cons_zero, Act.put, List.setIfInBounds_toArray, List.set_cons_zero, List.set_cons_succ])
  refine wpAnyE_take (i := 1) (oi := _) (v := .agg (lyC l)) rfl (by kernel_rfl) (by kernel_rfl) (by kernel_rfl) (by kernel_rfl) (fun _ _ _ h => h) (Or.inl ⟨by rfl, ?_⟩) (Below.refl _ _) ?_
  · intro w' hSw
    (try simp only [List.getElem_toArray, List.getElem_cons_succ, List.getElem_cons_zero])
    simp only [execOp, Instr.loadAt, Instr.sureAddr, Sem.run_bind, Sem.run_pure]
    rw [show (Act.eval _ (Operand.tmp 3)) = Value.pointer (some ⟨bL, 0, none⟩) from rfl]
    simp only [Sem.run_pure, Result.andThen_ok, run_loadVar_row w' bL 31 31 (lyC l) (0, 0) _ (k0.keep hSw) Try.underlying31 rfl (by kernel_rfl)]
  (try simp only [List.getElem_toArray, List.getElem_cons_succ, List.getElem_cons_zero, Act.put, List.setIfInBounds_toArray, List.set_cons_zero, List.set_cons_succ])
  refine wpAnyE_take (i := 2) (oi := _) (v := .int .i64 0) rfl (by kernel_rfl) (by kernel_rfl) (by kernel_rfl) (by kernel_rfl) (fun _ _ _ h => h) (Or.inl ⟨by rfl, ?_⟩) (Below.refl _ _) ?_
  · intro w' hSw
    (try simp only [List.getElem_toArray, List.getElem_cons_succ, List.getElem_cons_zero])
    go_simp
  (try simp only [List.getElem_toArray, List.getElem_cons_succ, List.getElem_cons_zero, Act.put, List.setIfInBounds_toArray, List.set_cons_zero, List.set_cons_succ])
  refine wpAnyE_one (i := 3) (o := _) (by kernel_rfl) rfl (fun K hK => ?_)
  (try simp only [List.getElem_toArray, List.getElem_cons_succ, List.getElem_cons_zero])
  go_simp
  (with_reducible refine (rdeq_any l 2 _ HLY.out.1 HLY.out.2 (by omega) (by omega)).mono ?_)
  rintro e u3 ⟨rfl, hb1⟩
  refine hK.out _ _ (fun _ => hb1) ?_
  clear hK K
  (try simp only [List.getElem_toArray, List.getElem_cons_succ, List.getElem_cons_zero, Act.put, List.setIfInBounds_toArray, List.set_cons_zero, List.set_cons_succ])
  refine wpAnyE_one (i := 4) (o := _) (by kernel_rfl) rfl (fun K hK => ?_)
  (try simp only [List.getElem_toArray, List.getElem_cons_succ, List.getElem_cons_zero])
  go_simp
  (with_reducible refine (rat2_any m A c N u3 HS.out.1 n19 ((HS.out.2.below (HBL.out.trans (hb1.mono HBL.out.size))).more (Below.size (HBL.out.trans (hb1.mono HBL.out.size))))).mono ?_)
  rintro e z3 ⟨rfl, hb2⟩
  rw [HT.out.2.2]
  replace hb1 := below_tr hb1 hb2
  clear hb2
  refine hK.out _ _ (fun _ => hb1) ?_
  clear hK K
  (try simp only [List.getElem_toArray, List.getElem_cons_succ, List.getElem_cons_zero, Act.put, List.setIfInBounds_toArray, List.set_cons_zero, List.set_cons_succ])
  refine wpAnyE_take (i := 5) (oi := _) (v := .tuple #[.int .i64 r, .bool true]) rfl (by kernel_rfl) (by kernel_rfl) (by kernel_rfl) (by kernel_rfl) (fun _ _ _ h => h) (Or.inl ⟨by rfl, ?_⟩) hb1 ?_
  · intro w' hSw
    (try simp only [List.getElem_toArray, List.getElem_cons_succ, List.getElem_cons_zero])
    go_simp
  (try simp only [List.getElem_toArray, List.getElem_cons_succ, List.getElem_cons_zero, Act.put, List.setIfInBounds_toArray, List.set_cons_zero, List.set_cons_succ])
  refine wpAnyE_take (i := 6) (oi := _) (v := .int .i64 r) rfl (by kernel_rfl) (by kernel_rfl) (by kernel_rfl) (by kernel_rfl) (fun _ _ _ h => h) (Or.inl ⟨by rfl, ?_⟩) hb1 ?_
  · intro w' hSw
    (try simp only [List.getElem_toArray, List.getElem_cons_succ, List.getElem_cons_zero])
    go_simp
  (try simp only [List.getElem_toArray, List.getElem_cons_succ, List.getElem_cons_zero, Act.put, List.setIfInBounds_toArray, List.set_cons_zero, List.set_cons_succ])
  refine wpAnyE_take (i := 7) (oi := _) (v := .bool true) rfl (by kernel_rfl) (by kernel_rfl) (by kernel_rfl) (by kernel_rfl) (fun _ _ _ h => h) (Or.inl ⟨by rfl, ?_⟩) hb1 ?_
  · intro w' hSw
    (try simp only [List.getElem_toArray, List.getElem_cons_succ, List.getElem_cons_zero])
    go_simp
  (try simp only [List.getElem_toArray, List.getElem_cons_succ, List.getElem_cons_zero, Act.put, List.setIfInBounds_toArray, List.set_cons_zero, List.set_cons_succ])
  refine wpAnyE_take (i := 8) (oi := _) (v := .int .i64 r) rfl (by kernel_rfl) (by kernel_rfl) (by kernel_rfl) (by kernel_rfl) (fun _ _ _ h => h) (Or.inl ⟨by rfl, ?_⟩) hb1 ?_
  · intro w' hSw
    (try simp only [List.getElem_toArray, List.getElem_cons_succ, List.getElem_cons_zero])
    go_simp
  (try simp only [List.getElem_toArray, List.getElem_cons_succ, List.getElem_cons_zero, Act.put, List.setIfInBounds_toArray, List.set_cons_zero, List.set_cons_succ])
  refine wpAnyE_take (i := 9) (oi := _) (v := .bool true) rfl (by kernel_rfl) (by kernel_rfl) (by kernel_rfl) (by kernel_rfl) (fun _ _ _ h => h) (Or.inl ⟨by rfl, ?_⟩) hb1 ?_
  · intro w' hSw
    (try simp only [List.getElem_toArray, List.getElem_cons_succ, List.getElem_cons_zero])
    go_simp
  (try simp only [List.getElem_toArray, List.getElem_cons_succ, List.getElem_cons_zero, Act.put, List.setIfInBounds_toArray, List.set_cons_zero, List.set_cons_succ])
  refine wpAnyE_done (by kernel_rfl) ?_ _
  replace k0 := k0.keep hb1
  replace k1 := k1.keep hb1
  have HBL := Lib.hid (HBL.out.trans (hb1.mono HBL.out.size))
  clear hb1
  generalize z3 = w4 at *
  go_wp2_with (refine wpList_load_row rfl 31 (.tmp 3) rfl bL rfl 31 (lyC l) (0, 0) _ k0 Try.underlying31 rfl (by kernel_rfl) ?_)
  (with_reducible refine (rfits_any l 0 r t b _ HF.out.fit (by omega)).mono ?_)
  rintro e w5 ⟨rfl, hb1⟩
  rw [HFIT.out]
  replace k0 := k0.keep hb1
  replace k1 := k1.keep hb1
  have HBL := Lib.hid (HBL.out.trans (hb1.mono HBL.out.size))
  clear hb1
  go_wp2_with fail
  go_loopw [14, 15] (fun v i wr => RRel w row bL bM l A N c m v i wr) (fun _ i _ => row.length - (intOf i).toNat)
  case atStart => exact ⟨0, Nat.zero_le _, rfl, HBL.out, World.ownsRow_nil _ _ _ _, ⟨none, 0, rfl⟩, k0, k1⟩
  case round =>
    clear k0 k1 HBL
    obtain ⟨k, hk, rfl, hbw, hown, hvv, k0, k1⟩ := hrel
    have hrl := HROW.out
    by_cases hlt : k < row.length
    · obtain ⟨j, hj1, hj2, hj3⟩ := HP.out k (by omega)
      have g0 : decide ((k : Int) < b - t) = true := by simp; omega
      have g0' : (k : Int) < b - t := by omega
      have hadd : IntKind.i64.wrap (t + (k : Int)) = t + k := IntWalk.i64_in _ (by omega)
      have HO := Lib.hid hown
      have HB := Lib.hid hbw
      have HJ := Lib.hid (And.intro hj1 hj3)
      clear hown hbw hj1 hj3
      go_upto_region 13 with fail
      refine wp_region_E (S := fun w' => Below wr.drew.heap.size wr.drew w') (E := fun _ => false) (by kernel_rfl) ?_
      replace k0 := k0.drew
      replace k1 := k1.drew
      have HB := Lib.hid HB.out.drew
      have hownd : OwnInts wr.drew w.heap.size _ (row.take k) := ownI_keep HO.out (below_drew' (Below.refl _ _))
      have HO := Lib.hid hownd
      clear hownd
      generalize wr.drew = v9 at *
      refine wpAnyE_take (i := 0) (oi := _) (v := .agg #[.slice A N c]) rfl (by kernel_rfl) (by kernel_rfl) (by kernel_rfl) (by kernel_rfl) (fun _ _ _ h => h) (Or.inl ⟨by rfl, ?_⟩) (Below.refl _ _) ?_
      · intro w' hSw
        (try simp only [List.getElem_toArray, List.getElem_cons_zero])
        simp only [execOp, Instr.loadAt, Instr.sureAddr, Sem.run_bind, Sem.run_pure]
        rw [show (Act.eval _ (Operand.tmp 4)) = Value.pointer (some ⟨bM, 0, none⟩) from rfl]
        simp only [Sem.run_pure, Result.andThen_ok, run_loadVar_row w' bM 37 37 #[.slice A N c] (0, 0) _ (k1.keep hSw) Try.underlying37 rfl (by kernel_rfl)]
      (try simp only [List.getElem_toArray, List.getElem_cons_zero, Act.put, List.setIfInBounds_toArray, List.set_cons_zero, List.set_cons_succ])
      refine wpAnyE_take (i := 1) (oi := _) (v := .agg (lyC l)) rfl (by kernel_rfl) (by kernel_rfl) (by kernel_rfl) (by kernel_rfl) (fun _ _ _ h => h) (Or.inl ⟨by rfl, ?_⟩) (Below.refl _ _) ?_
      · intro w' hSw
        (try simp only [List.getElem_toArray, List.getElem_cons_succ, List.getElem_cons_zero])
        simp only [execOp, Instr.loadAt, Instr.sureAddr, Sem.run_bind, Sem.run_pure]
        rw [show (Act.eval _ (Operand.tmp 3)) = Value.pointer (some ⟨bL, 0, none⟩) from rfl]
        simp only [Sem.run_pure, Result.andThen_ok, run_loadVar_row w' bL 31 31 (lyC l) (0, 0) _ (k0.keep hSw) Try.underlying31 rfl (by kernel_rfl)]
      (try simp only [List.getElem_toArray, List.getElem_cons_succ, List.getElem_cons_zero, Act.put, List.setIfInBounds_toArray, List.set_cons_zero, List.set_cons_succ])
      refine wpAnyE_take (i := 2) (oi := _) (v := .int .i64 0) rfl (by kernel_rfl) (by kernel_rfl) (by kernel_rfl) (by kernel_rfl) (fun _ _ _ h => h) (Or.inl ⟨by rfl, ?_⟩) (Below.refl _ _) ?_
      · intro w' hSw
        (try simp only [List.getElem_toArray, List.getElem_cons_succ, List.getElem_cons_zero])
        go_simp
      (try simp only [List.getElem_toArray, List.getElem_cons_succ, List.getElem_cons_zero, Act.put, List.setIfInBounds_toArray, List.set_cons_zero, List.set_cons_succ])
      refine wpAnyE_take (i := 3) (oi := _) (v := .int .i64 r) rfl (by kernel_rfl) (by kernel_rfl) (by kernel_rfl) (by kernel_rfl) (fun _ _ _ h => h) (Or.inl ⟨by rfl, ?_⟩) (Below.refl _ _) ?_
      · intro w' hSw
        (try simp only [List.getElem_toArray, List.getElem_cons_succ, List.getElem_cons_zero])
        go_simp
      (try simp only [List.getElem_toArray, List.getElem_cons_succ, List.getElem_cons_zero, Act.put, List.setIfInBounds_toArray, List.set_cons_zero, List.set_cons_succ])
      refine wpAnyE_take (i := 4) (oi := _) (v := .int .i64 t) rfl (by kernel_rfl) (by kernel_rfl) (by kernel_rfl) (by kernel_rfl) (fun _ _ _ h => h) (Or.inl ⟨by rfl, ?_⟩) (Below.refl _ _) ?_
      · intro w' hSw
        (try simp only [List.getElem_toArray, List.getElem_cons_succ, List.getElem_cons_zero])
        go_simp
      (try simp only [List.getElem_toArray, List.getElem_cons_succ, List.getElem_cons_zero, Act.put, List.setIfInBounds_toArray, List.set_cons_zero, List.set_cons_succ])
      refine wpAnyE_take (i := 5) (oi := _) (v := .int .i64 (k : Nat)) rfl (by kernel_rfl) (by kernel_rfl) (by kernel_rfl) (by kernel_rfl) (fun _ _ _ h => h) (Or.inl ⟨by rfl, ?_⟩) (Below.refl _ _) ?_
      · intro w' hSw
        (try simp only [List.getElem_toArray, List.getElem_cons_succ, List.getElem_cons_zero])
        go_simp
      (try simp only [List.getElem_toArray, List.getElem_cons_succ, List.getElem_cons_zero, Act.put, List.setIfInBounds_toArray, List.set_cons_zero, List.set_cons_succ])
      refine wpAnyE_take (i := 6) (oi := _) (v := .int .i64 (t + k)) rfl (by kernel_rfl) (by kernel_rfl) (by kernel_rfl) (by kernel_rfl) (fun _ _ _ h => h) (Or.inl ⟨by rfl, ?_⟩) (Below.refl _ _) ?_
      · intro w' hSw
        (try simp only [List.getElem_toArray, List.getElem_cons_succ, List.getElem_cons_zero])
        go_simp
      (try simp only [List.getElem_toArray, List.getElem_cons_succ, List.getElem_cons_zero, Act.put, List.setIfInBounds_toArray, List.set_cons_zero, List.set_cons_succ])
      refine wpAnyE_one (i := 7) (o := _) (by kernel_rfl) rfl (fun K hK => ?_)
      (try simp only [List.getElem_toArray, List.getElem_cons_succ, List.getElem_cons_zero])
      go_simp
      (with_reducible refine (rplace_any l 0 r (t + k) _ HF.out.fit).mono ?_)
      rintro e u9 ⟨rfl, hb1⟩
      rw [HJ.out.1]
      refine hK.out _ _ (fun _ => hb1) ?_
      clear hK K
      (try simp only [List.getElem_toArray, List.getElem_cons_succ, List.getElem_cons_zero, Act.put, List.setIfInBounds_toArray, List.set_cons_zero, List.set_cons_succ])
      refine wpAnyE_one (i := 8) (o := _) (by kernel_rfl) rfl (fun K hK => ?_)
      (try simp only [List.getElem_toArray, List.getElem_cons_succ, List.getElem_cons_zero])
      go_simp
      (with_reducible refine (rat17_any m A c N j u9 HS.out.1 ((HS.out.2.below (HB.out.trans (hb1.mono HB.out.size))).more (Below.size (HB.out.trans (hb1.mono HB.out.size)))) hj2).mono ?_)
      rintro e z9 ⟨rfl, hb2⟩
      replace hb1 := below_tr hb1 hb2
      clear hb2
      refine hK.out _ _ (fun _ => hb1) ?_
      clear hK K
      (try simp only [List.getElem_toArray, List.getElem_cons_succ, List.getElem_cons_zero, Act.put, List.setIfInBounds_toArray, List.set_cons_zero, List.set_cons_succ])
      refine wpAnyE_take (i := 9) (oi := _) (v := .tuple #[.int .i64 (cel m j), .bool true]) rfl (by kernel_rfl) (by kernel_rfl) (by kernel_rfl) (by kernel_rfl) (fun _ _ _ h => h) (Or.inl ⟨by rfl, ?_⟩) hb1 ?_
      · intro w' hSw
        (try simp only [List.getElem_toArray, List.getElem_cons_succ, List.getElem_cons_zero])
        go_simp
      (try simp only [List.getElem_toArray, List.getElem_cons_succ, List.getElem_cons_zero, Act.put, List.setIfInBounds_toArray, List.set_cons_zero, List.set_cons_succ])
      refine wpAnyE_take (i := 10) (oi := _) (v := .int .i64 (cel m j)) rfl (by kernel_rfl) (by kernel_rfl) (by kernel_rfl) (by kernel_rfl) (fun _ _ _ h => h) (Or.inl ⟨by rfl, ?_⟩) hb1 ?_
      · intro w' hSw
        (try simp only [List.getElem_toArray, List.getElem_cons_succ, List.getElem_cons_zero])
        go_simp
      (try simp only [List.getElem_toArray, List.getElem_cons_succ, List.getElem_cons_zero, Act.put, List.setIfInBounds_toArray, List.set_cons_zero, List.set_cons_succ])
      refine wpAnyE_take (i := 11) (oi := _) (v := .bool true) rfl (by kernel_rfl) (by kernel_rfl) (by kernel_rfl) (by kernel_rfl) (fun _ _ _ h => h) (Or.inl ⟨by rfl, ?_⟩) hb1 ?_
      · intro w' hSw
        (try simp only [List.getElem_toArray, List.getElem_cons_succ, List.getElem_cons_zero])
        go_simp
      (try simp only [List.getElem_toArray, List.getElem_cons_succ, List.getElem_cons_zero, Act.put, List.setIfInBounds_toArray, List.set_cons_zero, List.set_cons_succ])
      refine wpAnyE_take (i := 12) (oi := _) (v := .int .i64 (cel m j)) rfl (by kernel_rfl) (by kernel_rfl) (by kernel_rfl) (by kernel_rfl) (fun _ _ _ h => h) (Or.inl ⟨by rfl, ?_⟩) hb1 ?_
      · intro w' hSw
        (try simp only [List.getElem_toArray, List.getElem_cons_succ, List.getElem_cons_zero])
        go_simp
      (try simp only [List.getElem_toArray, List.getElem_cons_succ, List.getElem_cons_zero, Act.put, List.setIfInBounds_toArray, List.set_cons_zero, List.set_cons_succ])
      refine wpAnyE_take (i := 13) (oi := _) (v := .bool true) rfl (by kernel_rfl) (by kernel_rfl) (by kernel_rfl) (by kernel_rfl) (fun _ _ _ h => h) (Or.inl ⟨by rfl, ?_⟩) hb1 ?_
      · intro w' hSw
        (try simp only [List.getElem_toArray, List.getElem_cons_succ, List.getElem_cons_zero])
        go_simp
      (try simp only [List.getElem_toArray, List.getElem_cons_succ, List.getElem_cons_zero, Act.put, List.setIfInBounds_toArray, List.set_cons_zero, List.set_cons_succ])
      refine wpAnyE_done (by kernel_rfl) ?_ _
      have hown9 := ownI_keep HO.out hb1
      replace k0 := k0.keep hb1
      replace k1 := k1.keep hb1
      have hB9 := HB.out.trans (hb1.mono HB.out.size)
      clear hb1 HO HB
      obtain ⟨G, cc, rfl⟩ := hvv
      have hlk : (row.take k).length = k := by simp; omega
      have kr := Bk.made z9 3 #[.int .i64 (cel m j)]
      have hbr := below_al (Below.refl z9.heap.size z9) (.cells #[.int .i64 (cel m j)] 3)
      have hown10 := ownI_keep hown9 hbr
      replace k0 := k0.keep hbr
      replace k1 := k1.keep hbr
      have hB10 := hB9.trans (hbr.mono hB9.size)
      have HK := Lib.hid (And.intro k0 (And.intro k1 hB10))
      clear k0 k1 hown9 hB9 hbr
      have hown11 : (z9.alloc (.cells #[.int .i64 (cel m j)] 3)).ownsRow w.heap.size 3 1 (.slice G k cc) k (ints (row.take k)) := by
        have h1 : World.ownsRow (z9.alloc (.cells #[.int .i64 (cel m j)] 3)) w.heap.size 3 1 (.slice G k cc) (row.take k).length (ints (row.take k)) := hown10
        rw [hlk] at h1
        exact h1
      clear hown10
      go_wp2_with (at_builtin; go_must (refine wpList_append_own_at _ rfl (.tmp 81) (.tmp 83) _ rfl w.heap.size 3 i0 _ 1 8 Try.underlying35 hi0 hz0 hz1 hz2 rfl (by omega) (.slice G k cc) k (ints (row.take k)) rfl hown11 ⟨z9.heap.size, 0, none⟩ 1 1 [.int .i64 (cel m j)] rfl rfl (fun j u hu => by rw [Go.WideShapes.add_plain, Nat.zero_add, kr.cell j]; simpa using hu) (by simp [Value.oneCell']) (by simp only [maxLen]; omega) (by omega) HK.out.2.2.size ?_; intro v9' w7 hrow7 hgrow7 _ _))
      have hgk := keptT_grown hown11 hgrow7
      have hbg := below_grow (Below.refl w.heap.size _) hown11 hgrow7 HK.out.2.2.size (Nat.le_refl _)
      obtain ⟨k0, k1, hB10⟩ := HK.out
      have hnx : row.take (k + 1) = row.take k ++ [cel m j] := by rw [List.take_add_one, HJ.out.2]; rfl
      have hrl : RRel w row bL bM l A N c m v9' (.int .i64 ((k + 1 : Nat) : Int)) w7 := ⟨k + 1, by omega, rfl, hB10.trans hbg, by
        rw [hnx]
        have e1 : ints (row.take k ++ [cel m j]) = ints (row.take k) ++ [.int .i64 (cel m j)] := by simp [ints]
        unfold OwnInts
        rw [e1, List.length_append, hlk]
        exact hrow7, own_slice hrow7, k0.keptT hgk (by decide), k1.keptT hgk (by decide)⟩
      have HRL := Lib.hid hrl
      clear hrl k0 k1 hB10 HK hgk hbg hrow7 hgrow7 hown11 kr
      go_wp2_with fail
      go_roundw
      case rel => exact HRL.out
      case measure => simp [intOf]; omega
    · obtain rfl : k = row.length := by omega
      have g0 : decide ((row.length : Int) < b - t) = false := by simp; omega
      have HO := Lib.hid (And.intro hown hbw)
      clear hown hbw k0 k1
      obtain ⟨G, cc, rfl⟩ := hvv
      go_wp2_with fail
      go_ret
      have h1 := HO.out.1
      rw [List.take_length] at h1
      exact ⟨G, cc, rfl, h1, HO.out.2⟩
end Go.Proofs.Ytdjglkpcdhkodaa
