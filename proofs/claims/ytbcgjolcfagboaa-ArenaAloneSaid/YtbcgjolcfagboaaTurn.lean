/- law15's turn. Printed by turn_gen.py. -/
import Derived.Test.YtbcgjolcfagboaaTab
namespace Go.Proofs.Ytbcgjolcfagboaa
open Go.RowKit
set_option linter.unusedVariables false
attribute [local go_sem ↓] Go.wp_at_zero Go.wp_at_succ

abbrev stepC (s : StepA) : Array Value := #[.int .i64 (s.who : Nat), .int .i64 s.op.kind, .int .i64 s.op.obj, .int .i64 s.op.a, .int .i64 s.op.b, .int .i64 s.acc.kind, .int .i64 s.acc.cell, .int .i64 s.acc.old, .int .i64 s.acc.new, .int .i64 s.res.1, .bool s.res.2, .bool s.done, .int .i64 s.val, .bool s.is, .int .i64 s.err, .int .i64 s.point, .slice none 0 0]
def step0 : StepA := ⟨0, op0, ⟨0, 0, 0, 0⟩, (0, false), false, 0, false, 0, 0⟩
abbrev stepZ : Array Value := #[.int .i64 0, .int .i64 0, .int .i64 0, .int .i64 0, .int .i64 0, .int .i64 0, .int .i64 0, .int .i64 0, .int .i64 0, .int .i64 0, .bool false, .bool false, .int .i64 0, .bool false, .int .i64 0, .int .i64 0, .slice none 0 0]
/-- Sizes that a turn needs. -/
structure TOk (t : TabA) : Prop where
  ml : t.m.length ≤ 1000
  seat : ∀ s ∈ t.seats, s.log.length ≤ 900 ∧ s.next ≤ 1000 ∧ s.has.length ≤ 900 ∧ s.op.a ≤ 65536 ∧ ∀ z ∈ s.has, z ≤ 65536
def TurnPost (gt go gl gn gh n : Nat) (r : TabA × Option StepA) (w : World) (e : Ending) (w' : World) : Prop :=
  e = .returned (.tuple #[.agg (stepC (r.2.getD step0)), .bool r.2.isSome]) ∧ TRep w' gt go gl gn gh n r.1 ∧ StpL [gt, go, gl, gn, gh] w w'
theorem below_setRowB {B : Nat} {a w : World} (h : Below B a w) {g : Nat} (hg : B ≤ g) (cs : Array Value) : Below B a (w.setRow g cs) := ⟨h.os, h.tape, h.output, by have := h.size; simpa [World.setRow] using this, fun b hb => (setRow_other _ g b _ (by omega)).trans (h.block b hb)⟩
/-- What Next tells, in letters. -/
def AnsIs (r : Ans) (k c o v val : Int) (is : Bool) (err pt : Int) (dn : Bool) : Prop :=
  match r with
  | .ask k' c' o' v' => (k = k' ∧ c = c' ∧ o = o' ∧ v = v') ∧ val = 0 ∧ is = false ∧ err = 0 ∧ pt = 0 ∧ dn = false
  | .out val' is' err' pt' => (k = 0 ∧ c = 0 ∧ o = 0 ∧ v = 0) ∧ val = val' ∧ is = is' ∧ err = err' ∧ pt = pt' ∧ dn = true
theorem ansIs_of (r : Ans) : ∃ k c o v val is err pt dn, AnsIs r k c o v val is err pt dn := by
  cases r with
  | ask k c o v => exact ⟨k, c, o, v, 0, false, 0, 0, false, ⟨rfl, rfl, rfl, rfl⟩, rfl, rfl, rfl, rfl, rfl⟩
  | out val is err pt => exact ⟨0, 0, 0, 0, val, is, err, pt, true, ⟨rfl, rfl, rfl, rfl⟩, rfl, rfl, rfl, rfl, rfl⟩
theorem ansIs_post {r : Ans} {k c o v val : Int} {is : Bool} {err pt : Int} {dn : Bool} (h : AnsIs r k c o v val is err pt dn) {w : World} {e : Ending} {w' : World} (hp : NextPost r w e w') : e = .returned (.tuple #[.agg (accC k c o v), .agg (outC val is err pt), .bool dn]) ∧ Below w.heap.size w w' := by
  cases r with
  | ask k' c' o' v' => obtain ⟨⟨rfl, rfl, rfl, rfl⟩, rfl, rfl, rfl, rfl, rfl⟩ := h; exact hp
  | out val' is' err' pt' => obtain ⟨⟨rfl, rfl, rfl, rfl⟩, rfl, rfl, rfl, rfl, rfl⟩ := h; exact hp
theorem keptT_row {w : World} {g : Nat} {t : TypeId} {old cs : Array Value} (k : Bk w g t old) : KeptT t w (w.setRow g cs) := by
  intro b cs' t' fr h ht
  rw [setRow_other _ g b _ (fun e => by subst e; rw [Bk, h] at k; injection k with k; injection k with _ k _; exact ht k)]
  exact h
theorem wake_ok (want : List Nat) {s : SeatA} (h : s.log.length ≤ 900 ∧ s.next ≤ 1000 ∧ s.has.length ≤ 900 ∧ s.op.a ≤ 65536 ∧ ∀ z ∈ s.has, z ≤ 65536) :
    (wakeR want s).log.length ≤ 900 ∧ (wakeR want s).has.length ≤ 900 ∧ (wakeR want s).op.a ≤ 65536 ∧ (wakeR want s).next ≤ 1001 := by
  obtain ⟨h1, h2, h3, h4, h5⟩ := h
  unfold wakeR
  split
  · unfold wishR
    split
    · exact ⟨by simp, h3, by simp, by dsimp only; omega⟩
    · split
      · rename_i x hx hg
        refine ⟨by simp, by simp; omega, ?_, by dsimp only; omega⟩
        have hlt : x / 3 % s.has.length < s.has.length := Nat.mod_lt _ hg.2
        dsimp only
        rw [List.getD_eq_getElem?_getD, List.getElem?_eq_getElem hlt]
        exact h5 _ (List.getElem_mem hlt)
      · exact ⟨by simp, h3, by simp, by dsimp only; omega⟩
  · exact ⟨h1, h3, h4, by omega⟩
def NxRel (k c o v val : Int) (is : Bool) (err pt : Int) (dn : Bool) (w2 : World) (v11 v12 v13 : Value) (wx : World) : Prop :=
  ∃ g1 g2, v11 = ptr g1 ∧ v12 = ptr g2 ∧ v13 = .bool dn ∧ w2.heap.size ≤ g1 ∧ w2.heap.size ≤ g2 ∧ g1 ≠ g2 ∧ Below w2.heap.size w2 wx ∧ Bk wx g1 41 (accC k c o v) ∧ Bk wx g2 47 (outC val is err pt)
theorem resCells_get (l : List (Int × Bool)) : ∀ (k : Nat) (r : Int × Bool), l[k]? = some r → (resCells l)[k * 2]? = some (.int .i64 r.1) ∧ (resCells l)[k * 2 + 1]? = some (.bool r.2) := by
  induction l with
  | nil => intro k r h; simp at h
  | cons a l ih =>
    intro k r h
    have e : resCells (a :: l) = [.int .i64 a.1, .bool a.2] ++ resCells l := rfl
    rw [e]
    cases k with
    | zero =>
      simp only [List.getElem?_cons_zero, Option.some.injEq] at h
      subst h
      simp
    | succ k =>
      simp only [List.getElem?_cons_succ] at h
      obtain ⟨h1, h2⟩ := ih k r h
      rw [List.getElem?_append_right (by simp; omega), List.getElem?_append_right (by simp; omega)]
      refine ⟨?_, ?_⟩
      · rw [← h1]; congr 1; simp; omega
      · rw [← h2]; congr 1; simp; omega
def DoRel (a : Acc) (m : List Int) (w2 : World) (v14 v15 v16 : Value) (wx : World) : Prop :=
  ∃ g3 g4 g cap, v14 = ptr g3 ∧ v15 = ptr g4 ∧ v16 = .int .i64 0 ∧ w2.heap.size ≤ g3 ∧ w2.heap.size ≤ g4 ∧ g3 ≠ g4 ∧ Below w2.heap.size w2 wx ∧ Bk wx g3 53 #[.slice (some ⟨g, 0, none⟩) m.length cap] ∧ Bk wx g4 43 #[.int .i64 (a.had m), .bool (a.ok (a.had m))] ∧ OwnInts wx 0 (.slice (some ⟨g, 0, none⟩) m.length cap) (a.make m) ∧ w2.heap.size ≤ g
theorem resCells_one (l : List (Int × Bool)) : ∀ v ∈ resCells l, v.oneCell' = true := by
  intro v hv
  obtain ⟨u, _, hu⟩ := List.mem_flatMap.1 hv
  simp at hu
  rcases hu with rfl | rfl <;> rfl
theorem resCells_snoc (l : List (Int × Bool)) (r : Int × Bool) : resCells (l ++ [r]) = resCells l ++ [.int .i64 r.1, .bool r.2] := by simp [resCells]
theorem res_rowT : ∃ i, RowT Try.prog 78 43 i (.agg #[.int .i64 0, .bool false]) 2 16 := RowT.of Try.underlying78 (by kernel_rfl) (by kernel_rfl) (by decide)
theorem own_slRes {w : World} {base cap : Nat} {G : Option Addr} {log : Log} (h : OwnRes w base (.slice G log.length cap) log) : SlRes w w.heap.size G log := by
  intro hl
  obtain ⟨hl1, hs⟩ := Src.own h (Nat.le_refl w.heap.size)
  rcases hs with ⟨_, h0, _⟩ | ⟨g, of, rfl, hg, hc⟩
  · omega
  · refine ⟨g, of, rfl, hg, fun k r hk => ?_⟩
    obtain ⟨h1, h2⟩ := resCells_get log k r hk
    exact ⟨hc _ _ h1, hc _ _ h2⟩
set_option maxRecDepth 1000000 in
set_option maxHeartbeats 16000000 in
theorem aturn_any (l : Ly) (gt go gl gn gh n : Nat) (t : TabA) (W : Option Addr) (cW : Nat) (want : List (List Nat)) (who B : Nat) (s0 : SeatA) (w : World) (f : LyFull l) (hT : TRep w gt go gl gn gh n t) (hok : TOk t) (hW : SlU8s w B W want) (hwl : want.length = n) (hs0 : t.seats[who]? = some s0) (hB : B ≤ gt ∧ B ≤ go ∧ B ≤ gl ∧ B ≤ gn ∧ B ≤ gh) (hn : n ≤ 100)
    (hE : ∀ k c o v, nextR l (wakeR (want.getD who []) s0).op (wakeR (want.getD who []) s0).log = .ask k c o v → (⟨k, c, o, v⟩ : Acc).err t.m.length = 0) :
    Calls Try.prog 19 #[lyV l, ptr gt, .slice W n cW, .int .i64 (who : Nat)] w (TurnPost gt go gl gn gh n (turnA l want who t) w) := by
  have hwn : who < n := by rw [← hT.ns]; exact (List.getElem?_eq_some_iff.1 hs0).1
  have kL := (Bk.made w 31 (lyC l)).alloc (.cells stepZ 49)
  have kR := Bk.new (w.alloc (.cells (lyC l) 31)) (g := w.heap.size + 1) (by simp) 49 stepZ
  have hbl := below_al (below_al (Below.refl w.heap.size w) (.cells (lyC l) 31)) (.cells stepZ 49)
  have hT1 := hT.keep hbl
  have HF := Lib.hid f
  have HT0 := Lib.hid hT
  have HW0 := Lib.hid (And.intro hW hwl)
  have HOK := Lib.hid hok
  have HS0 := Lib.hid hs0
  have HE := Lib.hid hE
  clear f hT hW hwl hok hs0 hE
  go_enter Try.func19, Try.ntmps19
  go_upto_region 1 with fail
  generalize (w.alloc (.cells (lyC l) 31)).alloc (.cells stepZ 49) = w1 at *
  obtain ⟨bL, hbL⟩ : ∃ g, w.heap.size = g := ⟨_, rfl⟩
  obtain ⟨bR, hbR⟩ : ∃ g, w.heap.size + 1 = g := ⟨_, rfl⟩
  rw [hbR] at kR ⊢
  rw [hbL] at kL ⊢
  have zLR : w.heap.size ≤ bL ∧ bL < bR := by omega
  clear hbL hbR
  obtain ⟨gm, cm, a1, a2, a3⟩ := hT1.tab
  obtain ⟨c1, b1, b2, b3⟩ := hT1.ops
  obtain ⟨b31, b32, b33, b34⟩ := b3 who s0 HS0.out
  have p1 := a1.cell 1
  have lt := a1.lt
  have o1 := (b1.cell (who * 4)).trans b31
  simp at p1
  have i1 : (0 : Int) ≤ who := by omega
  have i2 : (who : Int) < n := by omega
  have i3 : decide ((who : Int) < 0) = false := by simp
  have i4 : decide (n ≤ who) = false := by simp; omega
  have i5 : decide ((n : Int) ≤ who) = false := by simp; omega
  have HTR := Lib.hid hT1
  clear hT1 a1 a2 a3 b1 b2 b3 b31 b32 b33 b34
  go_upto_if 43 with fail
  clear p1 o1 lt i3 i4 i5
  obtain ⟨s, hs⟩ : ∃ s, wakeR (want.getD who []) s0 = s := ⟨_, rfl⟩
  have HS := Lib.hid hs
  clear hs
  go_cut [9] from 43 to 106 (fun v9 wx => v9 = .bool false ∧ TRep wx gt go gl gn gh n ⟨t.m, t.seats.set who s⟩ ∧ StpL [gt, go, gl, gn, gh] w wx ∧ Bk wx bL 31 (lyC l) ∧ Bk wx bR 49 stepZ ∧ s.op.kind ≠ 0)
  case first =>
    by_cases hk : s0.op.kind = 0
    · have HK := Lib.hid hk
      obtain ⟨bW, oW, hWa, hbW, hcW⟩ := HW0.out.1 (by rw [HW0.out.2]; omega)
      subst hWa
      obtain ⟨xs, hxs⟩ : ∃ xs, want[who]? = some xs := ⟨_, List.getElem?_eq_getElem (by rw [HW0.out.2]; exact hwn)⟩
      obtain ⟨A', cA, hcx, hsx⟩ := hcW who xs hxs
      have hgd : want.getD who [] = xs := by rw [List.getD_eq_getElem?_getD, hxs]; rfl
      obtain ⟨hok1, hok2, hok3, hok4, hok5⟩ := HOK.out.seat s0 (List.mem_of_getElem? HS0.out)
      have hsz : gt < w.heap.size ∧ go < w.heap.size ∧ gl < w.heap.size ∧ gn < w.heap.size ∧ gh < w.heap.size := by
        obtain ⟨_, _, x1, _⟩ := HT0.out.tab
        obtain ⟨_, x2, _⟩ := HT0.out.ops
        obtain ⟨_, x3, _⟩ := HT0.out.logs
        obtain ⟨_, x4, _⟩ := HT0.out.nexts
        obtain ⟨_, x5, _⟩ := HT0.out.hass
        exact ⟨x1.lt, x2.lt, x3.lt, x4.lt, x5.lt⟩
      have hB1 : Below B w w1 := hbl.mono (by omega)
      replace hcx : w1.cell? ⟨bW, oW + who, none⟩ = some (.slice A' xs.length cA) := (hB1.cell (p := ⟨bW, _, none⟩) hbW).trans hcx
      replace hsx := hsx.below hB1
      obtain ⟨gm, cm, a1, a2, a3⟩ := HTR.out.tab
      obtain ⟨c1, b1, b2, b3⟩ := HTR.out.ops
      obtain ⟨c3, e1, e2, e3⟩ := HTR.out.nexts
      obtain ⟨c4, f1, f2, f3⟩ := HTR.out.hass
      obtain ⟨H, hc, f4, f5, f6⟩ := f3 who _ HS0.out
      have e4 := (e1.cell who).trans (e3 who _ HS0.out)
      have f7 := (f1.cell who).trans f4
      have ngo : gt ≠ go ∧ gn ≠ go ∧ gh ≠ go := ⟨bk_ne a1 b1 (by decide), bk_ne e1 b1 (by decide), bk_ne f1 b1 (by decide)⟩
      obtain ⟨b31, b32, b33, b34⟩ := b3 who s0 HS0.out
      obtain ⟨so, sl, sx, sh⟩ := s0
      dsimp only at e4 f7 f5 f6 hok1 hok2 hok3 hok5 HS
      have g43 : (so.kind == (0 : Int)) = true := by simp; exact hk
      have HF5 := Lib.hid (And.intro f5 f6)
      have HSX := Lib.hid hsx
      have HXS := Lib.hid hgd
      have HC1 := Lib.hid (And.intro b1 (And.intro b31 (And.intro b32 (And.intro b33 b34))))
      clear a2 a3 b2 b3 e2 e3 f2 f3 f4 f5 f6 hsx hgd hxs hcW b31 b32 b33 b34 hk
      dsimp only
      rw [g43]
      go_upto_region 4 with fail
      clear g43
      refine wp_region_E (S := fun w' => StpL [go] w1.drew w') (E := fun i => i == 35) (by kernel_rfl) ?_
      have hb1 := below_drew' (Below.refl w1.heap.size w1)
      replace a1 := a1.drew
      replace e1 := e1.drew
      replace f1 := f1.drew
      replace b1 := b1.drew
      replace e4 : w1.drew.cell? ⟨gn, who, none⟩ = some (.int .i64 (sx : Nat)) := e4
      replace f7 : w1.drew.cell? ⟨gh, who, none⟩ = some (.slice H sh.length hc) := f7
      replace hcx : w1.drew.cell? ⟨bW, oW + who, none⟩ = some (.slice A' xs.length cA) := hcx
      have hsx : SlU8 w1.drew w1.drew.heap.size A' xs := by
        have h1 := HSX.out
        intro hl
        obtain ⟨b, o', e, hb, hc'⟩ := h1 hl
        exact ⟨b, o', e, Nat.lt_of_lt_of_le hb (by have := hbl.size; have hh : w1.drew.heap.size = w1.heap.size := rfl; omega), hc'⟩
      have hH : OwnInts w1.drew 0 (.slice H sh.length hc) sh := HF5.out.1
      have hbWg : bW ≠ go := by omega
      generalize w1.drew = w2 at *
      have hS0 := StpL.refl [go] w2
      refine wpAnyE_take (i := 0) (oi := _) (v := .pointer (some ⟨gt, 0, none⟩)) rfl (by kernel_rfl) (by kernel_rfl) (by kernel_rfl) (by kernel_rfl) (fun _ _ _ h => h) (Or.inl ⟨by rfl, ?_⟩) hS0 ?_
      · intro w' hSw
        (try simp only [List.getElem_toArray, List.getElem_cons_zero])
        go_simp
      (try simp only [List.getElem_toArray, List.getElem_cons_zero, Act.put, List.setIfInBounds_toArray, List.set_cons_zero, List.set_cons_succ])
      refine wpAnyE_take (i := 1) (oi := _) (v := .pointer (some ⟨gt, 0, none⟩)) rfl (by kernel_rfl) (by kernel_rfl) (by kernel_rfl) (by kernel_rfl) (fun _ _ _ h => h) (Or.inl ⟨by rfl, ?_⟩) hS0 ?_
      · intro w' hSw
        (try simp only [List.getElem_toArray, List.getElem_cons_succ, List.getElem_cons_zero])
        go_simp
      (try simp only [List.getElem_toArray, List.getElem_cons_succ, List.getElem_cons_zero, Act.put, List.setIfInBounds_toArray, List.set_cons_zero, List.set_cons_succ])
      refine wpAnyE_take (i := 2) (oi := _) (v := .pointer (some ⟨gt, 1, none⟩)) rfl (by kernel_rfl) (by kernel_rfl) (by kernel_rfl) (by kernel_rfl) (fun _ _ _ h => h) (Or.inl ⟨by rfl, ?_⟩) hS0 ?_
      · intro w' hSw
        (try simp only [List.getElem_toArray, List.getElem_cons_succ, List.getElem_cons_zero])
        go_simp
      (try simp only [List.getElem_toArray, List.getElem_cons_succ, List.getElem_cons_zero, Act.put, List.setIfInBounds_toArray, List.set_cons_zero, List.set_cons_succ])
      refine wpAnyE_take (i := 3) (oi := _) (v := .slice (some ⟨go, 0, none⟩) n n) rfl (by kernel_rfl) (by kernel_rfl) (by kernel_rfl) (by kernel_rfl) (fun _ _ _ h => h) (Or.inl ⟨by rfl, ?_⟩) hS0 ?_
      · intro w' hSw
        have s1 := (hSw.keep a1 (by simpa using ngo.1)).cell 1
        (try simp at s1)
        (try simp only [List.getElem_toArray, List.getElem_cons_succ, List.getElem_cons_zero])
        go_simp
      (try simp only [List.getElem_toArray, List.getElem_cons_succ, List.getElem_cons_zero, Act.put, List.setIfInBounds_toArray, List.set_cons_zero, List.set_cons_succ])
      refine wpAnyE_take (i := 4) (oi := _) (v := .int .i64 (who : Nat)) rfl (by kernel_rfl) (by kernel_rfl) (by kernel_rfl) (by kernel_rfl) (fun _ _ _ h => h) (Or.inl ⟨by rfl, ?_⟩) hS0 ?_
      · intro w' hSw
        (try simp only [List.getElem_toArray, List.getElem_cons_succ, List.getElem_cons_zero])
        go_simp
      (try simp only [List.getElem_toArray, List.getElem_cons_succ, List.getElem_cons_zero, Act.put, List.setIfInBounds_toArray, List.set_cons_zero, List.set_cons_succ])
      refine wpAnyE_take (i := 5) (oi := _) (v := .pointer (some ⟨gt, 0, none⟩)) rfl (by kernel_rfl) (by kernel_rfl) (by kernel_rfl) (by kernel_rfl) (fun _ _ _ h => h) (Or.inl ⟨by rfl, ?_⟩) hS0 ?_
      · intro w' hSw
        (try simp only [List.getElem_toArray, List.getElem_cons_succ, List.getElem_cons_zero])
        go_simp
      (try simp only [List.getElem_toArray, List.getElem_cons_succ, List.getElem_cons_zero, Act.put, List.setIfInBounds_toArray, List.set_cons_zero, List.set_cons_succ])
      refine wpAnyE_take (i := 6) (oi := _) (v := .pointer (some ⟨gt, 0, none⟩)) rfl (by kernel_rfl) (by kernel_rfl) (by kernel_rfl) (by kernel_rfl) (fun _ _ _ h => h) (Or.inl ⟨by rfl, ?_⟩) hS0 ?_
      · intro w' hSw
        (try simp only [List.getElem_toArray, List.getElem_cons_succ, List.getElem_cons_zero])
        go_simp
      (try simp only [List.getElem_toArray, List.getElem_cons_succ, List.getElem_cons_zero, Act.put, List.setIfInBounds_toArray, List.set_cons_zero, List.set_cons_succ])
      refine wpAnyE_take (i := 7) (oi := _) (v := .pointer (some ⟨gt, 4, none⟩)) rfl (by kernel_rfl) (by kernel_rfl) (by kernel_rfl) (by kernel_rfl) (fun _ _ _ h => h) (Or.inl ⟨by rfl, ?_⟩) hS0 ?_
      · intro w' hSw
        (try simp only [List.getElem_toArray, List.getElem_cons_succ, List.getElem_cons_zero])
        go_simp
      (try simp only [List.getElem_toArray, List.getElem_cons_succ, List.getElem_cons_zero, Act.put, List.setIfInBounds_toArray, List.set_cons_zero, List.set_cons_succ])
      refine wpAnyE_take (i := 8) (oi := _) (v := .slice (some ⟨gh, 0, none⟩) n n) rfl (by kernel_rfl) (by kernel_rfl) (by kernel_rfl) (by kernel_rfl) (fun _ _ _ h => h) (Or.inl ⟨by rfl, ?_⟩) hS0 ?_
      · intro w' hSw
        have s1 := (hSw.keep a1 (by simpa using ngo.1)).cell 4
        (try simp at s1)
        (try simp only [List.getElem_toArray, List.getElem_cons_succ, List.getElem_cons_zero])
        go_simp
      (try simp only [List.getElem_toArray, List.getElem_cons_succ, List.getElem_cons_zero, Act.put, List.setIfInBounds_toArray, List.set_cons_zero, List.set_cons_succ])
      refine wpAnyE_take (i := 9) (oi := _) (v := .int .i64 (who : Nat)) rfl (by kernel_rfl) (by kernel_rfl) (by kernel_rfl) (by kernel_rfl) (fun _ _ _ h => h) (Or.inl ⟨by rfl, ?_⟩) hS0 ?_
      · intro w' hSw
        (try simp only [List.getElem_toArray, List.getElem_cons_succ, List.getElem_cons_zero])
        go_simp
      (try simp only [List.getElem_toArray, List.getElem_cons_succ, List.getElem_cons_zero, Act.put, List.setIfInBounds_toArray, List.set_cons_zero, List.set_cons_succ])
      refine wpAnyE_take (i := 10) (oi := _) (v := .slice (some ⟨bW, oW, none⟩) n cW) rfl (by kernel_rfl) (by kernel_rfl) (by kernel_rfl) (by kernel_rfl) (fun _ _ _ h => h) (Or.inl ⟨by rfl, ?_⟩) hS0 ?_
      · intro w' hSw
        (try simp only [List.getElem_toArray, List.getElem_cons_succ, List.getElem_cons_zero])
        go_simp
      (try simp only [List.getElem_toArray, List.getElem_cons_succ, List.getElem_cons_zero, Act.put, List.setIfInBounds_toArray, List.set_cons_zero, List.set_cons_succ])
      refine wpAnyE_take (i := 11) (oi := _) (v := .int .i64 (who : Nat)) rfl (by kernel_rfl) (by kernel_rfl) (by kernel_rfl) (by kernel_rfl) (fun _ _ _ h => h) (Or.inl ⟨by rfl, ?_⟩) hS0 ?_
      · intro w' hSw
        (try simp only [List.getElem_toArray, List.getElem_cons_succ, List.getElem_cons_zero])
        go_simp
      (try simp only [List.getElem_toArray, List.getElem_cons_succ, List.getElem_cons_zero, Act.put, List.setIfInBounds_toArray, List.set_cons_zero, List.set_cons_succ])
      refine wpAnyE_take (i := 12) (oi := _) (v := .pointer (some ⟨bW, oW + who, none⟩)) rfl (by kernel_rfl) (by kernel_rfl) (by kernel_rfl) (by kernel_rfl) (fun _ _ _ h => h) (Or.inl ⟨by rfl, ?_⟩) hS0 ?_
      · intro w' hSw
        have g3 : (who : Int) < n := by omega
        (try simp only [List.getElem_toArray, List.getElem_cons_succ, List.getElem_cons_zero])
        go_simp
      (try simp only [List.getElem_toArray, List.getElem_cons_succ, List.getElem_cons_zero, Act.put, List.setIfInBounds_toArray, List.set_cons_zero, List.set_cons_succ])
      refine wpAnyE_take (i := 13) (oi := _) (v := .slice A' xs.length cA) rfl (by kernel_rfl) (by kernel_rfl) (by kernel_rfl) (by kernel_rfl) (fun _ _ _ h => h) (Or.inl ⟨by rfl, ?_⟩) hS0 ?_
      · intro w' hSw
        have s1 := (World.cell?_of_block (hSw.block bW (World.block_lt_of_cell? _ _ hcx) (by simpa using hbWg))).trans hcx
        (try simp at s1)
        (try simp only [List.getElem_toArray, List.getElem_cons_succ, List.getElem_cons_zero])
        go_simp
      (try simp only [List.getElem_toArray, List.getElem_cons_succ, List.getElem_cons_zero, Act.put, List.setIfInBounds_toArray, List.set_cons_zero, List.set_cons_succ])
      refine wpAnyE_take (i := 14) (oi := _) (v := .pointer (some ⟨gt, 0, none⟩)) rfl (by kernel_rfl) (by kernel_rfl) (by kernel_rfl) (by kernel_rfl) (fun _ _ _ h => h) (Or.inl ⟨by rfl, ?_⟩) hS0 ?_
      · intro w' hSw
        (try simp only [List.getElem_toArray, List.getElem_cons_succ, List.getElem_cons_zero])
        go_simp
      (try simp only [List.getElem_toArray, List.getElem_cons_succ, List.getElem_cons_zero, Act.put, List.setIfInBounds_toArray, List.set_cons_zero, List.set_cons_succ])
      refine wpAnyE_take (i := 15) (oi := _) (v := .pointer (some ⟨gt, 0, none⟩)) rfl (by kernel_rfl) (by kernel_rfl) (by kernel_rfl) (by kernel_rfl) (fun _ _ _ h => h) (Or.inl ⟨by rfl, ?_⟩) hS0 ?_
      · intro w' hSw
        (try simp only [List.getElem_toArray, List.getElem_cons_succ, List.getElem_cons_zero])
        go_simp
      (try simp only [List.getElem_toArray, List.getElem_cons_succ, List.getElem_cons_zero, Act.put, List.setIfInBounds_toArray, List.set_cons_zero, List.set_cons_succ])
      refine wpAnyE_take (i := 16) (oi := _) (v := .pointer (some ⟨gt, 3, none⟩)) rfl (by kernel_rfl) (by kernel_rfl) (by kernel_rfl) (by kernel_rfl) (fun _ _ _ h => h) (Or.inl ⟨by rfl, ?_⟩) hS0 ?_
      · intro w' hSw
        (try simp only [List.getElem_toArray, List.getElem_cons_succ, List.getElem_cons_zero])
        go_simp
      (try simp only [List.getElem_toArray, List.getElem_cons_succ, List.getElem_cons_zero, Act.put, List.setIfInBounds_toArray, List.set_cons_zero, List.set_cons_succ])
      refine wpAnyE_take (i := 17) (oi := _) (v := .slice (some ⟨gn, 0, none⟩) n n) rfl (by kernel_rfl) (by kernel_rfl) (by kernel_rfl) (by kernel_rfl) (fun _ _ _ h => h) (Or.inl ⟨by rfl, ?_⟩) hS0 ?_
      · intro w' hSw
        have s1 := (hSw.keep a1 (by simpa using ngo.1)).cell 3
        (try simp at s1)
        (try simp only [List.getElem_toArray, List.getElem_cons_succ, List.getElem_cons_zero])
        go_simp
      (try simp only [List.getElem_toArray, List.getElem_cons_succ, List.getElem_cons_zero, Act.put, List.setIfInBounds_toArray, List.set_cons_zero, List.set_cons_succ])
      refine wpAnyE_take (i := 18) (oi := _) (v := .int .i64 (who : Nat)) rfl (by kernel_rfl) (by kernel_rfl) (by kernel_rfl) (by kernel_rfl) (fun _ _ _ h => h) (Or.inl ⟨by rfl, ?_⟩) hS0 ?_
      · intro w' hSw
        (try simp only [List.getElem_toArray, List.getElem_cons_succ, List.getElem_cons_zero])
        go_simp
      (try simp only [List.getElem_toArray, List.getElem_cons_succ, List.getElem_cons_zero, Act.put, List.setIfInBounds_toArray, List.set_cons_zero, List.set_cons_succ])
      refine wpAnyE_take (i := 19) (oi := _) (v := .pointer (some ⟨gn, who, none⟩)) rfl (by kernel_rfl) (by kernel_rfl) (by kernel_rfl) (by kernel_rfl) (fun _ _ _ h => h) (Or.inl ⟨by rfl, ?_⟩) hS0 ?_
      · intro w' hSw
        have g3 : (who : Int) < n := by omega
        (try simp only [List.getElem_toArray, List.getElem_cons_succ, List.getElem_cons_zero])
        go_simp
      (try simp only [List.getElem_toArray, List.getElem_cons_succ, List.getElem_cons_zero, Act.put, List.setIfInBounds_toArray, List.set_cons_zero, List.set_cons_succ])
      refine wpAnyE_take (i := 20) (oi := _) (v := .int .i64 (sx : Nat)) rfl (by kernel_rfl) (by kernel_rfl) (by kernel_rfl) (by kernel_rfl) (fun _ _ _ h => h) (Or.inl ⟨by rfl, ?_⟩) hS0 ?_
      · intro w' hSw
        have s1 := (World.cell?_of_block (hSw.block gn (World.block_lt_of_cell? _ _ e4) (by simpa using ngo.2.1))).trans e4
        (try simp at s1)
        (try simp only [List.getElem_toArray, List.getElem_cons_succ, List.getElem_cons_zero])
        go_simp
      (try simp only [List.getElem_toArray, List.getElem_cons_succ, List.getElem_cons_zero, Act.put, List.setIfInBounds_toArray, List.set_cons_zero, List.set_cons_succ])
      refine wpAnyE_take (i := 21) (oi := _) (v := .pointer (some ⟨gt, 0, none⟩)) rfl (by kernel_rfl) (by kernel_rfl) (by kernel_rfl) (by kernel_rfl) (fun _ _ _ h => h) (Or.inl ⟨by rfl, ?_⟩) hS0 ?_
      · intro w' hSw
        (try simp only [List.getElem_toArray, List.getElem_cons_succ, List.getElem_cons_zero])
        go_simp
      (try simp only [List.getElem_toArray, List.getElem_cons_succ, List.getElem_cons_zero, Act.put, List.setIfInBounds_toArray, List.set_cons_zero, List.set_cons_succ])
      refine wpAnyE_take (i := 22) (oi := _) (v := .pointer (some ⟨gt, 0, none⟩)) rfl (by kernel_rfl) (by kernel_rfl) (by kernel_rfl) (by kernel_rfl) (fun _ _ _ h => h) (Or.inl ⟨by rfl, ?_⟩) hS0 ?_
      · intro w' hSw
        (try simp only [List.getElem_toArray, List.getElem_cons_succ, List.getElem_cons_zero])
        go_simp
      (try simp only [List.getElem_toArray, List.getElem_cons_succ, List.getElem_cons_zero, Act.put, List.setIfInBounds_toArray, List.set_cons_zero, List.set_cons_succ])
      refine wpAnyE_take (i := 23) (oi := _) (v := .pointer (some ⟨gt, 4, none⟩)) rfl (by kernel_rfl) (by kernel_rfl) (by kernel_rfl) (by kernel_rfl) (fun _ _ _ h => h) (Or.inl ⟨by rfl, ?_⟩) hS0 ?_
      · intro w' hSw
        (try simp only [List.getElem_toArray, List.getElem_cons_succ, List.getElem_cons_zero])
        go_simp
      (try simp only [List.getElem_toArray, List.getElem_cons_succ, List.getElem_cons_zero, Act.put, List.setIfInBounds_toArray, List.set_cons_zero, List.set_cons_succ])
      refine wpAnyE_take (i := 24) (oi := _) (v := .slice (some ⟨gh, 0, none⟩) n n) rfl (by kernel_rfl) (by kernel_rfl) (by kernel_rfl) (by kernel_rfl) (fun _ _ _ h => h) (Or.inl ⟨by rfl, ?_⟩) hS0 ?_
      · intro w' hSw
        have s1 := (hSw.keep a1 (by simpa using ngo.1)).cell 4
        (try simp at s1)
        (try simp only [List.getElem_toArray, List.getElem_cons_succ, List.getElem_cons_zero])
        go_simp
      (try simp only [List.getElem_toArray, List.getElem_cons_succ, List.getElem_cons_zero, Act.put, List.setIfInBounds_toArray, List.set_cons_zero, List.set_cons_succ])
      refine wpAnyE_take (i := 25) (oi := _) (v := .int .i64 (who : Nat)) rfl (by kernel_rfl) (by kernel_rfl) (by kernel_rfl) (by kernel_rfl) (fun _ _ _ h => h) (Or.inl ⟨by rfl, ?_⟩) hS0 ?_
      · intro w' hSw
        (try simp only [List.getElem_toArray, List.getElem_cons_succ, List.getElem_cons_zero])
        go_simp
      (try simp only [List.getElem_toArray, List.getElem_cons_succ, List.getElem_cons_zero, Act.put, List.setIfInBounds_toArray, List.set_cons_zero, List.set_cons_succ])
      refine wpAnyE_take (i := 26) (oi := _) (v := .pointer (some ⟨gh, who, none⟩)) rfl (by kernel_rfl) (by kernel_rfl) (by kernel_rfl) (by kernel_rfl) (fun _ _ _ h => h) (Or.inl ⟨by rfl, ?_⟩) hS0 ?_
      · intro w' hSw
        have g3 : (who : Int) < n := by omega
        (try simp only [List.getElem_toArray, List.getElem_cons_succ, List.getElem_cons_zero])
        go_simp
      (try simp only [List.getElem_toArray, List.getElem_cons_succ, List.getElem_cons_zero, Act.put, List.setIfInBounds_toArray, List.set_cons_zero, List.set_cons_succ])
      refine wpAnyE_take (i := 27) (oi := _) (v := .slice H sh.length hc) rfl (by kernel_rfl) (by kernel_rfl) (by kernel_rfl) (by kernel_rfl) (fun _ _ _ h => h) (Or.inl ⟨by rfl, ?_⟩) hS0 ?_
      · intro w' hSw
        have s1 := (World.cell?_of_block (hSw.block gh (World.block_lt_of_cell? _ _ f7) (by simpa using ngo.2.2))).trans f7
        (try simp at s1)
        (try simp only [List.getElem_toArray, List.getElem_cons_succ, List.getElem_cons_zero])
        go_simp
      (try simp only [List.getElem_toArray, List.getElem_cons_succ, List.getElem_cons_zero, Act.put, List.setIfInBounds_toArray, List.set_cons_zero, List.set_cons_succ])
      refine wpAnyE_one (i := 28) (o := _) (by kernel_rfl) rfl (fun K hK => ?_)
      (try simp only [List.getElem_toArray, List.getElem_cons_succ, List.getElem_cons_zero])
      go_simp
      (with_reducible refine (wish_any A' cA xs sx H hc sh _ hsx (by omega) hH (by omega)).mono ?_)
      rintro e w3 ⟨G, cap, rfl, hb, hdj⟩
      have hwk : (⟨(wishR xs sx sh).1, [], sx + 1, (wishR xs sx sh).2⟩ : SeatA) = s := by
        have h1 := HS.out
        unfold wakeR at h1
        rw [if_pos HK.out, HXS.out] at h1
        exact h1
      generalize hwr : wishR xs sx sh = wr at *
      obtain ⟨⟨pk, pj, pa, pb⟩, sh2⟩ := wr
      dsimp only at hwk hdj ⊢
      have hb12 := below_tr hb1 hb
      have hT3 := HTR.out.keep hb12
      have hrow : OwnInts w3 0 (.slice G sh2.length cap) sh2 ∧ (Value.slice G sh2.length cap).ownBlock ≠ some gn := by
        rcases hdj with ⟨rfl, rfl, rfl⟩ | ho
        · exact ⟨own_keepb' (show World.ownsRow w2 0 3 1 (.slice G sh2.length cap) sh2.length (ints sh2) from hH) hb, HF5.out.2⟩
        · refine ⟨own_mono ho (Nat.zero_le _), fun e => ?_⟩
          have := (World.ownsRow.lt ho gn e).1
          have := e1.lt
          omega
      have hS3 := StpL.of_below [go] hb
      have f73 := cell_keep hb f7
      have f13 := f1.keep hb
      have b13 := b1.keep hb
      have o1 : w3.cell? ⟨go, who * 4, none⟩ = some (.int .i64 so.kind) := (b13.cell _).trans HC1.out.2.1
      have o2 : w3.cell? ⟨go, who * 4 + 1, none⟩ = some (.int .i64 so.obj) := (b13.cell _).trans HC1.out.2.2.1
      have o3 : w3.cell? ⟨go, who * 4 + 2, none⟩ = some (.int .i64 so.a) := (b13.cell _).trans HC1.out.2.2.2.1
      have o4 : w3.cell? ⟨go, who * 4 + 3, none⟩ = some (.int .i64 so.b) := (b13.cell _).trans HC1.out.2.2.2.2
      have hst3 : StpL [gt, go, gl, gn, gh] w w3 := (StpL.of_below _ hbl).trans (StpL.of_below _ hb12)
      have kL3 := kL.keep hb12
      have kR3 := kR.keep hb12
      have HX3 := Lib.hid (And.intro hT3 (And.intro hrow (And.intro hst3 (And.intro kL3 (And.intro kR3 hwk)))))
      clear hT3 hrow hst3 kL3 kR3 hwk hdj hwr hb12 hH hsx
      refine hK.out _ _ (fun _ => hS3) ?_
      clear hK K
      (try simp only [List.getElem_toArray, List.getElem_cons_succ, List.getElem_cons_zero, Act.put, List.setIfInBounds_toArray, List.set_cons_zero, List.set_cons_succ])
      refine wpAnyE_take (i := 29) (oi := _) (v := .tuple #[.agg #[.int .i64 pk, .int .i64 pj, .int .i64 pa, .int .i64 pb], .slice G sh2.length cap]) rfl (by kernel_rfl) (by kernel_rfl) (by kernel_rfl) (by kernel_rfl) (fun _ _ _ h => h) (Or.inl ⟨by rfl, ?_⟩) hS3 ?_
      · intro w' hSw
        (try simp only [List.getElem_toArray, List.getElem_cons_succ, List.getElem_cons_zero])
        go_simp
      (try simp only [List.getElem_toArray, List.getElem_cons_succ, List.getElem_cons_zero, Act.put, List.setIfInBounds_toArray, List.set_cons_zero, List.set_cons_succ])
      refine wpAnyE_take (i := 30) (oi := _) (v := .agg #[.int .i64 pk, .int .i64 pj, .int .i64 pa, .int .i64 pb]) rfl (by kernel_rfl) (by kernel_rfl) (by kernel_rfl) (by kernel_rfl) (fun _ _ _ h => h) (Or.inl ⟨by rfl, ?_⟩) hS3 ?_
      · intro w' hSw
        (try simp only [List.getElem_toArray, List.getElem_cons_succ, List.getElem_cons_zero])
        go_simp
      (try simp only [List.getElem_toArray, List.getElem_cons_succ, List.getElem_cons_zero, Act.put, List.setIfInBounds_toArray, List.set_cons_zero, List.set_cons_succ])
      refine wpAnyE_take (i := 31) (oi := _) (v := .slice G sh2.length cap) rfl (by kernel_rfl) (by kernel_rfl) (by kernel_rfl) (by kernel_rfl) (fun _ _ _ h => h) (Or.inl ⟨by rfl, ?_⟩) hS3 ?_
      · intro w' hSw
        (try simp only [List.getElem_toArray, List.getElem_cons_succ, List.getElem_cons_zero])
        go_simp
      (try simp only [List.getElem_toArray, List.getElem_cons_succ, List.getElem_cons_zero, Act.put, List.setIfInBounds_toArray, List.set_cons_zero, List.set_cons_succ])
      refine wpAnyE_take (i := 32) (oi := _) (v := .pointer (some ⟨go, who * 4, none⟩)) rfl (by kernel_rfl) (by kernel_rfl) (by kernel_rfl) (by kernel_rfl) (fun _ _ _ h => h) (Or.inl ⟨by rfl, ?_⟩) hS3 ?_
      · intro w' hSw
        have g3 : (who : Int) < n := by omega
        (try simp only [List.getElem_toArray, List.getElem_cons_succ, List.getElem_cons_zero])
        go_simp
      (try simp only [List.getElem_toArray, List.getElem_cons_succ, List.getElem_cons_zero, Act.put, List.setIfInBounds_toArray, List.set_cons_zero, List.set_cons_succ])
      have y1 := b13.free (who * 4)
      have y2 := b13.free (who * 4 + 1)
      have y3 := b13.free (who * 4 + 2)
      have y4 := b13.free (who * 4 + 3)
      have lo := b13.lt
      refine wpAnyE_one (i := 33) (o := _) (by kernel_rfl) rfl (fun K hK => ?_)
      (try simp only [List.getElem_toArray, List.getElem_cons_succ, List.getElem_cons_zero])
      go_simp
      clear o1 o2 o3 o4 y1 y2 y3 y4 lo
      have hgo1 : go ∈ [go] := by simp
      have hS4 : StpL [go] w2 (setOpW w3 go who ⟨pk, pj, pa, pb⟩) := hS3.trans ((((StpL.set hgo1 _ (who * 4) _).trans (StpL.set hgo1 _ (who * 4 + 1) _)).trans (StpL.set hgo1 _ (who * 4 + 2) _)).trans (StpL.set hgo1 _ (who * 4 + 3) _))
      refine hK.out _ (setOpW w3 go who ⟨pk, pj, pa, pb⟩) (fun _ => hS4) ?_
      clear hK K
      have hT4 := HX3.out.1.op (op := ⟨pk, pj, pa, pb⟩) HS0.out
      have hko : ∀ (g : Nat) (ty : TypeId) (cs : Array Value), g ≠ go → Bk w3 g ty cs → Bk (setOpW w3 go who ⟨pk, pj, pa, pb⟩) g ty cs := fun g ty cs hne k => (((k.other (p := ⟨go, who * 4, none⟩) hne _).other (p := ⟨go, who * 4 + 1, none⟩) hne _).other (p := ⟨go, who * 4 + 2, none⟩) hne _).other (p := ⟨go, who * 4 + 3, none⟩) hne _
      have hkt4 : KeptT 39 w3 (setOpW w3 go who ⟨pk, pj, pa, pb⟩) := (((keptT_set b13 (who * 4) (.int .i64 pk)).trans (keptT_set (b13.stored (who * 4) (.int .i64 pk)) (who * 4 + 1) (.int .i64 pj))).trans (keptT_set ((b13.stored (who * 4) (.int .i64 pk)).stored (who * 4 + 1) (.int .i64 pj)) (who * 4 + 2) (.int .i64 pa))).trans (keptT_set (((b13.stored (who * 4) (.int .i64 pk)).stored (who * 4 + 1) (.int .i64 pj)).stored (who * 4 + 2) (.int .i64 pa)) (who * 4 + 3) (.int .i64 pb))
      have hrow4 : OwnInts (setOpW w3 go who ⟨pk, pj, pa, pb⟩) 0 (.slice G sh2.length cap) sh2 := own_keptT HX3.out.2.1.1 hkt4 (by decide)
      have hst4 : StpL [gt, go, gl, gn, gh] w (setOpW w3 go who ⟨pk, pj, pa, pb⟩) := by
        have hgo5 : go ∈ [gt, go, gl, gn, gh] := by simp
        exact HX3.out.2.2.1.trans ((((StpL.set hgo5 _ (who * 4) _).trans (StpL.set hgo5 _ (who * 4 + 1) _)).trans (StpL.set hgo5 _ (who * 4 + 2) _)).trans (StpL.set hgo5 _ (who * 4 + 3) _))
      have kL4 := hko bL _ _ (by omega) HX3.out.2.2.2.1
      have kR4 := hko bR _ _ (by omega) HX3.out.2.2.2.2.1
      have f14 := f13.keptT hkt4 (by decide)
      have f74 : (setOpW w3 go who ⟨pk, pj, pa, pb⟩).cell? ⟨gh, who, none⟩ = some (.slice H sh.length hc) := (World.cell?_of_block (w := w3) (by rw [show (setOpW w3 go who ⟨pk, pj, pa, pb⟩).heap[(⟨gh, who, none⟩ : Addr).block]? = _ from f14]; exact f13.symm)).trans f73
      have HX4 := Lib.hid (And.intro hT4 (And.intro hrow4 (And.intro hst4 (And.intro kL4 (And.intro kR4 HX3.out.2.2.2.2.2)))))
      have HNG := Lib.hid HX3.out.2.1.2
      clear hT4 hrow4 hst4 kL4 kR4 hkt4 hko HX3 hS3 f73 f13 b13
      (try simp only [List.getElem_toArray, List.getElem_cons_succ, List.getElem_cons_zero, Act.put, List.setIfInBounds_toArray, List.set_cons_zero, List.set_cons_succ])
      generalize setOpW w3 go who ⟨pk, pj, pa, pb⟩ = w4 at *
      refine wpAnyE_take (i := 34) (oi := _) (v := .pointer (some ⟨gh, who, none⟩)) rfl (by kernel_rfl) (by kernel_rfl) (by kernel_rfl) (by kernel_rfl) (fun _ _ _ h => h) (Or.inl ⟨by rfl, ?_⟩) hS4 ?_
      · intro w' hSw
        have g3 : (who : Int) < n := by omega
        (try simp only [List.getElem_toArray, List.getElem_cons_succ, List.getElem_cons_zero])
        go_simp
      (try simp only [List.getElem_toArray, List.getElem_cons_succ, List.getElem_cons_zero, Act.put, List.setIfInBounds_toArray, List.set_cons_zero, List.set_cons_succ])
      have x1 := f74
      have xf := f14.free who
      have xl := f14.lt
      refine wpAnyE_one (i := 35) (o := _) (by kernel_rfl) rfl (fun K hK => ?_)
      (try simp only [List.getElem_toArray, List.getElem_cons_succ, List.getElem_cons_zero])
      go_simp
      clear x1 xf xl
      refine hK.out _ _ (fun h => absurd h (by decide)) ?_
      clear hK K
      refine wpAnyE_done (by kernel_rfl) ?_ _
      have hsw1 : (t.seats.set who ⟨⟨pk, pj, pa, pb⟩, sl, sx, sh⟩)[who]? = some ⟨⟨pk, pj, pa, pb⟩, sl, sx, sh⟩ := List.getElem?_set_self (by rw [HT0.out.ns]; exact hwn)
      have hT5 := HX4.out.1.has hsw1 HX4.out.2.1 HNG.out
      dsimp only at hT5
      rw [List.set_set] at hT5
      have hkt5 := keptT_set f14 who (.slice G sh2.length cap)
      have hst5 := HX4.out.2.2.1.trans (StpL.set (L := [gt, go, gl, gn, gh]) (g := gh) (by simp) w4 who (.slice G sh2.length cap))
      have kL5 := HX4.out.2.2.2.1.keptT hkt5 (by decide)
      have kR5 := HX4.out.2.2.2.2.1.keptT hkt5 (by decide)
      have hwk := HX4.out.2.2.2.2.2
      clear hkt5 HX4 HNG f14 f74 a1 e1 f1 b1 e4 f7 hcx hS0 hS4 hb hb1
      generalize w4.setCell ⟨gh, who, none⟩ (.slice G sh2.length cap) = w5 at *
      -- the log
      obtain ⟨gm, cm, a1, a2, a3⟩ := hT5.tab
      obtain ⟨c2, d1, d2, d3⟩ := hT5.logs
      have hsw2 : (t.seats.set who ⟨⟨pk, pj, pa, pb⟩, sl, sx, sh2⟩)[who]? = some ⟨⟨pk, pj, pa, pb⟩, sl, sx, sh2⟩ := List.getElem?_set_self (by rw [HT0.out.ns]; exact hwn)
      obtain ⟨G2, cp2, d4, d5⟩ := d3 who _ hsw2
      have d6 := (d1.cell who).trans d4
      have xf := d1.free who
      have xl := d1.lt
      have p2 := a1.cell 2
      have pl := a1.lt
      dsimp only at d6
      simp at p2
      have hT6 := hT5.log (log := []) (G := none) (cap := 0) hsw2 (World.ownsRow_nil _ _ _ _)
      dsimp only at hT6
      rw [List.set_set] at hT6
      have hkt6 := keptT_set d1 who (.slice none 0 0)
      have hst6 := hst5.trans (StpL.set (L := [gt, go, gl, gn, gh]) (g := gl) (by simp) w5 who (.slice none 0 0))
      have kL6 := kL5.keptT hkt6 (by decide)
      have kR6 := kR5.keptT hkt6 (by decide)
      have HT6 := Lib.hid hT6
      clear hT6 hT5 a2 a3 d2 d3 d4 d5 kL5 kR5 hst5 hkt6 a1 d1
      go_upto_region 6 with fail
      clear d6 xf xl p2 pl
      show Code.wp Try.prog _ _ _ (w5.setCell ⟨gl, who, none⟩ (.slice none 0 0))
      replace HT6 : Hid (TRep (w5.setCell ⟨gl, who, none⟩ (.slice none 0 0)) gt go gl gn gh n ⟨t.m, t.seats.set who ⟨⟨pk, pj, pa, pb⟩, [], sx, sh2⟩⟩) := HT6
      generalize w5.setCell ⟨gl, who, none⟩ (.slice none 0 0) = w6 at *
      -- the next wish's number
      obtain ⟨gm2, cm2, a1, a2, a3⟩ := HT6.out.tab
      obtain ⟨c3, e1, e2, e3⟩ := HT6.out.nexts
      have hsw3 : (t.seats.set who ⟨⟨pk, pj, pa, pb⟩, [], sx, sh2⟩)[who]? = some ⟨⟨pk, pj, pa, pb⟩, [], sx, sh2⟩ := List.getElem?_set_self (by rw [HT0.out.ns]; exact hwn)
      have e4 := (e1.cell who).trans (e3 who _ hsw3)
      dsimp only at e4
      have hT7 := HT6.out.next (z := sx + 1) hsw3
      dsimp only at hT7
      rw [List.set_set, hwk] at hT7
      have HSW3 := Lib.hid hsw3
      clear a2 a3 e2 e3 hsw3
      have hko6 : ∀ (g : Nat) (ty : TypeId) (cs : Array Value), g ≠ gn → Bk w6 g ty cs → Bk (w6.setCell ⟨gn, who, none⟩ (.int .i64 ((sx + 1 : Nat) : Int))) g ty cs := fun g ty cs hne k => k.other (p := ⟨gn, who, none⟩) hne _
      refine wp_region_E (S := fun w' => Below w6.drew.heap.size w6.drew w') (E := fun i => i == 14) (by kernel_rfl) ?_
      replace a1 := a1.drew
      replace e1 := e1.drew
      replace e4 : w6.drew.cell? ⟨gn, who, none⟩ = some (.int .i64 (sx : Nat)) := e4
      have hT7d : TRep (w6.drew.setCell ⟨gn, who, none⟩ (.int .i64 ((sx + 1 : Nat) : Int))) gt go gl gn gh n ⟨t.m, t.seats.set who s⟩ := (by
        have h1 := ((HT6.out.keep (below_drew' (Below.refl w6.heap.size w6))).next (z := sx + 1) HSW3.out)
        dsimp only at h1
        rw [List.set_set, hwk] at h1
        exact h1)
      have hst7 := (hst6.trans (StpL.of_below _ (below_drew' (Below.refl w6.heap.size w6)))).trans (StpL.set (L := [gt, go, gl, gn, gh]) (g := gn) (by simp) w6.drew who (.int .i64 ((sx + 1 : Nat) : Int)))
      have kL7 := kL6.drew.other (p := ⟨gn, who, none⟩) (by dsimp only; omega) (.int .i64 ((sx + 1 : Nat) : Int))
      have kR7 := kR6.drew.other (p := ⟨gn, who, none⟩) (by dsimp only; omega) (.int .i64 ((sx + 1 : Nat) : Int))
      have HX7 := Lib.hid (And.intro hT7d (And.intro hst7 (And.intro kL7 kR7)))
      clear hT7 hT7d hst7 kL7 kR7 hko6 HT6 hst6 kL6 kR6
      generalize w6.drew = w7 at *
      refine wpAnyE_take (i := 0) (oi := _) (v := .pointer (some ⟨gt, 0, none⟩)) rfl (by kernel_rfl) (by kernel_rfl) (by kernel_rfl) (by kernel_rfl) (fun _ _ _ h => h) (Or.inl ⟨by rfl, ?_⟩) (Below.refl _ _) ?_
      · intro w' hSw
        (try simp only [List.getElem_toArray, List.getElem_cons_zero])
        go_simp
      (try simp only [List.getElem_toArray, List.getElem_cons_zero, Act.put, List.setIfInBounds_toArray, List.set_cons_zero, List.set_cons_succ])
      refine wpAnyE_take (i := 1) (oi := _) (v := .pointer (some ⟨gt, 0, none⟩)) rfl (by kernel_rfl) (by kernel_rfl) (by kernel_rfl) (by kernel_rfl) (fun _ _ _ h => h) (Or.inl ⟨by rfl, ?_⟩) (Below.refl _ _) ?_
      · intro w' hSw
        (try simp only [List.getElem_toArray, List.getElem_cons_succ, List.getElem_cons_zero])
        go_simp
      (try simp only [List.getElem_toArray, List.getElem_cons_succ, List.getElem_cons_zero, Act.put, List.setIfInBounds_toArray, List.set_cons_zero, List.set_cons_succ])
      refine wpAnyE_take (i := 2) (oi := _) (v := .pointer (some ⟨gt, 3, none⟩)) rfl (by kernel_rfl) (by kernel_rfl) (by kernel_rfl) (by kernel_rfl) (fun _ _ _ h => h) (Or.inl ⟨by rfl, ?_⟩) (Below.refl _ _) ?_
      · intro w' hSw
        (try simp only [List.getElem_toArray, List.getElem_cons_succ, List.getElem_cons_zero])
        go_simp
      (try simp only [List.getElem_toArray, List.getElem_cons_succ, List.getElem_cons_zero, Act.put, List.setIfInBounds_toArray, List.set_cons_zero, List.set_cons_succ])
      refine wpAnyE_take (i := 3) (oi := _) (v := .slice (some ⟨gn, 0, none⟩) n n) rfl (by kernel_rfl) (by kernel_rfl) (by kernel_rfl) (by kernel_rfl) (fun _ _ _ h => h) (Or.inl ⟨by rfl, ?_⟩) (Below.refl _ _) ?_
      · intro w' hSw
        have s1 := (a1.keep hSw).cell 3
        (try simp at s1)
        (try simp only [List.getElem_toArray, List.getElem_cons_succ, List.getElem_cons_zero])
        go_simp
      (try simp only [List.getElem_toArray, List.getElem_cons_succ, List.getElem_cons_zero, Act.put, List.setIfInBounds_toArray, List.set_cons_zero, List.set_cons_succ])
      refine wpAnyE_take (i := 4) (oi := _) (v := .int .i64 (who : Nat)) rfl (by kernel_rfl) (by kernel_rfl) (by kernel_rfl) (by kernel_rfl) (fun _ _ _ h => h) (Or.inl ⟨by rfl, ?_⟩) (Below.refl _ _) ?_
      · intro w' hSw
        (try simp only [List.getElem_toArray, List.getElem_cons_succ, List.getElem_cons_zero])
        go_simp
      (try simp only [List.getElem_toArray, List.getElem_cons_succ, List.getElem_cons_zero, Act.put, List.setIfInBounds_toArray, List.set_cons_zero, List.set_cons_succ])
      refine wpAnyE_take (i := 5) (oi := _) (v := .pointer (some ⟨gt, 0, none⟩)) rfl (by kernel_rfl) (by kernel_rfl) (by kernel_rfl) (by kernel_rfl) (fun _ _ _ h => h) (Or.inl ⟨by rfl, ?_⟩) (Below.refl _ _) ?_
      · intro w' hSw
        (try simp only [List.getElem_toArray, List.getElem_cons_succ, List.getElem_cons_zero])
        go_simp
      (try simp only [List.getElem_toArray, List.getElem_cons_succ, List.getElem_cons_zero, Act.put, List.setIfInBounds_toArray, List.set_cons_zero, List.set_cons_succ])
      refine wpAnyE_take (i := 6) (oi := _) (v := .pointer (some ⟨gt, 0, none⟩)) rfl (by kernel_rfl) (by kernel_rfl) (by kernel_rfl) (by kernel_rfl) (fun _ _ _ h => h) (Or.inl ⟨by rfl, ?_⟩) (Below.refl _ _) ?_
      · intro w' hSw
        (try simp only [List.getElem_toArray, List.getElem_cons_succ, List.getElem_cons_zero])
        go_simp
      (try simp only [List.getElem_toArray, List.getElem_cons_succ, List.getElem_cons_zero, Act.put, List.setIfInBounds_toArray, List.set_cons_zero, List.set_cons_succ])
      refine wpAnyE_take (i := 7) (oi := _) (v := .pointer (some ⟨gt, 3, none⟩)) rfl (by kernel_rfl) (by kernel_rfl) (by kernel_rfl) (by kernel_rfl) (fun _ _ _ h => h) (Or.inl ⟨by rfl, ?_⟩) (Below.refl _ _) ?_
      · intro w' hSw
        (try simp only [List.getElem_toArray, List.getElem_cons_succ, List.getElem_cons_zero])
        go_simp
      (try simp only [List.getElem_toArray, List.getElem_cons_succ, List.getElem_cons_zero, Act.put, List.setIfInBounds_toArray, List.set_cons_zero, List.set_cons_succ])
      refine wpAnyE_take (i := 8) (oi := _) (v := .slice (some ⟨gn, 0, none⟩) n n) rfl (by kernel_rfl) (by kernel_rfl) (by kernel_rfl) (by kernel_rfl) (fun _ _ _ h => h) (Or.inl ⟨by rfl, ?_⟩) (Below.refl _ _) ?_
      · intro w' hSw
        have s1 := (a1.keep hSw).cell 3
        (try simp at s1)
        (try simp only [List.getElem_toArray, List.getElem_cons_succ, List.getElem_cons_zero])
        go_simp
      (try simp only [List.getElem_toArray, List.getElem_cons_succ, List.getElem_cons_zero, Act.put, List.setIfInBounds_toArray, List.set_cons_zero, List.set_cons_succ])
      refine wpAnyE_take (i := 9) (oi := _) (v := .int .i64 (who : Nat)) rfl (by kernel_rfl) (by kernel_rfl) (by kernel_rfl) (by kernel_rfl) (fun _ _ _ h => h) (Or.inl ⟨by rfl, ?_⟩) (Below.refl _ _) ?_
      · intro w' hSw
        (try simp only [List.getElem_toArray, List.getElem_cons_succ, List.getElem_cons_zero])
        go_simp
      (try simp only [List.getElem_toArray, List.getElem_cons_succ, List.getElem_cons_zero, Act.put, List.setIfInBounds_toArray, List.set_cons_zero, List.set_cons_succ])
      refine wpAnyE_take (i := 10) (oi := _) (v := .pointer (some ⟨gn, who, none⟩)) rfl (by kernel_rfl) (by kernel_rfl) (by kernel_rfl) (by kernel_rfl) (fun _ _ _ h => h) (Or.inl ⟨by rfl, ?_⟩) (Below.refl _ _) ?_
      · intro w' hSw
        have g3 : (who : Int) < n := by omega
        (try simp only [List.getElem_toArray, List.getElem_cons_succ, List.getElem_cons_zero])
        go_simp
      (try simp only [List.getElem_toArray, List.getElem_cons_succ, List.getElem_cons_zero, Act.put, List.setIfInBounds_toArray, List.set_cons_zero, List.set_cons_succ])
      refine wpAnyE_take (i := 11) (oi := _) (v := .int .i64 (sx : Nat)) rfl (by kernel_rfl) (by kernel_rfl) (by kernel_rfl) (by kernel_rfl) (fun _ _ _ h => h) (Or.inl ⟨by rfl, ?_⟩) (Below.refl _ _) ?_
      · intro w' hSw
        have s1 := cell_keep hSw e4
        (try simp at s1)
        (try simp only [List.getElem_toArray, List.getElem_cons_succ, List.getElem_cons_zero])
        go_simp
      (try simp only [List.getElem_toArray, List.getElem_cons_succ, List.getElem_cons_zero, Act.put, List.setIfInBounds_toArray, List.set_cons_zero, List.set_cons_succ])
      refine wpAnyE_take (i := 12) (oi := _) (v := .int .i64 ((sx + 1 : Nat) : Int)) rfl (by kernel_rfl) (by kernel_rfl) (by kernel_rfl) (by kernel_rfl) (fun _ _ _ h => h) (Or.inl ⟨by rfl, ?_⟩) (Below.refl _ _) ?_
      · intro w' hSw
        have hw1 : IntKind.i64.wrap ((sx : Int) + 1) = (sx : Int) + 1 := IntWalk.i64_in _ (by omega)
        (try simp only [List.getElem_toArray, List.getElem_cons_succ, List.getElem_cons_zero])
        go_simp
      (try simp only [List.getElem_toArray, List.getElem_cons_succ, List.getElem_cons_zero, Act.put, List.setIfInBounds_toArray, List.set_cons_zero, List.set_cons_succ])
      refine wpAnyE_take (i := 13) (oi := _) (v := .pointer (some ⟨gn, who, none⟩)) rfl (by kernel_rfl) (by kernel_rfl) (by kernel_rfl) (by kernel_rfl) (fun _ _ _ h => h) (Or.inl ⟨by rfl, ?_⟩) (Below.refl _ _) ?_
      · intro w' hSw
        have g3 : (who : Int) < n := by omega
        (try simp only [List.getElem_toArray, List.getElem_cons_succ, List.getElem_cons_zero])
        go_simp
      (try simp only [List.getElem_toArray, List.getElem_cons_succ, List.getElem_cons_zero, Act.put, List.setIfInBounds_toArray, List.set_cons_zero, List.set_cons_succ])
      have x1 := e4
      have xf := e1.free who
      have xl := e1.lt
      refine wpAnyE_one (i := 14) (o := _) (by kernel_rfl) rfl (fun K hK => ?_)
      (try simp only [List.getElem_toArray, List.getElem_cons_succ, List.getElem_cons_zero])
      go_simp
      clear x1 xf xl
      refine hK.out _ (w7.setCell ⟨gn, who, none⟩ (.int .i64 ((sx + 1 : Nat) : Int))) (fun h => absurd h (by decide)) ?_
      clear hK K
      refine wpAnyE_done (by kernel_rfl) ?_ _
      obtain ⟨hT8, hst8, kL8, kR8⟩ := HX7.out
      clear HX7 a1 e1 e4
      generalize w7.setCell ⟨gn, who, none⟩ (.int .i64 ((sx + 1 : Nat) : Int)) = w8 at *
      have hsk : s.op.kind = pk := by rw [← hwk]
      obtain ⟨gm3, cm3, a1, a2, a3⟩ := hT8.tab
      obtain ⟨c1, b1, b2, b3⟩ := hT8.ops
      have hsw4 : (t.seats.set who s)[who]? = some s := List.getElem?_set_self (by rw [HT0.out.ns]; exact hwn)
      have o1 := (b1.cell (who * 4)).trans (b3 who _ hsw4).1
      rw [hsk] at o1
      have p1 := a1.cell 1
      have pl := a1.lt
      simp at p1
      have HT8 := Lib.hid (And.intro hT8 hsk)
      clear hT8 hsk a1 a2 a3 b1 b2 b3 hsw4
      by_cases hp0 : pk = 0
      · have g1 : (pk == (0 : Int)) = true := by simp [hp0]
        have hres : turnA l want who t = (⟨t.m, t.seats.set who s⟩, none) := by
          unfold turnA
          rw [HS0.out]
          dsimp only
          rw [HS.out]
          rw [if_pos (by rw [HT8.out.2]; exact hp0)]
        have HRS := Lib.hid hres
        have kf := setRow_heap _ _ stepZ stepZ 49 (0, 0) kR8
        have hT9 := HT8.out.1.keptT (w' := w8.setRow bR stepZ) (keptT_row kR8) (by decide) (by decide) (by decide) (by decide) (by decide) (by decide)
        have hst9 := hst8.rowNew (g := bR) (by omega) stepZ
        have HT9 := Lib.hid hT9
        subst hp0
        clear hres hT9 g1
        go_wp2_with (refine wpList_store_rowTo rfl 49 (.tmp 8) (.tmp 107) rfl rfl bR stepZ rfl rfl 49 stepZ kR8 (by kernel_rfl) rfl (by simp [Value.oneCell']) ?_)
        refine bodyPost_ret (v := .tuple #[.agg stepZ, .bool false]) (results_cell_tmp (p := 8) (t := 9) (ty := 49) rfl _ _ bR 49 _ (0, 0) _ _ rfl rfl kf Try.underlying49 rfl (by kernel_rfl)) rfl ?_
        rw [HRS.out]
        exact ⟨rfl, HT9.out, hst9⟩
      · have g1 : (pk == (0 : Int)) = false := by simp [hp0]
        have g2 : decide (pk = (0 : Int)) = false := by simp [hp0]
        go_wp2_with fail
        go_meet
        exact ⟨rfl, HT8.out.1, hst8, kL8, kR8, by rw [HT8.out.2]; exact hp0⟩
    · have e1 : s0 = s := by have h1 := HS.out; unfold wakeR at h1; rw [if_neg hk] at h1; exact h1
      have g1 : (s0.op.kind == (0 : Int)) = false := by simp [hk]
      have g2 : decide (s0.op.kind = (0 : Int)) = false := by simp [hk]
      have hsame : t.seats.set who s = t.seats := by
        rw [← e1]
        apply List.ext_getElem?
        intro j
        by_cases e : j = who
        · subst e
          rw [List.getElem?_set_self (by rw [HT0.out.ns]; exact hwn), HS0.out]
        · rw [List.getElem?_set_ne (fun e' => e e'.symm)]
      have HSM := Lib.hid (And.intro e1 hsame)
      clear e1 hsame
      go_wp2_with fail
      go_meet
      refine ⟨rfl, ?_, StpL.of_below _ hbl, kL, kR, ?_⟩
      · rw [HSM.out.2]; exact HTR.out
      · rw [← HSM.out.1]; exact hk
  case rest =>
    obtain ⟨rfl, hT2, hst, kL2, kR2, hk0⟩ := hcut
    clear HTR kL kR hbl
    obtain ⟨⟨ok, oj, oa, ob⟩, log, nx, has⟩ := s
    dsimp only at hk0
    have hsw : (t.seats.set who ⟨⟨ok, oj, oa, ob⟩, log, nx, has⟩)[who]? = some ⟨⟨ok, oj, oa, ob⟩, log, nx, has⟩ := List.getElem?_set_self (by rw [HT0.out.ns]; exact hwn)
    have HSW := Lib.hid hsw
    obtain ⟨gm, cm, a1, a2, a3⟩ := hT2.tab
    obtain ⟨c1, b1, b2, b3⟩ := hT2.ops
    obtain ⟨b31, b32, b33, b34⟩ := b3 who _ hsw
    have p1 := a1.cell 1
    have lt := a1.lt
    have o1 := (b1.cell (who * 4)).trans b31
    have o2 := (b1.cell (who * 4 + 1)).trans b32
    have o3 := (b1.cell (who * 4 + 2)).trans b33
    have o4 := (b1.cell (who * 4 + 3)).trans b34
    simp at p1 o1 o2 o3 o4
    have HT2 := Lib.hid hT2
    clear hT2 a1 a2 a3 b1 b2 b3 b31 b32 b33 b34 hsw
    go_upto_region 10 with (refine wpList_store_new rfl 49 (.tmp 10) (.tmp 116) rfl rfl wc.heap.size _ _ #[.int .i64 (who : Nat), .int .i64 ok, .int .i64 oj, .int .i64 oa, .int .i64 ob, .int .i64 0, .int .i64 0, .int .i64 0, .int .i64 0, .int .i64 0, .bool false, .bool false, .int .i64 0, .bool false, .int .i64 0, .int .i64 0, .slice none 0 0] rfl rfl rfl rfl (by kernel_rfl) rfl (by simp [Value.oneCell']) ?_)
    clear p1 lt o1 o2 o3 o4
    have kS := Bk.made wc 49 #[.int .i64 (who : Nat), .int .i64 ok, .int .i64 oj, .int .i64 oa, .int .i64 ob, .int .i64 0, .int .i64 0, .int .i64 0, .int .i64 0, .int .i64 0, .bool false, .bool false, .int .i64 0, .bool false, .int .i64 0, .int .i64 0, .slice none 0 0]
    have hT3 := HT2.out.keep (below_al (Below.refl wc.heap.size wc) (.cells #[.int .i64 (who : Nat), .int .i64 ok, .int .i64 oj, .int .i64 oa, .int .i64 ob, .int .i64 0, .int .i64 0, .int .i64 0, .int .i64 0, .int .i64 0, .bool false, .bool false, .int .i64 0, .bool false, .int .i64 0, .int .i64 0, .slice none 0 0] 49))
    have zS : w.heap.size ≤ wc.heap.size := hst.size
    replace kL2 := kL2.alloc (.cells #[.int .i64 (who : Nat), .int .i64 ok, .int .i64 oj, .int .i64 oa, .int .i64 ob, .int .i64 0, .int .i64 0, .int .i64 0, .int .i64 0, .int .i64 0, .bool false, .bool false, .int .i64 0, .bool false, .int .i64 0, .int .i64 0, .slice none 0 0] 49)
    have zR := kR2.lt
    replace kR2 := kR2.alloc (.cells #[.int .i64 (who : Nat), .int .i64 ok, .int .i64 oj, .int .i64 oa, .int .i64 ob, .int .i64 0, .int .i64 0, .int .i64 0, .int .i64 0, .int .i64 0, .bool false, .bool false, .int .i64 0, .bool false, .int .i64 0, .int .i64 0, .slice none 0 0] 49)
    replace hst := hst.trans (StpL.of_below _ (below_al (Below.refl wc.heap.size wc) (.cells #[.int .i64 (who : Nat), .int .i64 ok, .int .i64 oj, .int .i64 oa, .int .i64 ob, .int .i64 0, .int .i64 0, .int .i64 0, .int .i64 0, .int .i64 0, .bool false, .bool false, .int .i64 0, .bool false, .int .i64 0, .int .i64 0, .slice none 0 0] 49)))
    clear HT2
    generalize wc.alloc (.cells #[.int .i64 (who : Nat), .int .i64 ok, .int .i64 oj, .int .i64 oa, .int .i64 ob, .int .i64 0, .int .i64 0, .int .i64 0, .int .i64 0, .int .i64 0, .bool false, .bool false, .int .i64 0, .bool false, .int .i64 0, .int .i64 0, .slice none 0 0] 49) = w2 at *
    generalize wc.heap.size = bs at *
    obtain ⟨qk, qc, qo, qv, val, is, err, pt, dn, hAI⟩ := ansIs_of (nextR l ⟨ok, oj, oa, ob⟩ log)
    have HAI := Lib.hid hAI
    have HT3 := Lib.hid hT3
    clear hAI hT3
    go_cut [11, 12, 13] from 117 to 132 (fun v11 v12 v13 wx => NxRel qk qc qo qv val is err pt dn w2 v11 v12 v13 wx)
    case first =>
      obtain ⟨gm, cm, a1, a2, a3⟩ := HT3.out.tab
      obtain ⟨c2, d1, d2, d3⟩ := HT3.out.logs
      obtain ⟨G, cp, d4, d5⟩ := d3 who _ HSW.out
      have d6 := (d1.cell who).trans d4
      dsimp only at d6 d5
      have HD5 := Lib.hid d5
      have hll : log.length ≤ 950 ∧ oa ≤ 65536 := by
        have hw := wake_ok (want.getD who []) (HOK.out.seat s0 (List.mem_of_getElem? HS0.out))
        rw [HS.out] at hw
        exact ⟨by have := hw.1; dsimp only at this; omega, hw.2.2.1⟩
      clear a2 a3 d2 d3 d4 d5
      refine wp_region_E (S := fun w' => Below w2.heap.size w2 w') (E := fun _ => false) (by kernel_rfl) ?_
      have hb0 := below_drew' (Below.refl w2.heap.size w2)
      generalize w2.drew = w3 at *
      refine wpAnyE_take (i := 0) (oi := _) (v := .agg (lyC l)) rfl (by kernel_rfl) (by kernel_rfl) (by kernel_rfl) (by kernel_rfl) (fun _ _ _ h => h) (Or.inl ⟨by rfl, ?_⟩) hb0 ?_
      · intro w' hSw
        (try simp only [List.getElem_toArray, List.getElem_cons_zero])
        simp only [execOp, Instr.loadAt, Instr.sureAddr, Sem.run_bind, Sem.run_pure]
        rw [show (Act.eval _ (Operand.tmp 4)) = Value.pointer (some ⟨bL, 0, none⟩) from rfl]
        simp only [Sem.run_pure, Result.andThen_ok, run_loadVar_row w' bL 31 31 (lyC l) (0, 0) _ (kL2.keep hSw) Try.underlying31 rfl (by kernel_rfl)]
      (try simp only [List.getElem_toArray, List.getElem_cons_zero, Act.put, List.setIfInBounds_toArray, List.set_cons_zero, List.set_cons_succ])
      refine wpAnyE_take (i := 1) (oi := _) (v := .int .i64 (who : Nat)) rfl (by kernel_rfl) (by kernel_rfl) (by kernel_rfl) (by kernel_rfl) (fun _ _ _ h => h) (Or.inl ⟨by rfl, ?_⟩) hb0 ?_
      · intro w' hSw
        (try simp only [List.getElem_toArray, List.getElem_cons_succ, List.getElem_cons_zero])
        go_simp
      (try simp only [List.getElem_toArray, List.getElem_cons_succ, List.getElem_cons_zero, Act.put, List.setIfInBounds_toArray, List.set_cons_zero, List.set_cons_succ])
      refine wpAnyE_take (i := 2) (oi := _) (v := .pointer (some ⟨bs, 1, none⟩)) rfl (by kernel_rfl) (by kernel_rfl) (by kernel_rfl) (by kernel_rfl) (fun _ _ _ h => h) (Or.inl ⟨by rfl, ?_⟩) hb0 ?_
      · intro w' hSw
        (try simp only [List.getElem_toArray, List.getElem_cons_succ, List.getElem_cons_zero])
        go_simp
      (try simp only [List.getElem_toArray, List.getElem_cons_succ, List.getElem_cons_zero, Act.put, List.setIfInBounds_toArray, List.set_cons_zero, List.set_cons_succ])
      refine wpAnyE_take (i := 3) (oi := _) (v := .agg #[.int .i64 ok, .int .i64 oj, .int .i64 oa, .int .i64 ob]) rfl (by kernel_rfl) (by kernel_rfl) (by kernel_rfl) (by kernel_rfl) (fun _ _ _ h => h) (Or.inl ⟨by rfl, ?_⟩) hb0 ?_
      · intro w' hSw
        have s1 := (kS.keep hSw).cell 1
        have s2 := (kS.keep hSw).cell 2
        have s3 := (kS.keep hSw).cell 3
        have s4 := (kS.keep hSw).cell 4
        (try simp at s1 s2 s3 s4)
        (try simp only [List.getElem_toArray, List.getElem_cons_succ, List.getElem_cons_zero])
        go_simp
      (try simp only [List.getElem_toArray, List.getElem_cons_succ, List.getElem_cons_zero, Act.put, List.setIfInBounds_toArray, List.set_cons_zero, List.set_cons_succ])
      refine wpAnyE_take (i := 4) (oi := _) (v := .pointer (some ⟨gt, 0, none⟩)) rfl (by kernel_rfl) (by kernel_rfl) (by kernel_rfl) (by kernel_rfl) (fun _ _ _ h => h) (Or.inl ⟨by rfl, ?_⟩) hb0 ?_
      · intro w' hSw
        (try simp only [List.getElem_toArray, List.getElem_cons_succ, List.getElem_cons_zero])
        go_simp
      (try simp only [List.getElem_toArray, List.getElem_cons_succ, List.getElem_cons_zero, Act.put, List.setIfInBounds_toArray, List.set_cons_zero, List.set_cons_succ])
      refine wpAnyE_take (i := 5) (oi := _) (v := .pointer (some ⟨gt, 0, none⟩)) rfl (by kernel_rfl) (by kernel_rfl) (by kernel_rfl) (by kernel_rfl) (fun _ _ _ h => h) (Or.inl ⟨by rfl, ?_⟩) hb0 ?_
      · intro w' hSw
        (try simp only [List.getElem_toArray, List.getElem_cons_succ, List.getElem_cons_zero])
        go_simp
      (try simp only [List.getElem_toArray, List.getElem_cons_succ, List.getElem_cons_zero, Act.put, List.setIfInBounds_toArray, List.set_cons_zero, List.set_cons_succ])
      refine wpAnyE_take (i := 6) (oi := _) (v := .pointer (some ⟨gt, 2, none⟩)) rfl (by kernel_rfl) (by kernel_rfl) (by kernel_rfl) (by kernel_rfl) (fun _ _ _ h => h) (Or.inl ⟨by rfl, ?_⟩) hb0 ?_
      · intro w' hSw
        (try simp only [List.getElem_toArray, List.getElem_cons_succ, List.getElem_cons_zero])
        go_simp
      (try simp only [List.getElem_toArray, List.getElem_cons_succ, List.getElem_cons_zero, Act.put, List.setIfInBounds_toArray, List.set_cons_zero, List.set_cons_succ])
      refine wpAnyE_take (i := 7) (oi := _) (v := .slice (some ⟨gl, 0, none⟩) n n) rfl (by kernel_rfl) (by kernel_rfl) (by kernel_rfl) (by kernel_rfl) (fun _ _ _ h => h) (Or.inl ⟨by rfl, ?_⟩) hb0 ?_
      · intro w' hSw
        have s1 := (a1.keep hSw).cell 2
        (try simp at s1)
        (try simp only [List.getElem_toArray, List.getElem_cons_succ, List.getElem_cons_zero])
        go_simp
      (try simp only [List.getElem_toArray, List.getElem_cons_succ, List.getElem_cons_zero, Act.put, List.setIfInBounds_toArray, List.set_cons_zero, List.set_cons_succ])
      refine wpAnyE_take (i := 8) (oi := _) (v := .int .i64 (who : Nat)) rfl (by kernel_rfl) (by kernel_rfl) (by kernel_rfl) (by kernel_rfl) (fun _ _ _ h => h) (Or.inl ⟨by rfl, ?_⟩) hb0 ?_
      · intro w' hSw
        (try simp only [List.getElem_toArray, List.getElem_cons_succ, List.getElem_cons_zero])
        go_simp
      (try simp only [List.getElem_toArray, List.getElem_cons_succ, List.getElem_cons_zero, Act.put, List.setIfInBounds_toArray, List.set_cons_zero, List.set_cons_succ])
      refine wpAnyE_take (i := 9) (oi := _) (v := .pointer (some ⟨gl, who, none⟩)) rfl (by kernel_rfl) (by kernel_rfl) (by kernel_rfl) (by kernel_rfl) (fun _ _ _ h => h) (Or.inl ⟨by rfl, ?_⟩) hb0 ?_
      · intro w' hSw
        have g3 : (who : Int) < n := by omega
        (try simp only [List.getElem_toArray, List.getElem_cons_succ, List.getElem_cons_zero])
        go_simp
      (try simp only [List.getElem_toArray, List.getElem_cons_succ, List.getElem_cons_zero, Act.put, List.setIfInBounds_toArray, List.set_cons_zero, List.set_cons_succ])
      refine wpAnyE_take (i := 10) (oi := _) (v := .slice G log.length cp) rfl (by kernel_rfl) (by kernel_rfl) (by kernel_rfl) (by kernel_rfl) (fun _ _ _ h => h) (Or.inl ⟨by rfl, ?_⟩) hb0 ?_
      · intro w' hSw
        have s1 := cell_keep hSw d6
        (try simp at s1)
        (try simp only [List.getElem_toArray, List.getElem_cons_succ, List.getElem_cons_zero])
        go_simp
      (try simp only [List.getElem_toArray, List.getElem_cons_succ, List.getElem_cons_zero, Act.put, List.setIfInBounds_toArray, List.set_cons_zero, List.set_cons_succ])
      refine ⟨fun h0 => absurd h0 (by rw [show Region.ready _ _ _ = [11, 16, 17] from by kernel_rfl]; simp), fun j hj => ?_⟩
      rw [show Region.ready _ _ _ = [11, 16, 17] from by kernel_rfl] at hj
      rcases List.mem_cons.1 hj with rfl | hj
      · refine wpOp_step (o := _) rfl (fun K hK => ?_)
        (try simp only [List.getElem_toArray, List.getElem_cons_succ, List.getElem_cons_zero])
        go_simp
        have h5 : OwnRes w3 0 (.slice G log.length cp) log := own_keepb' (show World.ownsRow w2 0 43 2 (.slice G log.length cp) log.length (resCells log) from HD5.out) hb0
        have h6 := own_slRes h5
        (with_reducible refine (next_any l who ⟨ok, oj, oa, ob⟩ G cp log _ HF.out (by dsimp only; omega) h6 (by omega)).mono ?_)
        clear h5 h6
        intro e x1 hpost
        obtain ⟨rfl, hb⟩ := ansIs_post HAI.out hpost
        have hb0n := below_tr hb0 hb
        clear hb hpost hb0
        have hb0 := hb0n
        clear hb0n
        refine hK _ _ ⟨fun _ => hb0, ?_⟩
        clear hK K
        (try simp only [])
        refine wpAnyE_take (i := 12) (oi := _) (v := .tuple #[.agg (accC qk qc qo qv), .agg (outC val is err pt), .bool dn]) rfl (by kernel_rfl) (by kernel_rfl) (by kernel_rfl) (by kernel_rfl) (fun _ _ _ h => h) (Or.inl ⟨by rfl, ?_⟩) hb0 ?_
        · intro w' hSw
          (try simp only [List.getElem_toArray, List.getElem_cons_succ, List.getElem_cons_zero])
          go_simp
        (try simp only [List.getElem_toArray, List.getElem_cons_succ, List.getElem_cons_zero, Act.put, List.setIfInBounds_toArray, List.set_cons_zero, List.set_cons_succ])
        refine wpAnyE_take (i := 13) (oi := _) (v := .agg (accC qk qc qo qv)) rfl (by kernel_rfl) (by kernel_rfl) (by kernel_rfl) (by kernel_rfl) (fun _ _ _ h => h) (Or.inl ⟨by rfl, ?_⟩) hb0 ?_
        · intro w' hSw
          (try simp only [List.getElem_toArray, List.getElem_cons_succ, List.getElem_cons_zero])
          go_simp
        (try simp only [List.getElem_toArray, List.getElem_cons_succ, List.getElem_cons_zero, Act.put, List.setIfInBounds_toArray, List.set_cons_zero, List.set_cons_succ])
        refine wpAnyE_take (i := 14) (oi := _) (v := .agg (outC val is err pt)) rfl (by kernel_rfl) (by kernel_rfl) (by kernel_rfl) (by kernel_rfl) (fun _ _ _ h => h) (Or.inl ⟨by rfl, ?_⟩) hb0 ?_
        · intro w' hSw
          (try simp only [List.getElem_toArray, List.getElem_cons_succ, List.getElem_cons_zero])
          go_simp
        (try simp only [List.getElem_toArray, List.getElem_cons_succ, List.getElem_cons_zero, Act.put, List.setIfInBounds_toArray, List.set_cons_zero, List.set_cons_succ])
        refine wpAnyE_take (i := 15) (oi := _) (v := .bool dn) rfl (by kernel_rfl) (by kernel_rfl) (by kernel_rfl) (by kernel_rfl) (fun _ _ _ h => h) (Or.inl ⟨by rfl, ?_⟩) hb0 ?_
        · intro w' hSw
          (try simp only [List.getElem_toArray, List.getElem_cons_succ, List.getElem_cons_zero])
          go_simp
        (try simp only [List.getElem_toArray, List.getElem_cons_succ, List.getElem_cons_zero, Act.put, List.setIfInBounds_toArray, List.set_cons_zero, List.set_cons_succ])
        refine ⟨fun h0 => absurd h0 (by rw [show Region.ready _ _ _ = [16, 17] from by kernel_rfl]; simp), fun j hj => ?_⟩
        rw [show Region.ready _ _ _ = [16, 17] from by kernel_rfl] at hj
        rcases List.mem_cons.1 hj with rfl | hj
        · refine wpOp_step (o := _) rfl (fun K hK => ?_)
          (try simp only [List.getElem_toArray, List.getElem_cons_succ, List.getElem_cons_zero])
          go_simp
          have k1 := Bk.made x1 41 accZ
          have zg1 : w2.heap.size ≤ x1.heap.size := hb0.size
          have hb0n := below_al hb0 (.cells accZ 41)
          clear hb0
          have hb0 := hb0n
          clear hb0n
          refine hK _ _ ⟨fun _ => hb0, ?_⟩
          clear hK K
          (try simp only [])
          generalize x1.alloc (.cells accZ 41) = x2 at *
          generalize x1.heap.size = g1 at *
          refine ⟨fun h0 => absurd h0 (by rw [show Region.ready _ _ _ = [17] from by kernel_rfl]; simp), fun j hj => ?_⟩
          rw [show Region.ready _ _ _ = [17] from by kernel_rfl] at hj
          obtain rfl := List.mem_singleton.1 hj
          refine wpOp_step (o := _) rfl (fun K hK => ?_)
          (try simp only [List.getElem_toArray, List.getElem_cons_succ, List.getElem_cons_zero])
          go_simp
          have k2 := Bk.made x2 47 outZ
          have zg2 : w2.heap.size ≤ x2.heap.size := hb0.size
          have hb0n := below_al hb0 (.cells outZ 47)
          have z12 : g1 ≠ x2.heap.size := by have := k1.lt; omega
          replace k1 := k1.alloc (.cells outZ 47)
          clear hb0
          have hb0 := hb0n
          clear hb0n
          refine hK _ _ ⟨fun _ => hb0, ?_⟩
          clear hK K
          (try simp only [])
          generalize x2.alloc (.cells outZ 47) = x3 at *
          generalize x2.heap.size = g2 at *
          refine wpAnyE_one (i := 18) (o := _) (by kernel_rfl) rfl (fun K hK => ?_)
          rw [if_pos (by rfl)]
          refine wp_store_row 41 (.tmp 11) (.tmp 130) rfl g1 (accC qk qc qo qv) rfl rfl 41 accZ k1 (by kernel_rfl) rfl (by simp [Value.oneCell']) ?_
          have hb1 := below_setRowB hb0 zg1 (accC qk qc qo qv)
          have k2' : Bk (x3.setRow g1 (accC qk qc qo qv)) g2 47 outZ := (setRow_other _ _ _ _ (fun e => z12 e.symm)).trans k2
          have k1' := setRow_heap _ _ accZ (accC qk qc qo qv) 41 (0, 0) k1
          refine hK.out _ _ (fun _ => hb1) ?_
          clear hK K
          (try simp only [List.getElem_toArray, List.getElem_cons_succ, List.getElem_cons_zero, Act.put])
          generalize x3.setRow g1 (accC qk qc qo qv) = y1 at *
          refine wpAnyE_one (i := 19) (o := _) (by kernel_rfl) rfl (fun K hK => ?_)
          rw [if_pos (by rfl)]
          refine wp_store_row 47 (.tmp 12) (.tmp 131) rfl g2 (outC val is err pt) rfl rfl 47 outZ k2' (by kernel_rfl) rfl (by simp [Value.oneCell']) ?_
          have hb2 := below_setRowB hb1 zg2 (outC val is err pt)
          have k1'' : Bk (y1.setRow g2 (outC val is err pt)) g1 41 (accC qk qc qo qv) := (setRow_other _ _ _ _ z12).trans k1'
          have k2'' := setRow_heap _ _ outZ (outC val is err pt) 47 (0, 0) k2'
          refine hK.out _ _ (fun _ => hb2) ?_
          clear hK K
          (try simp only [List.getElem_toArray, List.getElem_cons_succ, List.getElem_cons_zero, Act.put])
          generalize y1.setRow g2 (outC val is err pt) = y2 at *
          refine wpAnyE_one (i := 20) (o := _) (by kernel_rfl) rfl (fun K hK => ?_)
          (try simp only [List.getElem_toArray, List.getElem_cons_succ, List.getElem_cons_zero])
          go_simp
          refine hK.out _ _ (fun _ => hb2) ?_
          clear hK K
          (try simp only [List.getElem_toArray, List.getElem_cons_succ, List.getElem_cons_zero, Act.put, List.setIfInBounds_toArray, List.set_cons_zero, List.set_cons_succ])
          refine wpAnyE_done (by kernel_rfl) ?_ _
          go_wp2_with fail
          go_meet
          exact ⟨g1, g2, rfl, rfl, rfl, zg1, zg2, z12, hb2, k1'', k2''⟩
        obtain rfl := List.mem_singleton.1 hj
        refine wpOp_step (o := _) rfl (fun K hK => ?_)
        (try simp only [List.getElem_toArray, List.getElem_cons_succ, List.getElem_cons_zero])
        go_simp
        have k2 := Bk.made x1 47 outZ
        have zg2 : w2.heap.size ≤ x1.heap.size := hb0.size
        have hb0n := below_al hb0 (.cells outZ 47)
        clear hb0
        have hb0 := hb0n
        clear hb0n
        refine hK _ _ ⟨fun _ => hb0, ?_⟩
        clear hK K
        (try simp only [])
        generalize x1.alloc (.cells outZ 47) = x4 at *
        generalize x1.heap.size = g2 at *
        refine ⟨fun h0 => absurd h0 (by rw [show Region.ready _ _ _ = [16] from by kernel_rfl]; simp), fun j hj => ?_⟩
        rw [show Region.ready _ _ _ = [16] from by kernel_rfl] at hj
        obtain rfl := List.mem_singleton.1 hj
        refine wpOp_step (o := _) rfl (fun K hK => ?_)
        (try simp only [List.getElem_toArray, List.getElem_cons_succ, List.getElem_cons_zero])
        go_simp
        have k1 := Bk.made x4 41 accZ
        have zg1 : w2.heap.size ≤ x4.heap.size := hb0.size
        have hb0n := below_al hb0 (.cells accZ 41)
        have z12 : x4.heap.size ≠ g2 := by have := k2.lt; omega
        replace k2 := k2.alloc (.cells accZ 41)
        clear hb0
        have hb0 := hb0n
        clear hb0n
        refine hK _ _ ⟨fun _ => hb0, ?_⟩
        clear hK K
        (try simp only [])
        generalize x4.alloc (.cells accZ 41) = x5 at *
        generalize x4.heap.size = g1 at *
        refine wpAnyE_one (i := 18) (o := _) (by kernel_rfl) rfl (fun K hK => ?_)
        rw [if_pos (by rfl)]
        refine wp_store_row 41 (.tmp 11) (.tmp 130) rfl g1 (accC qk qc qo qv) rfl rfl 41 accZ k1 (by kernel_rfl) rfl (by simp [Value.oneCell']) ?_
        have hb1 := below_setRowB hb0 zg1 (accC qk qc qo qv)
        have k2' : Bk (x5.setRow g1 (accC qk qc qo qv)) g2 47 outZ := (setRow_other _ _ _ _ (fun e => z12 e.symm)).trans k2
        have k1' := setRow_heap _ _ accZ (accC qk qc qo qv) 41 (0, 0) k1
        refine hK.out _ _ (fun _ => hb1) ?_
        clear hK K
        (try simp only [List.getElem_toArray, List.getElem_cons_succ, List.getElem_cons_zero, Act.put])
        generalize x5.setRow g1 (accC qk qc qo qv) = y1 at *
        refine wpAnyE_one (i := 19) (o := _) (by kernel_rfl) rfl (fun K hK => ?_)
        rw [if_pos (by rfl)]
        refine wp_store_row 47 (.tmp 12) (.tmp 131) rfl g2 (outC val is err pt) rfl rfl 47 outZ k2' (by kernel_rfl) rfl (by simp [Value.oneCell']) ?_
        have hb2 := below_setRowB hb1 zg2 (outC val is err pt)
        have k1'' : Bk (y1.setRow g2 (outC val is err pt)) g1 41 (accC qk qc qo qv) := (setRow_other _ _ _ _ z12).trans k1'
        have k2'' := setRow_heap _ _ outZ (outC val is err pt) 47 (0, 0) k2'
        refine hK.out _ _ (fun _ => hb2) ?_
        clear hK K
        (try simp only [List.getElem_toArray, List.getElem_cons_succ, List.getElem_cons_zero, Act.put])
        generalize y1.setRow g2 (outC val is err pt) = y2 at *
        refine wpAnyE_one (i := 20) (o := _) (by kernel_rfl) rfl (fun K hK => ?_)
        (try simp only [List.getElem_toArray, List.getElem_cons_succ, List.getElem_cons_zero])
        go_simp
        refine hK.out _ _ (fun _ => hb2) ?_
        clear hK K
        (try simp only [List.getElem_toArray, List.getElem_cons_succ, List.getElem_cons_zero, Act.put, List.setIfInBounds_toArray, List.set_cons_zero, List.set_cons_succ])
        refine wpAnyE_done (by kernel_rfl) ?_ _
        go_wp2_with fail
        go_meet
        exact ⟨g1, g2, rfl, rfl, rfl, zg1, zg2, z12, hb2, k1'', k2''⟩
      rcases List.mem_cons.1 hj with rfl | hj
      · refine wpOp_step (o := _) rfl (fun K hK => ?_)
        (try simp only [List.getElem_toArray, List.getElem_cons_succ, List.getElem_cons_zero])
        go_simp
        have k1 := Bk.made w3 41 accZ
        have zg1 : w2.heap.size ≤ w3.heap.size := hb0.size
        have hb0n := below_al hb0 (.cells accZ 41)
        clear hb0
        have hb0 := hb0n
        clear hb0n
        refine hK _ _ ⟨fun _ => hb0, ?_⟩
        clear hK K
        (try simp only [])
        generalize w3.alloc (.cells accZ 41) = x6 at *
        generalize w3.heap.size = g1 at *
        refine ⟨fun h0 => absurd h0 (by rw [show Region.ready _ _ _ = [11, 17] from by kernel_rfl]; simp), fun j hj => ?_⟩
        rw [show Region.ready _ _ _ = [11, 17] from by kernel_rfl] at hj
        rcases List.mem_cons.1 hj with rfl | hj
        · refine wpOp_step (o := _) rfl (fun K hK => ?_)
          (try simp only [List.getElem_toArray, List.getElem_cons_succ, List.getElem_cons_zero])
          go_simp
          have h5 : OwnRes x6 0 (.slice G log.length cp) log := own_keepb' (show World.ownsRow w2 0 43 2 (.slice G log.length cp) log.length (resCells log) from HD5.out) hb0
          have h6 := own_slRes h5
          (with_reducible refine (next_any l who ⟨ok, oj, oa, ob⟩ G cp log _ HF.out (by dsimp only; omega) h6 (by omega)).mono ?_)
          clear h5 h6
          intro e x7 hpost
          obtain ⟨rfl, hb⟩ := ansIs_post HAI.out hpost
          have hb0n := below_tr hb0 hb
          replace k1 := k1.keep hb
          clear hb hpost hb0
          have hb0 := hb0n
          clear hb0n
          refine hK _ _ ⟨fun _ => hb0, ?_⟩
          clear hK K
          (try simp only [])
          refine wpAnyE_take (i := 12) (oi := _) (v := .tuple #[.agg (accC qk qc qo qv), .agg (outC val is err pt), .bool dn]) rfl (by kernel_rfl) (by kernel_rfl) (by kernel_rfl) (by kernel_rfl) (fun _ _ _ h => h) (Or.inl ⟨by rfl, ?_⟩) hb0 ?_
          · intro w' hSw
            (try simp only [List.getElem_toArray, List.getElem_cons_succ, List.getElem_cons_zero])
            go_simp
          (try simp only [List.getElem_toArray, List.getElem_cons_succ, List.getElem_cons_zero, Act.put, List.setIfInBounds_toArray, List.set_cons_zero, List.set_cons_succ])
          refine wpAnyE_take (i := 13) (oi := _) (v := .agg (accC qk qc qo qv)) rfl (by kernel_rfl) (by kernel_rfl) (by kernel_rfl) (by kernel_rfl) (fun _ _ _ h => h) (Or.inl ⟨by rfl, ?_⟩) hb0 ?_
          · intro w' hSw
            (try simp only [List.getElem_toArray, List.getElem_cons_succ, List.getElem_cons_zero])
            go_simp
          (try simp only [List.getElem_toArray, List.getElem_cons_succ, List.getElem_cons_zero, Act.put, List.setIfInBounds_toArray, List.set_cons_zero, List.set_cons_succ])
          refine wpAnyE_take (i := 14) (oi := _) (v := .agg (outC val is err pt)) rfl (by kernel_rfl) (by kernel_rfl) (by kernel_rfl) (by kernel_rfl) (fun _ _ _ h => h) (Or.inl ⟨by rfl, ?_⟩) hb0 ?_
          · intro w' hSw
            (try simp only [List.getElem_toArray, List.getElem_cons_succ, List.getElem_cons_zero])
            go_simp
          (try simp only [List.getElem_toArray, List.getElem_cons_succ, List.getElem_cons_zero, Act.put, List.setIfInBounds_toArray, List.set_cons_zero, List.set_cons_succ])
          refine wpAnyE_take (i := 15) (oi := _) (v := .bool dn) rfl (by kernel_rfl) (by kernel_rfl) (by kernel_rfl) (by kernel_rfl) (fun _ _ _ h => h) (Or.inl ⟨by rfl, ?_⟩) hb0 ?_
          · intro w' hSw
            (try simp only [List.getElem_toArray, List.getElem_cons_succ, List.getElem_cons_zero])
            go_simp
          (try simp only [List.getElem_toArray, List.getElem_cons_succ, List.getElem_cons_zero, Act.put, List.setIfInBounds_toArray, List.set_cons_zero, List.set_cons_succ])
          refine ⟨fun h0 => absurd h0 (by rw [show Region.ready _ _ _ = [17] from by kernel_rfl]; simp), fun j hj => ?_⟩
          rw [show Region.ready _ _ _ = [17] from by kernel_rfl] at hj
          obtain rfl := List.mem_singleton.1 hj
          refine wpOp_step (o := _) rfl (fun K hK => ?_)
          (try simp only [List.getElem_toArray, List.getElem_cons_succ, List.getElem_cons_zero])
          go_simp
          have k2 := Bk.made x7 47 outZ
          have zg2 : w2.heap.size ≤ x7.heap.size := hb0.size
          have hb0n := below_al hb0 (.cells outZ 47)
          have z12 : g1 ≠ x7.heap.size := by have := k1.lt; omega
          replace k1 := k1.alloc (.cells outZ 47)
          clear hb0
          have hb0 := hb0n
          clear hb0n
          refine hK _ _ ⟨fun _ => hb0, ?_⟩
          clear hK K
          (try simp only [])
          generalize x7.alloc (.cells outZ 47) = x8 at *
          generalize x7.heap.size = g2 at *
          refine wpAnyE_one (i := 18) (o := _) (by kernel_rfl) rfl (fun K hK => ?_)
          rw [if_pos (by rfl)]
          refine wp_store_row 41 (.tmp 11) (.tmp 130) rfl g1 (accC qk qc qo qv) rfl rfl 41 accZ k1 (by kernel_rfl) rfl (by simp [Value.oneCell']) ?_
          have hb1 := below_setRowB hb0 zg1 (accC qk qc qo qv)
          have k2' : Bk (x8.setRow g1 (accC qk qc qo qv)) g2 47 outZ := (setRow_other _ _ _ _ (fun e => z12 e.symm)).trans k2
          have k1' := setRow_heap _ _ accZ (accC qk qc qo qv) 41 (0, 0) k1
          refine hK.out _ _ (fun _ => hb1) ?_
          clear hK K
          (try simp only [List.getElem_toArray, List.getElem_cons_succ, List.getElem_cons_zero, Act.put])
          generalize x8.setRow g1 (accC qk qc qo qv) = y1 at *
          refine wpAnyE_one (i := 19) (o := _) (by kernel_rfl) rfl (fun K hK => ?_)
          rw [if_pos (by rfl)]
          refine wp_store_row 47 (.tmp 12) (.tmp 131) rfl g2 (outC val is err pt) rfl rfl 47 outZ k2' (by kernel_rfl) rfl (by simp [Value.oneCell']) ?_
          have hb2 := below_setRowB hb1 zg2 (outC val is err pt)
          have k1'' : Bk (y1.setRow g2 (outC val is err pt)) g1 41 (accC qk qc qo qv) := (setRow_other _ _ _ _ z12).trans k1'
          have k2'' := setRow_heap _ _ outZ (outC val is err pt) 47 (0, 0) k2'
          refine hK.out _ _ (fun _ => hb2) ?_
          clear hK K
          (try simp only [List.getElem_toArray, List.getElem_cons_succ, List.getElem_cons_zero, Act.put])
          generalize y1.setRow g2 (outC val is err pt) = y2 at *
          refine wpAnyE_one (i := 20) (o := _) (by kernel_rfl) rfl (fun K hK => ?_)
          (try simp only [List.getElem_toArray, List.getElem_cons_succ, List.getElem_cons_zero])
          go_simp
          refine hK.out _ _ (fun _ => hb2) ?_
          clear hK K
          (try simp only [List.getElem_toArray, List.getElem_cons_succ, List.getElem_cons_zero, Act.put, List.setIfInBounds_toArray, List.set_cons_zero, List.set_cons_succ])
          refine wpAnyE_done (by kernel_rfl) ?_ _
          go_wp2_with fail
          go_meet
          exact ⟨g1, g2, rfl, rfl, rfl, zg1, zg2, z12, hb2, k1'', k2''⟩
        obtain rfl := List.mem_singleton.1 hj
        refine wpOp_step (o := _) rfl (fun K hK => ?_)
        (try simp only [List.getElem_toArray, List.getElem_cons_succ, List.getElem_cons_zero])
        go_simp
        have k2 := Bk.made x6 47 outZ
        have zg2 : w2.heap.size ≤ x6.heap.size := hb0.size
        have hb0n := below_al hb0 (.cells outZ 47)
        have z12 : g1 ≠ x6.heap.size := by have := k1.lt; omega
        replace k1 := k1.alloc (.cells outZ 47)
        clear hb0
        have hb0 := hb0n
        clear hb0n
        refine hK _ _ ⟨fun _ => hb0, ?_⟩
        clear hK K
        (try simp only [])
        generalize x6.alloc (.cells outZ 47) = x9 at *
        generalize x6.heap.size = g2 at *
        refine ⟨fun h0 => absurd h0 (by rw [show Region.ready _ _ _ = [11] from by kernel_rfl]; simp), fun j hj => ?_⟩
        rw [show Region.ready _ _ _ = [11] from by kernel_rfl] at hj
        obtain rfl := List.mem_singleton.1 hj
        refine wpOp_step (o := _) rfl (fun K hK => ?_)
        (try simp only [List.getElem_toArray, List.getElem_cons_succ, List.getElem_cons_zero])
        go_simp
        have h5 : OwnRes x9 0 (.slice G log.length cp) log := own_keepb' (show World.ownsRow w2 0 43 2 (.slice G log.length cp) log.length (resCells log) from HD5.out) hb0
        have h6 := own_slRes h5
        (with_reducible refine (next_any l who ⟨ok, oj, oa, ob⟩ G cp log _ HF.out (by dsimp only; omega) h6 (by omega)).mono ?_)
        clear h5 h6
        intro e x10 hpost
        obtain ⟨rfl, hb⟩ := ansIs_post HAI.out hpost
        have hb0n := below_tr hb0 hb
        replace k1 := k1.keep hb
        replace k2 := k2.keep hb
        clear hb hpost hb0
        have hb0 := hb0n
        clear hb0n
        refine hK _ _ ⟨fun _ => hb0, ?_⟩
        clear hK K
        (try simp only [])
        refine wpAnyE_take (i := 12) (oi := _) (v := .tuple #[.agg (accC qk qc qo qv), .agg (outC val is err pt), .bool dn]) rfl (by kernel_rfl) (by kernel_rfl) (by kernel_rfl) (by kernel_rfl) (fun _ _ _ h => h) (Or.inl ⟨by rfl, ?_⟩) hb0 ?_
        · intro w' hSw
          (try simp only [List.getElem_toArray, List.getElem_cons_succ, List.getElem_cons_zero])
          go_simp
        (try simp only [List.getElem_toArray, List.getElem_cons_succ, List.getElem_cons_zero, Act.put, List.setIfInBounds_toArray, List.set_cons_zero, List.set_cons_succ])
        refine wpAnyE_take (i := 13) (oi := _) (v := .agg (accC qk qc qo qv)) rfl (by kernel_rfl) (by kernel_rfl) (by kernel_rfl) (by kernel_rfl) (fun _ _ _ h => h) (Or.inl ⟨by rfl, ?_⟩) hb0 ?_
        · intro w' hSw
          (try simp only [List.getElem_toArray, List.getElem_cons_succ, List.getElem_cons_zero])
          go_simp
        (try simp only [List.getElem_toArray, List.getElem_cons_succ, List.getElem_cons_zero, Act.put, List.setIfInBounds_toArray, List.set_cons_zero, List.set_cons_succ])
        refine wpAnyE_take (i := 14) (oi := _) (v := .agg (outC val is err pt)) rfl (by kernel_rfl) (by kernel_rfl) (by kernel_rfl) (by kernel_rfl) (fun _ _ _ h => h) (Or.inl ⟨by rfl, ?_⟩) hb0 ?_
        · intro w' hSw
          (try simp only [List.getElem_toArray, List.getElem_cons_succ, List.getElem_cons_zero])
          go_simp
        (try simp only [List.getElem_toArray, List.getElem_cons_succ, List.getElem_cons_zero, Act.put, List.setIfInBounds_toArray, List.set_cons_zero, List.set_cons_succ])
        refine wpAnyE_take (i := 15) (oi := _) (v := .bool dn) rfl (by kernel_rfl) (by kernel_rfl) (by kernel_rfl) (by kernel_rfl) (fun _ _ _ h => h) (Or.inl ⟨by rfl, ?_⟩) hb0 ?_
        · intro w' hSw
          (try simp only [List.getElem_toArray, List.getElem_cons_succ, List.getElem_cons_zero])
          go_simp
        (try simp only [List.getElem_toArray, List.getElem_cons_succ, List.getElem_cons_zero, Act.put, List.setIfInBounds_toArray, List.set_cons_zero, List.set_cons_succ])
        refine wpAnyE_one (i := 18) (o := _) (by kernel_rfl) rfl (fun K hK => ?_)
        rw [if_pos (by rfl)]
        refine wp_store_row 41 (.tmp 11) (.tmp 130) rfl g1 (accC qk qc qo qv) rfl rfl 41 accZ k1 (by kernel_rfl) rfl (by simp [Value.oneCell']) ?_
        have hb1 := below_setRowB hb0 zg1 (accC qk qc qo qv)
        have k2' : Bk (x10.setRow g1 (accC qk qc qo qv)) g2 47 outZ := (setRow_other _ _ _ _ (fun e => z12 e.symm)).trans k2
        have k1' := setRow_heap _ _ accZ (accC qk qc qo qv) 41 (0, 0) k1
        refine hK.out _ _ (fun _ => hb1) ?_
        clear hK K
        (try simp only [List.getElem_toArray, List.getElem_cons_succ, List.getElem_cons_zero, Act.put])
        generalize x10.setRow g1 (accC qk qc qo qv) = y1 at *
        refine wpAnyE_one (i := 19) (o := _) (by kernel_rfl) rfl (fun K hK => ?_)
        rw [if_pos (by rfl)]
        refine wp_store_row 47 (.tmp 12) (.tmp 131) rfl g2 (outC val is err pt) rfl rfl 47 outZ k2' (by kernel_rfl) rfl (by simp [Value.oneCell']) ?_
        have hb2 := below_setRowB hb1 zg2 (outC val is err pt)
        have k1'' : Bk (y1.setRow g2 (outC val is err pt)) g1 41 (accC qk qc qo qv) := (setRow_other _ _ _ _ z12).trans k1'
        have k2'' := setRow_heap _ _ outZ (outC val is err pt) 47 (0, 0) k2'
        refine hK.out _ _ (fun _ => hb2) ?_
        clear hK K
        (try simp only [List.getElem_toArray, List.getElem_cons_succ, List.getElem_cons_zero, Act.put])
        generalize y1.setRow g2 (outC val is err pt) = y2 at *
        refine wpAnyE_one (i := 20) (o := _) (by kernel_rfl) rfl (fun K hK => ?_)
        (try simp only [List.getElem_toArray, List.getElem_cons_succ, List.getElem_cons_zero])
        go_simp
        refine hK.out _ _ (fun _ => hb2) ?_
        clear hK K
        (try simp only [List.getElem_toArray, List.getElem_cons_succ, List.getElem_cons_zero, Act.put, List.setIfInBounds_toArray, List.set_cons_zero, List.set_cons_succ])
        refine wpAnyE_done (by kernel_rfl) ?_ _
        go_wp2_with fail
        go_meet
        exact ⟨g1, g2, rfl, rfl, rfl, zg1, zg2, z12, hb2, k1'', k2''⟩
      obtain rfl := List.mem_singleton.1 hj
      refine wpOp_step (o := _) rfl (fun K hK => ?_)
      (try simp only [List.getElem_toArray, List.getElem_cons_succ, List.getElem_cons_zero])
      go_simp
      have k2 := Bk.made w3 47 outZ
      have zg2 : w2.heap.size ≤ w3.heap.size := hb0.size
      have hb0n := below_al hb0 (.cells outZ 47)
      clear hb0
      have hb0 := hb0n
      clear hb0n
      refine hK _ _ ⟨fun _ => hb0, ?_⟩
      clear hK K
      (try simp only [])
      generalize w3.alloc (.cells outZ 47) = x11 at *
      generalize w3.heap.size = g2 at *
      refine ⟨fun h0 => absurd h0 (by rw [show Region.ready _ _ _ = [11, 16] from by kernel_rfl]; simp), fun j hj => ?_⟩
      rw [show Region.ready _ _ _ = [11, 16] from by kernel_rfl] at hj
      rcases List.mem_cons.1 hj with rfl | hj
      · refine wpOp_step (o := _) rfl (fun K hK => ?_)
        (try simp only [List.getElem_toArray, List.getElem_cons_succ, List.getElem_cons_zero])
        go_simp
        have h5 : OwnRes x11 0 (.slice G log.length cp) log := own_keepb' (show World.ownsRow w2 0 43 2 (.slice G log.length cp) log.length (resCells log) from HD5.out) hb0
        have h6 := own_slRes h5
        (with_reducible refine (next_any l who ⟨ok, oj, oa, ob⟩ G cp log _ HF.out (by dsimp only; omega) h6 (by omega)).mono ?_)
        clear h5 h6
        intro e x12 hpost
        obtain ⟨rfl, hb⟩ := ansIs_post HAI.out hpost
        have hb0n := below_tr hb0 hb
        replace k2 := k2.keep hb
        clear hb hpost hb0
        have hb0 := hb0n
        clear hb0n
        refine hK _ _ ⟨fun _ => hb0, ?_⟩
        clear hK K
        (try simp only [])
        refine wpAnyE_take (i := 12) (oi := _) (v := .tuple #[.agg (accC qk qc qo qv), .agg (outC val is err pt), .bool dn]) rfl (by kernel_rfl) (by kernel_rfl) (by kernel_rfl) (by kernel_rfl) (fun _ _ _ h => h) (Or.inl ⟨by rfl, ?_⟩) hb0 ?_
        · intro w' hSw
          (try simp only [List.getElem_toArray, List.getElem_cons_succ, List.getElem_cons_zero])
          go_simp
        (try simp only [List.getElem_toArray, List.getElem_cons_succ, List.getElem_cons_zero, Act.put, List.setIfInBounds_toArray, List.set_cons_zero, List.set_cons_succ])
        refine wpAnyE_take (i := 13) (oi := _) (v := .agg (accC qk qc qo qv)) rfl (by kernel_rfl) (by kernel_rfl) (by kernel_rfl) (by kernel_rfl) (fun _ _ _ h => h) (Or.inl ⟨by rfl, ?_⟩) hb0 ?_
        · intro w' hSw
          (try simp only [List.getElem_toArray, List.getElem_cons_succ, List.getElem_cons_zero])
          go_simp
        (try simp only [List.getElem_toArray, List.getElem_cons_succ, List.getElem_cons_zero, Act.put, List.setIfInBounds_toArray, List.set_cons_zero, List.set_cons_succ])
        refine wpAnyE_take (i := 14) (oi := _) (v := .agg (outC val is err pt)) rfl (by kernel_rfl) (by kernel_rfl) (by kernel_rfl) (by kernel_rfl) (fun _ _ _ h => h) (Or.inl ⟨by rfl, ?_⟩) hb0 ?_
        · intro w' hSw
          (try simp only [List.getElem_toArray, List.getElem_cons_succ, List.getElem_cons_zero])
          go_simp
        (try simp only [List.getElem_toArray, List.getElem_cons_succ, List.getElem_cons_zero, Act.put, List.setIfInBounds_toArray, List.set_cons_zero, List.set_cons_succ])
        refine wpAnyE_take (i := 15) (oi := _) (v := .bool dn) rfl (by kernel_rfl) (by kernel_rfl) (by kernel_rfl) (by kernel_rfl) (fun _ _ _ h => h) (Or.inl ⟨by rfl, ?_⟩) hb0 ?_
        · intro w' hSw
          (try simp only [List.getElem_toArray, List.getElem_cons_succ, List.getElem_cons_zero])
          go_simp
        (try simp only [List.getElem_toArray, List.getElem_cons_succ, List.getElem_cons_zero, Act.put, List.setIfInBounds_toArray, List.set_cons_zero, List.set_cons_succ])
        refine ⟨fun h0 => absurd h0 (by rw [show Region.ready _ _ _ = [16] from by kernel_rfl]; simp), fun j hj => ?_⟩
        rw [show Region.ready _ _ _ = [16] from by kernel_rfl] at hj
        obtain rfl := List.mem_singleton.1 hj
        refine wpOp_step (o := _) rfl (fun K hK => ?_)
        (try simp only [List.getElem_toArray, List.getElem_cons_succ, List.getElem_cons_zero])
        go_simp
        have k1 := Bk.made x12 41 accZ
        have zg1 : w2.heap.size ≤ x12.heap.size := hb0.size
        have hb0n := below_al hb0 (.cells accZ 41)
        have z12 : x12.heap.size ≠ g2 := by have := k2.lt; omega
        replace k2 := k2.alloc (.cells accZ 41)
        clear hb0
        have hb0 := hb0n
        clear hb0n
        refine hK _ _ ⟨fun _ => hb0, ?_⟩
        clear hK K
        (try simp only [])
        generalize x12.alloc (.cells accZ 41) = x13 at *
        generalize x12.heap.size = g1 at *
        refine wpAnyE_one (i := 18) (o := _) (by kernel_rfl) rfl (fun K hK => ?_)
        rw [if_pos (by rfl)]
        refine wp_store_row 41 (.tmp 11) (.tmp 130) rfl g1 (accC qk qc qo qv) rfl rfl 41 accZ k1 (by kernel_rfl) rfl (by simp [Value.oneCell']) ?_
        have hb1 := below_setRowB hb0 zg1 (accC qk qc qo qv)
        have k2' : Bk (x13.setRow g1 (accC qk qc qo qv)) g2 47 outZ := (setRow_other _ _ _ _ (fun e => z12 e.symm)).trans k2
        have k1' := setRow_heap _ _ accZ (accC qk qc qo qv) 41 (0, 0) k1
        refine hK.out _ _ (fun _ => hb1) ?_
        clear hK K
        (try simp only [List.getElem_toArray, List.getElem_cons_succ, List.getElem_cons_zero, Act.put])
        generalize x13.setRow g1 (accC qk qc qo qv) = y1 at *
        refine wpAnyE_one (i := 19) (o := _) (by kernel_rfl) rfl (fun K hK => ?_)
        rw [if_pos (by rfl)]
        refine wp_store_row 47 (.tmp 12) (.tmp 131) rfl g2 (outC val is err pt) rfl rfl 47 outZ k2' (by kernel_rfl) rfl (by simp [Value.oneCell']) ?_
        have hb2 := below_setRowB hb1 zg2 (outC val is err pt)
        have k1'' : Bk (y1.setRow g2 (outC val is err pt)) g1 41 (accC qk qc qo qv) := (setRow_other _ _ _ _ z12).trans k1'
        have k2'' := setRow_heap _ _ outZ (outC val is err pt) 47 (0, 0) k2'
        refine hK.out _ _ (fun _ => hb2) ?_
        clear hK K
        (try simp only [List.getElem_toArray, List.getElem_cons_succ, List.getElem_cons_zero, Act.put])
        generalize y1.setRow g2 (outC val is err pt) = y2 at *
        refine wpAnyE_one (i := 20) (o := _) (by kernel_rfl) rfl (fun K hK => ?_)
        (try simp only [List.getElem_toArray, List.getElem_cons_succ, List.getElem_cons_zero])
        go_simp
        refine hK.out _ _ (fun _ => hb2) ?_
        clear hK K
        (try simp only [List.getElem_toArray, List.getElem_cons_succ, List.getElem_cons_zero, Act.put, List.setIfInBounds_toArray, List.set_cons_zero, List.set_cons_succ])
        refine wpAnyE_done (by kernel_rfl) ?_ _
        go_wp2_with fail
        go_meet
        exact ⟨g1, g2, rfl, rfl, rfl, zg1, zg2, z12, hb2, k1'', k2''⟩
      obtain rfl := List.mem_singleton.1 hj
      refine wpOp_step (o := _) rfl (fun K hK => ?_)
      (try simp only [List.getElem_toArray, List.getElem_cons_succ, List.getElem_cons_zero])
      go_simp
      have k1 := Bk.made x11 41 accZ
      have zg1 : w2.heap.size ≤ x11.heap.size := hb0.size
      have hb0n := below_al hb0 (.cells accZ 41)
      have z12 : x11.heap.size ≠ g2 := by have := k2.lt; omega
      replace k2 := k2.alloc (.cells accZ 41)
      clear hb0
      have hb0 := hb0n
      clear hb0n
      refine hK _ _ ⟨fun _ => hb0, ?_⟩
      clear hK K
      (try simp only [])
      generalize x11.alloc (.cells accZ 41) = x14 at *
      generalize x11.heap.size = g1 at *
      refine ⟨fun h0 => absurd h0 (by rw [show Region.ready _ _ _ = [11] from by kernel_rfl]; simp), fun j hj => ?_⟩
      rw [show Region.ready _ _ _ = [11] from by kernel_rfl] at hj
      obtain rfl := List.mem_singleton.1 hj
      refine wpOp_step (o := _) rfl (fun K hK => ?_)
      (try simp only [List.getElem_toArray, List.getElem_cons_succ, List.getElem_cons_zero])
      go_simp
      have h5 : OwnRes x14 0 (.slice G log.length cp) log := own_keepb' (show World.ownsRow w2 0 43 2 (.slice G log.length cp) log.length (resCells log) from HD5.out) hb0
      have h6 := own_slRes h5
      (with_reducible refine (next_any l who ⟨ok, oj, oa, ob⟩ G cp log _ HF.out (by dsimp only; omega) h6 (by omega)).mono ?_)
      clear h5 h6
      intro e x15 hpost
      obtain ⟨rfl, hb⟩ := ansIs_post HAI.out hpost
      have hb0n := below_tr hb0 hb
      replace k1 := k1.keep hb
      replace k2 := k2.keep hb
      clear hb hpost hb0
      have hb0 := hb0n
      clear hb0n
      refine hK _ _ ⟨fun _ => hb0, ?_⟩
      clear hK K
      (try simp only [])
      refine wpAnyE_take (i := 12) (oi := _) (v := .tuple #[.agg (accC qk qc qo qv), .agg (outC val is err pt), .bool dn]) rfl (by kernel_rfl) (by kernel_rfl) (by kernel_rfl) (by kernel_rfl) (fun _ _ _ h => h) (Or.inl ⟨by rfl, ?_⟩) hb0 ?_
      · intro w' hSw
        (try simp only [List.getElem_toArray, List.getElem_cons_succ, List.getElem_cons_zero])
        go_simp
      (try simp only [List.getElem_toArray, List.getElem_cons_succ, List.getElem_cons_zero, Act.put, List.setIfInBounds_toArray, List.set_cons_zero, List.set_cons_succ])
      refine wpAnyE_take (i := 13) (oi := _) (v := .agg (accC qk qc qo qv)) rfl (by kernel_rfl) (by kernel_rfl) (by kernel_rfl) (by kernel_rfl) (fun _ _ _ h => h) (Or.inl ⟨by rfl, ?_⟩) hb0 ?_
      · intro w' hSw
        (try simp only [List.getElem_toArray, List.getElem_cons_succ, List.getElem_cons_zero])
        go_simp
      (try simp only [List.getElem_toArray, List.getElem_cons_succ, List.getElem_cons_zero, Act.put, List.setIfInBounds_toArray, List.set_cons_zero, List.set_cons_succ])
      refine wpAnyE_take (i := 14) (oi := _) (v := .agg (outC val is err pt)) rfl (by kernel_rfl) (by kernel_rfl) (by kernel_rfl) (by kernel_rfl) (fun _ _ _ h => h) (Or.inl ⟨by rfl, ?_⟩) hb0 ?_
      · intro w' hSw
        (try simp only [List.getElem_toArray, List.getElem_cons_succ, List.getElem_cons_zero])
        go_simp
      (try simp only [List.getElem_toArray, List.getElem_cons_succ, List.getElem_cons_zero, Act.put, List.setIfInBounds_toArray, List.set_cons_zero, List.set_cons_succ])
      refine wpAnyE_take (i := 15) (oi := _) (v := .bool dn) rfl (by kernel_rfl) (by kernel_rfl) (by kernel_rfl) (by kernel_rfl) (fun _ _ _ h => h) (Or.inl ⟨by rfl, ?_⟩) hb0 ?_
      · intro w' hSw
        (try simp only [List.getElem_toArray, List.getElem_cons_succ, List.getElem_cons_zero])
        go_simp
      (try simp only [List.getElem_toArray, List.getElem_cons_succ, List.getElem_cons_zero, Act.put, List.setIfInBounds_toArray, List.set_cons_zero, List.set_cons_succ])
      refine wpAnyE_one (i := 18) (o := _) (by kernel_rfl) rfl (fun K hK => ?_)
      rw [if_pos (by rfl)]
      refine wp_store_row 41 (.tmp 11) (.tmp 130) rfl g1 (accC qk qc qo qv) rfl rfl 41 accZ k1 (by kernel_rfl) rfl (by simp [Value.oneCell']) ?_
      have hb1 := below_setRowB hb0 zg1 (accC qk qc qo qv)
      have k2' : Bk (x15.setRow g1 (accC qk qc qo qv)) g2 47 outZ := (setRow_other _ _ _ _ (fun e => z12 e.symm)).trans k2
      have k1' := setRow_heap _ _ accZ (accC qk qc qo qv) 41 (0, 0) k1
      refine hK.out _ _ (fun _ => hb1) ?_
      clear hK K
      (try simp only [List.getElem_toArray, List.getElem_cons_succ, List.getElem_cons_zero, Act.put])
      generalize x15.setRow g1 (accC qk qc qo qv) = y1 at *
      refine wpAnyE_one (i := 19) (o := _) (by kernel_rfl) rfl (fun K hK => ?_)
      rw [if_pos (by rfl)]
      refine wp_store_row 47 (.tmp 12) (.tmp 131) rfl g2 (outC val is err pt) rfl rfl 47 outZ k2' (by kernel_rfl) rfl (by simp [Value.oneCell']) ?_
      have hb2 := below_setRowB hb1 zg2 (outC val is err pt)
      have k1'' : Bk (y1.setRow g2 (outC val is err pt)) g1 41 (accC qk qc qo qv) := (setRow_other _ _ _ _ z12).trans k1'
      have k2'' := setRow_heap _ _ outZ (outC val is err pt) 47 (0, 0) k2'
      refine hK.out _ _ (fun _ => hb2) ?_
      clear hK K
      (try simp only [List.getElem_toArray, List.getElem_cons_succ, List.getElem_cons_zero, Act.put])
      generalize y1.setRow g2 (outC val is err pt) = y2 at *
      refine wpAnyE_one (i := 20) (o := _) (by kernel_rfl) rfl (fun K hK => ?_)
      (try simp only [List.getElem_toArray, List.getElem_cons_succ, List.getElem_cons_zero])
      go_simp
      refine hK.out _ _ (fun _ => hb2) ?_
      clear hK K
      (try simp only [List.getElem_toArray, List.getElem_cons_succ, List.getElem_cons_zero, Act.put, List.setIfInBounds_toArray, List.set_cons_zero, List.set_cons_succ])
      refine wpAnyE_done (by kernel_rfl) ?_ _
      go_wp2_with fail
      go_meet
      exact ⟨g1, g2, rfl, rfl, rfl, zg1, zg2, z12, hb2, k1'', k2''⟩
    case rest =>
      obtain ⟨g1, g2, rfl, rfl, rfl, z1, z2, z12, hb3, kA, kO⟩ := hcut
      have hT4 := HT3.out.keep hb3
      have zbs : bs < w2.heap.size := kS.lt
      replace kS := kS.keep hb3
      replace kR2 := kR2.keep hb3
      replace hst := hst.trans (StpL.of_below _ hb3)
      clear HT3 hb3 kL2
      have HT4 := Lib.hid hT4
      clear hT4
      have zgs : gt < w.heap.size ∧ go < w.heap.size ∧ gl < w.heap.size ∧ gn < w.heap.size ∧ gh < w.heap.size := by
        obtain ⟨_, _, x1, _⟩ := HT0.out.tab
        obtain ⟨_, x2, _⟩ := HT0.out.ops
        obtain ⟨_, x3, _⟩ := HT0.out.logs
        obtain ⟨_, x4, _⟩ := HT0.out.nexts
        obtain ⟨_, x5, _⟩ := HT0.out.hass
        have := x1.lt; have := x2.lt; have := x3.lt; have := x4.lt; have := x5.lt
        omega
      cases dn with
      | true =>
        have hN : nextR l ⟨ok, oj, oa, ob⟩ log = .out val is err pt := by
          have h1 := HAI.out
          cases hr : nextR l ⟨ok, oj, oa, ob⟩ log with
          | ask _ _ _ _ => rw [hr] at h1; obtain ⟨_, _, _, _, _, h1⟩ := h1; cases h1
          | out _ _ _ _ => rw [hr] at h1; obtain ⟨_, rfl, rfl, rfl, rfl, _⟩ := h1; rfl
        have HN := Lib.hid hN
        clear hN
        have e11 := kS.cell 11
        have e12 := kS.cell 12
        have e13 := kS.cell 13
        have e14 := kS.cell 14
        have e15 := kS.cell 15
        have e16 := kS.cell 16
        have x11 := kS.free 11
        have x12 := kS.free 12
        have x13 := kS.free 13
        have x14 := kS.free 14
        have x15 := kS.free 15
        have x16 := kS.free 16
        have lbs := kS.lt
        have u0 := kO.cell 0
        have u1 := kO.cell 1
        have u2 := kO.cell 2
        have u3 := kO.cell 3
        have u4 := kO.cell 4
        have lg2 := kO.lt
        simp at e11 e12 e13 e14 e15 e16 u0 u1 u2 u3 u4
        go_upto_region 14 with fail
        clear e11 e12 e13 e14 e15 e16 x11 x12 x13 x14 x15 x16 lbs u0 u1 u2 u3 u4 lg2
        show Code.wp Try.prog _ _ _ ((((((wc.setCell ⟨bs, 11, none⟩ (.bool true)).setCell ⟨bs, 12, none⟩ (.int .i64 val)).setCell ⟨bs, 13, none⟩ (.bool is)).setCell ⟨bs, 14, none⟩ (.int .i64 err)).setCell ⟨bs, 15, none⟩ (.int .i64 pt)).setCell ⟨bs, 16, none⟩ (.slice none 0 0))
        have kS5 : Bk ((((((wc.setCell ⟨bs, 11, none⟩ (.bool true)).setCell ⟨bs, 12, none⟩ (.int .i64 val)).setCell ⟨bs, 13, none⟩ (.bool is)).setCell ⟨bs, 14, none⟩ (.int .i64 err)).setCell ⟨bs, 15, none⟩ (.int .i64 pt)).setCell ⟨bs, 16, none⟩ (.slice none 0 0)) bs 49 #[.int .i64 (who : Nat), .int .i64 ok, .int .i64 oj, .int .i64 oa, .int .i64 ob, .int .i64 0, .int .i64 0, .int .i64 0, .int .i64 0, .int .i64 0, .bool false, .bool true, .int .i64 val, .bool is, .int .i64 err, .int .i64 pt, .slice none 0 0] := (((((kS.stored 11 (.bool true)).stored 12 (.int .i64 val)).stored 13 (.bool is)).stored 14 (.int .i64 err)).stored 15 (.int .i64 pt)).stored 16 (.slice none 0 0)
        have hkS : KeptT 49 wc ((((((wc.setCell ⟨bs, 11, none⟩ (.bool true)).setCell ⟨bs, 12, none⟩ (.int .i64 val)).setCell ⟨bs, 13, none⟩ (.bool is)).setCell ⟨bs, 14, none⟩ (.int .i64 err)).setCell ⟨bs, 15, none⟩ (.int .i64 pt)).setCell ⟨bs, 16, none⟩ (.slice none 0 0)) := (((((keptT_set kS 11 (.bool true)).trans (keptT_set (kS.stored 11 (.bool true)) 12 (.int .i64 val))).trans (keptT_set ((kS.stored 11 (.bool true)).stored 12 (.int .i64 val)) 13 (.bool is))).trans (keptT_set (((kS.stored 11 (.bool true)).stored 12 (.int .i64 val)).stored 13 (.bool is)) 14 (.int .i64 err))).trans (keptT_set ((((kS.stored 11 (.bool true)).stored 12 (.int .i64 val)).stored 13 (.bool is)).stored 14 (.int .i64 err)) 15 (.int .i64 pt))).trans (keptT_set (((((kS.stored 11 (.bool true)).stored 12 (.int .i64 val)).stored 13 (.bool is)).stored 14 (.int .i64 err)).stored 15 (.int .i64 pt)) 16 (.slice none 0 0))
        have hT5 := HT4.out.keptT hkS (by decide) (by decide) (by decide) (by decide) (by decide) (by decide)
        have kO5 := kO.keptT hkS (by decide)
        have zb : w.heap.size ≤ bs := zS
        have kR5 : Bk ((((((wc.setCell ⟨bs, 11, none⟩ (.bool true)).setCell ⟨bs, 12, none⟩ (.int .i64 val)).setCell ⟨bs, 13, none⟩ (.bool is)).setCell ⟨bs, 14, none⟩ (.int .i64 err)).setCell ⟨bs, 15, none⟩ (.int .i64 pt)).setCell ⟨bs, 16, none⟩ (.slice none 0 0)) bR 49 stepZ := (((((kR2.other (p := ⟨bs, 11, none⟩) (by dsimp only; omega) _).other (p := ⟨bs, 12, none⟩) (by dsimp only; omega) _).other (p := ⟨bs, 13, none⟩) (by dsimp only; omega) _).other (p := ⟨bs, 14, none⟩) (by dsimp only; omega) _).other (p := ⟨bs, 15, none⟩) (by dsimp only; omega) _).other (p := ⟨bs, 16, none⟩) (by dsimp only; omega) _
        have hst5 : StpL [gt, go, gl, gn, gh] w ((((((wc.setCell ⟨bs, 11, none⟩ (.bool true)).setCell ⟨bs, 12, none⟩ (.int .i64 val)).setCell ⟨bs, 13, none⟩ (.bool is)).setCell ⟨bs, 14, none⟩ (.int .i64 err)).setCell ⟨bs, 15, none⟩ (.int .i64 pt)).setCell ⟨bs, 16, none⟩ (.slice none 0 0)) := (((((hst.setNew zb 11 _).setNew zb 12 _).setNew zb 13 _).setNew zb 14 _).setNew zb 15 _).setNew zb 16 _
        clear hkS kS kO kR2 hst HT4 kA
        generalize ((((((wc.setCell ⟨bs, 11, none⟩ (.bool true)).setCell ⟨bs, 12, none⟩ (.int .i64 val)).setCell ⟨bs, 13, none⟩ (.bool is)).setCell ⟨bs, 14, none⟩ (.int .i64 err)).setCell ⟨bs, 15, none⟩ (.int .i64 pt)).setCell ⟨bs, 16, none⟩ (.slice none 0 0)) = w5 at *
        have HT5 := Lib.hid hT5
        clear hT5
        have v1 := kO5.cell 1
        have s1 := kS5.cell 1
        have l1 := kO5.lt
        have l2 := kS5.lt
        simp at v1 s1
        obtain ⟨cnd, hcnd⟩ : ∃ b, (is && decide (ok = 1)) = b := ⟨_, rfl⟩
        obtain ⟨has2, hhas2⟩ : ∃ x, (if cnd then has ++ [val] else has) = x := ⟨_, rfl⟩
        have HCN := Lib.hid (And.intro hcnd hhas2)
        clear hcnd hhas2
        go_cut [144] from 137 to 144 (fun v wx => v = .bool cnd ∧ wx = w5)
        case first =>
          have h1 := HCN.out.1
          cases is with
          | false =>
            have h2 : cnd = false := by simpa using h1.symm
            subst h2
            go_wp2_with fail
            go_meet
            exact ⟨rfl, rfl⟩
          | true =>
            by_cases hk1 : ok = 1
            · have h2 : cnd = true := by rw [← h1]; simp [hk1]
              subst h2
              subst hk1
              clear h1
              go_wp2_with fail
              go_meet
              exact ⟨rfl, rfl⟩
            · have h2 : cnd = false := by rw [← h1]; simp [hk1]
              subst h2
              have g1 : (ok == (1 : Int)) = false := by simp [hk1]
              have g2 : decide (ok = (1 : Int)) = false := by simp [hk1]
              clear h1
              go_wp2_with fail
              go_meet
              exact ⟨rfl, rfl⟩
        case rest =>
          obtain ⟨rfl, hwd⟩ := hcut
          subst wc
          clear v1 s1 l1 l2
          go_upto_if 144 with fail
          go_cut [9] from 145 to 163 (fun v9 wx => v9 = .bool false ∧ TRep wx gt go gl gn gh n ⟨t.m, t.seats.set who ⟨⟨ok, oj, oa, ob⟩, log, nx, has2⟩⟩ ∧ StpL [gt, go, gl, gn, gh] w wx ∧ Bk wx bs 49 #[.int .i64 (who : Nat), .int .i64 ok, .int .i64 oj, .int .i64 oa, .int .i64 ob, .int .i64 0, .int .i64 0, .int .i64 0, .int .i64 0, .int .i64 0, .bool false, .bool true, .int .i64 val, .bool is, .int .i64 err, .int .i64 pt, .slice none 0 0] ∧ Bk wx bR 49 stepZ)
          case first =>
            have h2 := HCN.out.2
            cases cnd with
            | false =>
              have h3 : has2 = has := by simpa using h2.symm
              subst h3
              clear h2
              go_wp2_with fail
              go_meet
              exact ⟨rfl, HT5.out, hst5, kS5, kR5⟩
            | true =>
              have h3 : has2 = has ++ [val] := by simpa using h2.symm
              subst h3
              clear h2
              obtain ⟨gm, cm, a1, a2, a3⟩ := HT5.out.tab
              obtain ⟨c4, f1, f2, f3⟩ := HT5.out.hass
              obtain ⟨H, hc, f4, f5, f6⟩ := f3 who _ HSW.out
              have f7 := (f1.cell who).trans f4
              dsimp only at f7 f5 f6
              have hhl : has.length ≤ 900 := by
                have hw := wake_ok (want.getD who []) (HOK.out.seat s0 (List.mem_of_getElem? HS0.out))
                rw [HS.out] at hw
                exact hw.2.1
              have HF1 := Lib.hid (And.intro f1 (And.intro f2 f6))
              have HF5 := Lib.hid f5
              clear a2 a3 f2 f3 f4 f5 f6
              go_upto_region 15 with fail
              refine wp_region_E (S := fun w' => Below w5.drew.heap.size w5.drew w') (E := fun i => i == 19) (by kernel_rfl) ?_
              have hb5 := below_drew' (Below.refl w5.heap.size w5)
              replace a1 := a1.drew
              replace f7 : w5.drew.cell? ⟨gh, who, none⟩ = some (.slice H has.length hc) := f7
              replace f1 := f1.drew
              replace kO5 := kO5.drew
              have f5 : OwnInts w5.drew 0 (.slice H has.length hc) has := HF5.out
              generalize w5.drew = w6 at *
              obtain ⟨ri, hri⟩ := int_rowT
              refine wpAnyE_take (i := 0) (oi := _) (v := .pointer (some ⟨gt, 0, none⟩)) rfl (by kernel_rfl) (by kernel_rfl) (by kernel_rfl) (by kernel_rfl) (fun _ _ _ h => h) (Or.inl ⟨by rfl, ?_⟩) (Below.refl _ _) ?_
              · intro w' hSw
                (try simp only [List.getElem_toArray, List.getElem_cons_zero])
                go_simp
              (try simp only [List.getElem_toArray, List.getElem_cons_zero, Act.put, List.setIfInBounds_toArray, List.set_cons_zero, List.set_cons_succ])
              refine wpAnyE_take (i := 1) (oi := _) (v := .pointer (some ⟨gt, 0, none⟩)) rfl (by kernel_rfl) (by kernel_rfl) (by kernel_rfl) (by kernel_rfl) (fun _ _ _ h => h) (Or.inl ⟨by rfl, ?_⟩) (Below.refl _ _) ?_
              · intro w' hSw
                (try simp only [List.getElem_toArray, List.getElem_cons_succ, List.getElem_cons_zero])
                go_simp
              (try simp only [List.getElem_toArray, List.getElem_cons_succ, List.getElem_cons_zero, Act.put, List.setIfInBounds_toArray, List.set_cons_zero, List.set_cons_succ])
              refine wpAnyE_take (i := 2) (oi := _) (v := .pointer (some ⟨gt, 4, none⟩)) rfl (by kernel_rfl) (by kernel_rfl) (by kernel_rfl) (by kernel_rfl) (fun _ _ _ h => h) (Or.inl ⟨by rfl, ?_⟩) (Below.refl _ _) ?_
              · intro w' hSw
                (try simp only [List.getElem_toArray, List.getElem_cons_succ, List.getElem_cons_zero])
                go_simp
              (try simp only [List.getElem_toArray, List.getElem_cons_succ, List.getElem_cons_zero, Act.put, List.setIfInBounds_toArray, List.set_cons_zero, List.set_cons_succ])
              refine wpAnyE_take (i := 3) (oi := _) (v := .slice (some ⟨gh, 0, none⟩) n n) rfl (by kernel_rfl) (by kernel_rfl) (by kernel_rfl) (by kernel_rfl) (fun _ _ _ h => h) (Or.inl ⟨by rfl, ?_⟩) (Below.refl _ _) ?_
              · intro w' hSw
                have s1 := (a1.keep hSw).cell 4
                (try simp at s1)
                (try simp only [List.getElem_toArray, List.getElem_cons_succ, List.getElem_cons_zero])
                go_simp
              (try simp only [List.getElem_toArray, List.getElem_cons_succ, List.getElem_cons_zero, Act.put, List.setIfInBounds_toArray, List.set_cons_zero, List.set_cons_succ])
              refine wpAnyE_take (i := 4) (oi := _) (v := .int .i64 (who : Nat)) rfl (by kernel_rfl) (by kernel_rfl) (by kernel_rfl) (by kernel_rfl) (fun _ _ _ h => h) (Or.inl ⟨by rfl, ?_⟩) (Below.refl _ _) ?_
              · intro w' hSw
                (try simp only [List.getElem_toArray, List.getElem_cons_succ, List.getElem_cons_zero])
                go_simp
              (try simp only [List.getElem_toArray, List.getElem_cons_succ, List.getElem_cons_zero, Act.put, List.setIfInBounds_toArray, List.set_cons_zero, List.set_cons_succ])
              refine wpAnyE_take (i := 6) (oi := _) (v := .pointer (some ⟨gt, 0, none⟩)) rfl (by kernel_rfl) (by kernel_rfl) (by kernel_rfl) (by kernel_rfl) (fun _ _ _ h => h) (Or.inl ⟨by rfl, ?_⟩) (Below.refl _ _) ?_
              · intro w' hSw
                (try simp only [List.getElem_toArray, List.getElem_cons_succ, List.getElem_cons_zero])
                go_simp
              (try simp only [List.getElem_toArray, List.getElem_cons_succ, List.getElem_cons_zero, Act.put, List.setIfInBounds_toArray, List.set_cons_zero, List.set_cons_succ])
              refine wpAnyE_take (i := 7) (oi := _) (v := .pointer (some ⟨gt, 0, none⟩)) rfl (by kernel_rfl) (by kernel_rfl) (by kernel_rfl) (by kernel_rfl) (fun _ _ _ h => h) (Or.inl ⟨by rfl, ?_⟩) (Below.refl _ _) ?_
              · intro w' hSw
                (try simp only [List.getElem_toArray, List.getElem_cons_succ, List.getElem_cons_zero])
                go_simp
              (try simp only [List.getElem_toArray, List.getElem_cons_succ, List.getElem_cons_zero, Act.put, List.setIfInBounds_toArray, List.set_cons_zero, List.set_cons_succ])
              refine wpAnyE_take (i := 8) (oi := _) (v := .pointer (some ⟨gt, 4, none⟩)) rfl (by kernel_rfl) (by kernel_rfl) (by kernel_rfl) (by kernel_rfl) (fun _ _ _ h => h) (Or.inl ⟨by rfl, ?_⟩) (Below.refl _ _) ?_
              · intro w' hSw
                (try simp only [List.getElem_toArray, List.getElem_cons_succ, List.getElem_cons_zero])
                go_simp
              (try simp only [List.getElem_toArray, List.getElem_cons_succ, List.getElem_cons_zero, Act.put, List.setIfInBounds_toArray, List.set_cons_zero, List.set_cons_succ])
              refine wpAnyE_take (i := 9) (oi := _) (v := .slice (some ⟨gh, 0, none⟩) n n) rfl (by kernel_rfl) (by kernel_rfl) (by kernel_rfl) (by kernel_rfl) (fun _ _ _ h => h) (Or.inl ⟨by rfl, ?_⟩) (Below.refl _ _) ?_
              · intro w' hSw
                have s1 := (a1.keep hSw).cell 4
                (try simp at s1)
                (try simp only [List.getElem_toArray, List.getElem_cons_succ, List.getElem_cons_zero])
                go_simp
              (try simp only [List.getElem_toArray, List.getElem_cons_succ, List.getElem_cons_zero, Act.put, List.setIfInBounds_toArray, List.set_cons_zero, List.set_cons_succ])
              refine wpAnyE_take (i := 10) (oi := _) (v := .int .i64 (who : Nat)) rfl (by kernel_rfl) (by kernel_rfl) (by kernel_rfl) (by kernel_rfl) (fun _ _ _ h => h) (Or.inl ⟨by rfl, ?_⟩) (Below.refl _ _) ?_
              · intro w' hSw
                (try simp only [List.getElem_toArray, List.getElem_cons_succ, List.getElem_cons_zero])
                go_simp
              (try simp only [List.getElem_toArray, List.getElem_cons_succ, List.getElem_cons_zero, Act.put, List.setIfInBounds_toArray, List.set_cons_zero, List.set_cons_succ])
              refine wpAnyE_take (i := 11) (oi := _) (v := .pointer (some ⟨gh, who, none⟩)) rfl (by kernel_rfl) (by kernel_rfl) (by kernel_rfl) (by kernel_rfl) (fun _ _ _ h => h) (Or.inl ⟨by rfl, ?_⟩) (Below.refl _ _) ?_
              · intro w' hSw
                have g3 : (who : Int) < n := by omega
                (try simp only [List.getElem_toArray, List.getElem_cons_succ, List.getElem_cons_zero])
                go_simp
              (try simp only [List.getElem_toArray, List.getElem_cons_succ, List.getElem_cons_zero, Act.put, List.setIfInBounds_toArray, List.set_cons_zero, List.set_cons_succ])
              refine wpAnyE_take (i := 12) (oi := _) (v := .slice H has.length hc) rfl (by kernel_rfl) (by kernel_rfl) (by kernel_rfl) (by kernel_rfl) (fun _ _ _ h => h) (Or.inl ⟨by rfl, ?_⟩) (Below.refl _ _) ?_
              · intro w' hSw
                have s1 := cell_keep hSw f7
                (try simp at s1)
                (try simp only [List.getElem_toArray, List.getElem_cons_succ, List.getElem_cons_zero])
                go_simp
              (try simp only [List.getElem_toArray, List.getElem_cons_succ, List.getElem_cons_zero, Act.put, List.setIfInBounds_toArray, List.set_cons_zero, List.set_cons_succ])
              refine wpAnyE_take (i := 14) (oi := _) (v := .pointer (some ⟨g2, 0, none⟩)) rfl (by kernel_rfl) (by kernel_rfl) (by kernel_rfl) (by kernel_rfl) (fun _ _ _ h => h) (Or.inl ⟨by rfl, ?_⟩) (Below.refl _ _) ?_
              · intro w' hSw
                (try simp only [List.getElem_toArray, List.getElem_cons_succ, List.getElem_cons_zero])
                go_simp
              (try simp only [List.getElem_toArray, List.getElem_cons_succ, List.getElem_cons_zero, Act.put, List.setIfInBounds_toArray, List.set_cons_zero, List.set_cons_succ])
              refine wpAnyE_take (i := 15) (oi := _) (v := .int .i64 val) rfl (by kernel_rfl) (by kernel_rfl) (by kernel_rfl) (by kernel_rfl) (fun _ _ _ h => h) (Or.inl ⟨by rfl, ?_⟩) (Below.refl _ _) ?_
              · intro w' hSw
                have s1 := (kO5.keep hSw).cell 0
                (try simp at s1)
                (try simp only [List.getElem_toArray, List.getElem_cons_succ, List.getElem_cons_zero])
                go_simp
              (try simp only [List.getElem_toArray, List.getElem_cons_succ, List.getElem_cons_zero, Act.put, List.setIfInBounds_toArray, List.set_cons_zero, List.set_cons_succ])
              refine wpAnyE_app2 hri 5 13 16 17 150 158 161 162 (.tmp 157) (.tmp 160) rfl rfl rfl rfl ⟨rfl, rfl, rfl⟩ ⟨rfl, rfl, rfl⟩ ⟨rfl, rfl, rfl⟩ ⟨rfl, rfl, rfl⟩ (by kernel_rfl) (by kernel_rfl) (by kernel_rfl) (by kernel_rfl) (by kernel_rfl) (by kernel_rfl) (by simp) ⟨of_decide_eq_true (by kernel_rfl), of_decide_eq_true (by kernel_rfl), of_decide_eq_true (by kernel_rfl)⟩ w6.heap.size (Nat.le_refl _) (Below.refl _ _) (fun w1 w2 h12 h1 => h1.trans h12) H has.length hc (ints has) rfl (Src.own f5 (Nat.le_refl _)) (ints_one has) (.int .i64 val) #[.int .i64 val] rfl (fun w => by kernel_rfl) rfl (by simp [Value.oneCell']) (by omega) (by omega) ?_
              intro vA vB vC vD w15 hown hb15 hS15
              (try simp only [Act.put, List.setIfInBounds_toArray, List.set_cons_zero, List.set_cons_succ])
              have zg : gn < w6.heap.size := by
                have := hb5.size
                obtain ⟨_, x4, _⟩ := HT5.out.nexts
                have := x4.lt
                omega
              obtain ⟨GD, cD, rfl⟩ := own_slice hown
              refine wpAnyE_take (i := 18) (oi := _) (v := .pointer (some ⟨gh, who, none⟩)) rfl (by kernel_rfl) (by kernel_rfl) (by kernel_rfl) (by kernel_rfl) (fun _ _ _ h => h) (Or.inl ⟨by rfl, ?_⟩) hS15 ?_
              · intro w' hSw
                have g3 : (who : Int) < n := by omega
                (try simp only [List.getElem_toArray, List.getElem_cons_succ, List.getElem_cons_zero])
                go_simp
              (try simp only [List.getElem_toArray, List.getElem_cons_succ, List.getElem_cons_zero, Act.put, List.setIfInBounds_toArray, List.set_cons_zero, List.set_cons_succ])
              have x1 := cell_keep hb15 f7
              have xf := (f1.keep hb15).free who
              have xl := (f1.keep hb15).lt
              refine wpAnyE_one (i := 19) (o := _) (by kernel_rfl) rfl (fun K hK => ?_)
              (try simp only [List.getElem_toArray, List.getElem_cons_succ, List.getElem_cons_zero])
              go_simp
              clear x1 xf xl
              refine hK.out _ _ (fun h => absurd h (by decide)) ?_
              clear hK K
              refine wpAnyE_done (by kernel_rfl) ?_ _
              have hin : OwnInts w15 0 (.slice GD (has ++ [val]).length cD) (has ++ [val]) := by
                unfold OwnInts
                rw [show ints (has ++ [val]) = ints has ++ [.int .i64 val] from by simp [ints], List.length_append]
                exact own_lower hown (Nat.zero_le _)
              have hng : (Value.slice GD (has ++ [val]).length cD).ownBlock ≠ some gn := fun e => by
                rw [List.length_append] at e
                have := (World.ownsRow.lt hown gn e).1
                omega
              have hbb := below_tr hb5 hb15
              have hT6 := (HT5.out.keep hbb).has HSW.out hin hng
              dsimp only at hT6
              rw [List.set_set, List.length_append] at hT6
              have hst6 := (hst5.trans (StpL.of_below _ hbb)).trans (StpL.set (L := [gt, go, gl, gn, gh]) (g := gh) (by simp) w15 who (.slice GD (has.length + 1) cD))
              have hk6 := keptT_set (f1.keep hb15) who (.slice GD (has.length + 1) cD)
              have kS6 := (kS5.keep hbb).keptT hk6 (by decide)
              have kR6 := (kR5.keep hbb).keptT hk6 (by decide)
              go_wp2_with fail
              go_meet
              exact ⟨rfl, hT6, hst6, kS6, kR6⟩
          case rest =>
            obtain ⟨rfl, hT6, hst6, kS6, kR6⟩ := hcut
            clear kS5 kR5 kO5 HT5 hst5
            have hsw2 : (t.seats.set who ⟨⟨ok, oj, oa, ob⟩, log, nx, has2⟩)[who]? = some ⟨⟨ok, oj, oa, ob⟩, log, nx, has2⟩ := List.getElem?_set_self (by rw [HT0.out.ns]; exact hwn)
            obtain ⟨gm, cm, a1, a2, a3⟩ := hT6.tab
            obtain ⟨c1, b1, b2, b3⟩ := hT6.ops
            obtain ⟨b31, b32, b33, b34⟩ := b3 who _ hsw2
            have p1 := a1.cell 1
            have lt := a1.lt
            have o1 := (b1.cell (who * 4)).trans b31
            have o2 := (b1.cell (who * 4 + 1)).trans b32
            have o3 := (b1.cell (who * 4 + 2)).trans b33
            have o4 := (b1.cell (who * 4 + 3)).trans b34
            have y1 := b1.free (who * 4)
            have y2 := b1.free (who * 4 + 1)
            have y3 := b1.free (who * 4 + 2)
            have y4 := b1.free (who * 4 + 3)
            have lo := b1.lt
            simp at p1 o1 o2 o3 o4
            have hT7 := hT6.op (op := op0) hsw2
            dsimp only at hT7
            rw [List.set_set] at hT7
            have hgo : go ∈ [gt, go, gl, gn, gh] := by simp
            have hst7 : StpL [gt, go, gl, gn, gh] w (setOpW wc go who op0) := hst6.trans ((((StpL.set hgo _ (who * 4) _).trans (StpL.set hgo _ (who * 4 + 1) _)).trans (StpL.set hgo _ (who * 4 + 2) _)).trans (StpL.set hgo _ (who * 4 + 3) _))
            have kS7 : Bk (setOpW wc go who op0) bs 49 #[.int .i64 (who : Nat), .int .i64 ok, .int .i64 oj, .int .i64 oa, .int .i64 ob, .int .i64 0, .int .i64 0, .int .i64 0, .int .i64 0, .int .i64 0, .bool false, .bool true, .int .i64 val, .bool is, .int .i64 err, .int .i64 pt, .slice none 0 0] := (((kS6.other (p := ⟨go, who * 4, none⟩) (by dsimp only; omega) _).other (p := ⟨go, who * 4 + 1, none⟩) (by dsimp only; omega) _).other (p := ⟨go, who * 4 + 2, none⟩) (by dsimp only; omega) _).other (p := ⟨go, who * 4 + 3, none⟩) (by dsimp only; omega) _
            have kR7 : Bk (setOpW wc go who op0) bR 49 stepZ := (((kR6.other (p := ⟨go, who * 4, none⟩) (by dsimp only; omega) _).other (p := ⟨go, who * 4 + 1, none⟩) (by dsimp only; omega) _).other (p := ⟨go, who * 4 + 2, none⟩) (by dsimp only; omega) _).other (p := ⟨go, who * 4 + 3, none⟩) (by dsimp only; omega) _
            have HT7 := Lib.hid hT7
            clear hT6 hT7 a1 a2 a3 b1 b2 b3 b31 b32 b33 b34 hsw2
            go_upto_region 17 with fail
            clear p1 lt o1 o2 o3 o4 y1 y2 y3 y4 lo
            show Code.wp Try.prog _ _ _ (setOpW wc go who op0)
            generalize setOpW wc go who op0 = w8 at *
            have hT8 := HT7.out.keptT (w' := w8.setRow bR #[.int .i64 (who : Nat), .int .i64 ok, .int .i64 oj, .int .i64 oa, .int .i64 ob, .int .i64 0, .int .i64 0, .int .i64 0, .int .i64 0, .int .i64 0, .bool false, .bool true, .int .i64 val, .bool is, .int .i64 err, .int .i64 pt, .slice none 0 0]) (keptT_row kR7) (by decide) (by decide) (by decide) (by decide) (by decide) (by decide)
            have hst8 := hst7.rowNew (g := bR) (by omega) #[.int .i64 (who : Nat), .int .i64 ok, .int .i64 oj, .int .i64 oa, .int .i64 ob, .int .i64 0, .int .i64 0, .int .i64 0, .int .i64 0, .int .i64 0, .bool false, .bool true, .int .i64 val, .bool is, .int .i64 err, .int .i64 pt, .slice none 0 0]
            have kf := setRow_heap _ _ stepZ #[.int .i64 (who : Nat), .int .i64 ok, .int .i64 oj, .int .i64 oa, .int .i64 ob, .int .i64 0, .int .i64 0, .int .i64 0, .int .i64 0, .int .i64 0, .bool false, .bool true, .int .i64 val, .bool is, .int .i64 err, .int .i64 pt, .slice none 0 0] 49 (0, 0) kR7
            have hres : turnA l want who t = (⟨t.m, t.seats.set who ⟨op0, log, nx, has2⟩⟩, some (doneA who ⟨ok, oj, oa, ob⟩ val is err pt)) := by
              unfold turnA
              rw [HS0.out]
              dsimp only
              rw [HS.out]
              dsimp only
              rw [if_neg hk0, HN.out]
              dsimp only
              rw [HCN.out.1, HCN.out.2]
            go_wp2_with (first
              | (refine wpList_load_row rfl 49 (.tmp 10) rfl bs rfl 49 #[.int .i64 (who : Nat), .int .i64 ok, .int .i64 oj, .int .i64 oa, .int .i64 ob, .int .i64 0, .int .i64 0, .int .i64 0, .int .i64 0, .int .i64 0, .bool false, .bool true, .int .i64 val, .bool is, .int .i64 err, .int .i64 pt, .slice none 0 0] (0, 0) _ kS7 Try.underlying49 rfl (by kernel_rfl) ?_)
              | (refine wpList_store_rowTo rfl 49 (.tmp 8) (.tmp 171) rfl rfl bR #[.int .i64 (who : Nat), .int .i64 ok, .int .i64 oj, .int .i64 oa, .int .i64 ob, .int .i64 0, .int .i64 0, .int .i64 0, .int .i64 0, .int .i64 0, .bool false, .bool true, .int .i64 val, .bool is, .int .i64 err, .int .i64 pt, .slice none 0 0] rfl rfl 49 stepZ kR7 (by kernel_rfl) rfl (by simp [Value.oneCell']) ?_))
            refine bodyPost_ret (v := .tuple #[.agg #[.int .i64 (who : Nat), .int .i64 ok, .int .i64 oj, .int .i64 oa, .int .i64 ob, .int .i64 0, .int .i64 0, .int .i64 0, .int .i64 0, .int .i64 0, .bool false, .bool true, .int .i64 val, .bool is, .int .i64 err, .int .i64 pt, .slice none 0 0], .bool true]) (results_cell_tmp (p := 8) (t := 9) (ty := 49) rfl _ _ bR 49 _ (0, 0) _ _ rfl rfl kf Try.underlying49 rfl (by kernel_rfl)) rfl ?_
            rw [hres]
            exact ⟨rfl, hT8, hst8⟩
      | false =>
        have hN : nextR l ⟨ok, oj, oa, ob⟩ log = .ask qk qc qo qv := by
          have h1 := HAI.out
          cases hr : nextR l ⟨ok, oj, oa, ob⟩ log with
          | ask _ _ _ _ => rw [hr] at h1; obtain ⟨⟨rfl, rfl, rfl, rfl⟩, _⟩ := h1; rfl
          | out _ _ _ _ => rw [hr] at h1; obtain ⟨_, _, _, _, _, h1⟩ := h1; cases h1
        have he : (⟨qk, qc, qo, qv⟩ : Acc).err t.m.length = 0 := HE.out _ _ _ _ (by rw [HS.out]; exact hN)
        have HN := Lib.hid (And.intro hN he)
        clear hN he
        go_upto_region 18 with fail
        obtain ⟨w5, hw5⟩ : ∃ x, x = wc := ⟨_, rfl⟩
        subst hw5
        go_cut [14, 15, 16] from 172 to 181 (fun v14 v15 v16 wx => DoRel ⟨qk, qc, qo, qv⟩ t.m w5 v14 v15 v16 wx)
        case first =>
          obtain ⟨gm, cm, a1, a2, a3⟩ := HT4.out.tab
          dsimp only at a1 a2
          have HA2 := Lib.hid a2
          have hml := HOK.out.ml
          clear a2 a3
          refine wp_region_E (S := fun w' => Below w5.heap.size w5 w') (E := fun _ => false) (by kernel_rfl) ?_
          have hb0 := below_drew' (Below.refl w5.heap.size w5)
          generalize w5.drew = w6 at *
          refine wpAnyE_take (i := 0) (oi := _) (v := .pointer (some ⟨gt, 0, none⟩)) rfl (by kernel_rfl) (by kernel_rfl) (by kernel_rfl) (by kernel_rfl) (fun _ _ _ h => h) (Or.inl ⟨by rfl, ?_⟩) hb0 ?_
          · intro w' hSw
            (try simp only [List.getElem_toArray, List.getElem_cons_zero])
            go_simp
          (try simp only [List.getElem_toArray, List.getElem_cons_zero, Act.put, List.setIfInBounds_toArray, List.set_cons_zero, List.set_cons_succ])
          refine wpAnyE_take (i := 1) (oi := _) (v := .pointer (some ⟨gt, 0, none⟩)) rfl (by kernel_rfl) (by kernel_rfl) (by kernel_rfl) (by kernel_rfl) (fun _ _ _ h => h) (Or.inl ⟨by rfl, ?_⟩) hb0 ?_
          · intro w' hSw
            (try simp only [List.getElem_toArray, List.getElem_cons_succ, List.getElem_cons_zero])
            go_simp
          (try simp only [List.getElem_toArray, List.getElem_cons_succ, List.getElem_cons_zero, Act.put, List.setIfInBounds_toArray, List.set_cons_zero, List.set_cons_succ])
          refine wpAnyE_take (i := 2) (oi := _) (v := .pointer (some ⟨gt, 0, none⟩)) rfl (by kernel_rfl) (by kernel_rfl) (by kernel_rfl) (by kernel_rfl) (fun _ _ _ h => h) (Or.inl ⟨by rfl, ?_⟩) hb0 ?_
          · intro w' hSw
            (try simp only [List.getElem_toArray, List.getElem_cons_succ, List.getElem_cons_zero])
            go_simp
          (try simp only [List.getElem_toArray, List.getElem_cons_succ, List.getElem_cons_zero, Act.put, List.setIfInBounds_toArray, List.set_cons_zero, List.set_cons_succ])
          refine wpAnyE_take (i := 3) (oi := _) (v := .agg #[.slice (some ⟨gm, 0, none⟩) t.m.length cm]) rfl (by kernel_rfl) (by kernel_rfl) (by kernel_rfl) (by kernel_rfl) (fun _ _ _ h => h) (Or.inl ⟨by rfl, ?_⟩) hb0 ?_
          · intro w' hSw
            have s1 := (a1.keep hSw).cell 0
            (try simp at s1)
            (try simp only [List.getElem_toArray, List.getElem_cons_succ, List.getElem_cons_zero])
            go_simp
          (try simp only [List.getElem_toArray, List.getElem_cons_succ, List.getElem_cons_zero, Act.put, List.setIfInBounds_toArray, List.set_cons_zero, List.set_cons_succ])
          refine wpAnyE_take (i := 4) (oi := _) (v := .agg (accC qk qc qo qv)) rfl (by kernel_rfl) (by kernel_rfl) (by kernel_rfl) (by kernel_rfl) (fun _ _ _ h => h) (Or.inl ⟨by rfl, ?_⟩) hb0 ?_
          · intro w' hSw
            have s0 := (kA.keep hSw).cell 0
            have s1 := (kA.keep hSw).cell 1
            have s2 := (kA.keep hSw).cell 2
            have s3 := (kA.keep hSw).cell 3
            (try simp at s0 s1 s2 s3)
            (try simp only [List.getElem_toArray, List.getElem_cons_succ, List.getElem_cons_zero])
            go_simp
          (try simp only [List.getElem_toArray, List.getElem_cons_succ, List.getElem_cons_zero, Act.put, List.setIfInBounds_toArray, List.set_cons_zero, List.set_cons_succ])
          refine ⟨fun h0 => absurd h0 (by rw [show Region.ready _ _ _ = [5, 10, 11] from by kernel_rfl]; simp), fun j hj => ?_⟩
          rw [show Region.ready _ _ _ = [5, 10, 11] from by kernel_rfl] at hj
          rcases List.mem_cons.1 hj with rfl | hj
          · refine wpOp_step (o := _) rfl (fun K hK => ?_)
            (try simp only [List.getElem_toArray, List.getElem_cons_succ, List.getElem_cons_zero])
            go_simp
            have h5 : OwnInts w6 0 (.slice (some ⟨gm, 0, none⟩) t.m.length cm) t.m := own_keepb' (show World.ownsRow w5 0 3 1 (.slice (some ⟨gm, 0, none⟩) t.m.length cm) t.m.length (ints t.m) from HA2.out) hb0
            have h6 := own_sl h5 rfl
            (with_reducible refine (do_ok (some ⟨gm, 0, none⟩) cm t.m ⟨qk, qc, qo, qv⟩ _ h6 (by omega) HN.out.2).mono ?_)
            clear h5 h6
            rintro e x1 ⟨g, cap, rfl, hown, hb⟩
            have zg : w5.heap.size ≤ g := by
              have := (World.ownsRow.lt hown g rfl).1
              have := hb0.size
              omega
            have hb0n := below_tr hb0 hb
            have hom : OwnInts x1 0 (.slice (some ⟨g, 0, none⟩) t.m.length cap) ((⟨qk, qc, qo, qv⟩ : Acc).make t.m) := own_mono hown (Nat.zero_le _)
            clear hb hb0 hown
            have hb0 := hb0n
            clear hb0n
            refine hK _ _ ⟨fun _ => hb0, ?_⟩
            clear hK K
            (try simp only [])
            refine wpAnyE_take (i := 6) (oi := _) (v := .tuple #[.agg #[.slice (some ⟨g, 0, none⟩) t.m.length cap], .agg #[.int .i64 ((⟨qk, qc, qo, qv⟩ : Acc).had t.m), .bool ((⟨qk, qc, qo, qv⟩ : Acc).ok ((⟨qk, qc, qo, qv⟩ : Acc).had t.m))], .int .i64 0]) rfl (by kernel_rfl) (by kernel_rfl) (by kernel_rfl) (by kernel_rfl) (fun _ _ _ h => h) (Or.inl ⟨by rfl, ?_⟩) hb0 ?_
            · intro w' hSw
              (try simp only [List.getElem_toArray, List.getElem_cons_succ, List.getElem_cons_zero])
              go_simp
            (try simp only [List.getElem_toArray, List.getElem_cons_succ, List.getElem_cons_zero, Act.put, List.setIfInBounds_toArray, List.set_cons_zero, List.set_cons_succ])
            refine wpAnyE_take (i := 7) (oi := _) (v := .agg #[.slice (some ⟨g, 0, none⟩) t.m.length cap]) rfl (by kernel_rfl) (by kernel_rfl) (by kernel_rfl) (by kernel_rfl) (fun _ _ _ h => h) (Or.inl ⟨by rfl, ?_⟩) hb0 ?_
            · intro w' hSw
              (try simp only [List.getElem_toArray, List.getElem_cons_succ, List.getElem_cons_zero])
              go_simp
            (try simp only [List.getElem_toArray, List.getElem_cons_succ, List.getElem_cons_zero, Act.put, List.setIfInBounds_toArray, List.set_cons_zero, List.set_cons_succ])
            refine wpAnyE_take (i := 8) (oi := _) (v := .agg #[.int .i64 ((⟨qk, qc, qo, qv⟩ : Acc).had t.m), .bool ((⟨qk, qc, qo, qv⟩ : Acc).ok ((⟨qk, qc, qo, qv⟩ : Acc).had t.m))]) rfl (by kernel_rfl) (by kernel_rfl) (by kernel_rfl) (by kernel_rfl) (fun _ _ _ h => h) (Or.inl ⟨by rfl, ?_⟩) hb0 ?_
            · intro w' hSw
              (try simp only [List.getElem_toArray, List.getElem_cons_succ, List.getElem_cons_zero])
              go_simp
            (try simp only [List.getElem_toArray, List.getElem_cons_succ, List.getElem_cons_zero, Act.put, List.setIfInBounds_toArray, List.set_cons_zero, List.set_cons_succ])
            refine wpAnyE_take (i := 9) (oi := _) (v := .int .i64 0) rfl (by kernel_rfl) (by kernel_rfl) (by kernel_rfl) (by kernel_rfl) (fun _ _ _ h => h) (Or.inl ⟨by rfl, ?_⟩) hb0 ?_
            · intro w' hSw
              (try simp only [List.getElem_toArray, List.getElem_cons_succ, List.getElem_cons_zero])
              go_simp
            (try simp only [List.getElem_toArray, List.getElem_cons_succ, List.getElem_cons_zero, Act.put, List.setIfInBounds_toArray, List.set_cons_zero, List.set_cons_succ])
            refine ⟨fun h0 => absurd h0 (by rw [show Region.ready _ _ _ = [10, 11] from by kernel_rfl]; simp), fun j hj => ?_⟩
            rw [show Region.ready _ _ _ = [10, 11] from by kernel_rfl] at hj
            rcases List.mem_cons.1 hj with rfl | hj
            · refine wpOp_step (o := _) rfl (fun K hK => ?_)
              (try simp only [List.getElem_toArray, List.getElem_cons_succ, List.getElem_cons_zero])
              go_simp
              have k1 := Bk.made x1 53 #[.slice none 0 0]
              have zg3 : w5.heap.size ≤ x1.heap.size := hb0.size
              have hb0n := below_al hb0 (.cells #[.slice none 0 0] 53)
              replace hom := hom.alloc (.cells #[.slice none 0 0] 53)
              clear hb0
              have hb0 := hb0n
              clear hb0n
              refine hK _ _ ⟨fun _ => hb0, ?_⟩
              clear hK K
              (try simp only [])
              generalize x1.alloc (.cells #[.slice none 0 0] 53) = x2 at *
              generalize x1.heap.size = g3 at *
              refine ⟨fun h0 => absurd h0 (by rw [show Region.ready _ _ _ = [11] from by kernel_rfl]; simp), fun j hj => ?_⟩
              rw [show Region.ready _ _ _ = [11] from by kernel_rfl] at hj
              obtain rfl := List.mem_singleton.1 hj
              refine wpOp_step (o := _) rfl (fun K hK => ?_)
              (try simp only [List.getElem_toArray, List.getElem_cons_succ, List.getElem_cons_zero])
              go_simp
              have k2 := Bk.made x2 43 #[.int .i64 0, .bool false]
              have zg4 : w5.heap.size ≤ x2.heap.size := hb0.size
              have hb0n := below_al hb0 (.cells #[.int .i64 0, .bool false] 43)
              replace hom := hom.alloc (.cells #[.int .i64 0, .bool false] 43)
              have z34 : g3 ≠ x2.heap.size := by have := k1.lt; omega
              replace k1 := k1.alloc (.cells #[.int .i64 0, .bool false] 43)
              clear hb0
              have hb0 := hb0n
              clear hb0n
              refine hK _ _ ⟨fun _ => hb0, ?_⟩
              clear hK K
              (try simp only [])
              generalize x2.alloc (.cells #[.int .i64 0, .bool false] 43) = x3 at *
              generalize x2.heap.size = g4 at *
              refine wpAnyE_one (i := 12) (o := _) (by kernel_rfl) rfl (fun K hK => ?_)
              rw [if_pos (by rfl)]
              refine wp_store_row 53 (.tmp 14) (.tmp 179) rfl g3 #[.slice (some ⟨g, 0, none⟩) t.m.length cap] rfl rfl 53 #[.slice none 0 0] k1 (by kernel_rfl) rfl (by simp [Value.oneCell']) ?_
              have hb1 := below_setRowB hb0 zg3 #[.slice (some ⟨g, 0, none⟩) t.m.length cap]
              have k2' : Bk (x3.setRow g3 #[.slice (some ⟨g, 0, none⟩) t.m.length cap]) g4 43 #[.int .i64 0, .bool false] := (setRow_other _ _ _ _ (fun e => z34 e.symm)).trans k2
              have k1' := setRow_heap _ _ #[.slice none 0 0] #[.slice (some ⟨g, 0, none⟩) t.m.length cap] 53 (0, 0) k1
              replace hom := own_keptT hom (keptT_row k1 (cs := #[.slice (some ⟨g, 0, none⟩) t.m.length cap])) (by decide)
              refine hK.out _ _ (fun _ => hb1) ?_
              clear hK K
              (try simp only [List.getElem_toArray, List.getElem_cons_succ, List.getElem_cons_zero, Act.put])
              generalize x3.setRow g3 #[.slice (some ⟨g, 0, none⟩) t.m.length cap] = y1 at *
              refine wpAnyE_one (i := 13) (o := _) (by kernel_rfl) rfl (fun K hK => ?_)
              rw [if_pos (by rfl)]
              refine wp_store_row 43 (.tmp 15) (.tmp 180) rfl g4 #[.int .i64 ((⟨qk, qc, qo, qv⟩ : Acc).had t.m), .bool ((⟨qk, qc, qo, qv⟩ : Acc).ok ((⟨qk, qc, qo, qv⟩ : Acc).had t.m))] rfl rfl 43 #[.int .i64 0, .bool false] k2' (by kernel_rfl) rfl (by simp [Value.oneCell']) ?_
              have hb2 := below_setRowB hb1 zg4 #[.int .i64 ((⟨qk, qc, qo, qv⟩ : Acc).had t.m), .bool ((⟨qk, qc, qo, qv⟩ : Acc).ok ((⟨qk, qc, qo, qv⟩ : Acc).had t.m))]
              have k1'' : Bk (y1.setRow g4 #[.int .i64 ((⟨qk, qc, qo, qv⟩ : Acc).had t.m), .bool ((⟨qk, qc, qo, qv⟩ : Acc).ok ((⟨qk, qc, qo, qv⟩ : Acc).had t.m))]) g3 53 #[.slice (some ⟨g, 0, none⟩) t.m.length cap] := (setRow_other _ _ _ _ z34).trans k1'
              have k2'' := setRow_heap _ _ #[.int .i64 0, .bool false] #[.int .i64 ((⟨qk, qc, qo, qv⟩ : Acc).had t.m), .bool ((⟨qk, qc, qo, qv⟩ : Acc).ok ((⟨qk, qc, qo, qv⟩ : Acc).had t.m))] 43 (0, 0) k2'
              replace hom := own_keptT hom (keptT_row k2' (cs := #[.int .i64 ((⟨qk, qc, qo, qv⟩ : Acc).had t.m), .bool ((⟨qk, qc, qo, qv⟩ : Acc).ok ((⟨qk, qc, qo, qv⟩ : Acc).had t.m))])) (by decide)
              refine hK.out _ _ (fun _ => hb2) ?_
              clear hK K
              (try simp only [List.getElem_toArray, List.getElem_cons_succ, List.getElem_cons_zero, Act.put])
              generalize y1.setRow g4 #[.int .i64 ((⟨qk, qc, qo, qv⟩ : Acc).had t.m), .bool ((⟨qk, qc, qo, qv⟩ : Acc).ok ((⟨qk, qc, qo, qv⟩ : Acc).had t.m))] = y2 at *
              refine wpAnyE_one (i := 14) (o := _) (by kernel_rfl) rfl (fun K hK => ?_)
              (try simp only [List.getElem_toArray, List.getElem_cons_succ, List.getElem_cons_zero])
              go_simp
              refine hK.out _ _ (fun _ => hb2) ?_
              clear hK K
              (try simp only [List.getElem_toArray, List.getElem_cons_succ, List.getElem_cons_zero, Act.put, List.setIfInBounds_toArray, List.set_cons_zero, List.set_cons_succ])
              refine wpAnyE_done (by kernel_rfl) ?_ _
              go_wp2_with fail
              go_meet
              exact ⟨g3, g4, g, cap, rfl, rfl, rfl, zg3, zg4, z34, hb2, k1'', k2'', hom, zg⟩
            obtain rfl := List.mem_singleton.1 hj
            refine wpOp_step (o := _) rfl (fun K hK => ?_)
            (try simp only [List.getElem_toArray, List.getElem_cons_succ, List.getElem_cons_zero])
            go_simp
            have k2 := Bk.made x1 43 #[.int .i64 0, .bool false]
            have zg4 : w5.heap.size ≤ x1.heap.size := hb0.size
            have hb0n := below_al hb0 (.cells #[.int .i64 0, .bool false] 43)
            replace hom := hom.alloc (.cells #[.int .i64 0, .bool false] 43)
            clear hb0
            have hb0 := hb0n
            clear hb0n
            refine hK _ _ ⟨fun _ => hb0, ?_⟩
            clear hK K
            (try simp only [])
            generalize x1.alloc (.cells #[.int .i64 0, .bool false] 43) = x4 at *
            generalize x1.heap.size = g4 at *
            refine ⟨fun h0 => absurd h0 (by rw [show Region.ready _ _ _ = [10] from by kernel_rfl]; simp), fun j hj => ?_⟩
            rw [show Region.ready _ _ _ = [10] from by kernel_rfl] at hj
            obtain rfl := List.mem_singleton.1 hj
            refine wpOp_step (o := _) rfl (fun K hK => ?_)
            (try simp only [List.getElem_toArray, List.getElem_cons_succ, List.getElem_cons_zero])
            go_simp
            have k1 := Bk.made x4 53 #[.slice none 0 0]
            have zg3 : w5.heap.size ≤ x4.heap.size := hb0.size
            have hb0n := below_al hb0 (.cells #[.slice none 0 0] 53)
            replace hom := hom.alloc (.cells #[.slice none 0 0] 53)
            have z34 : x4.heap.size ≠ g4 := by have := k2.lt; omega
            replace k2 := k2.alloc (.cells #[.slice none 0 0] 53)
            clear hb0
            have hb0 := hb0n
            clear hb0n
            refine hK _ _ ⟨fun _ => hb0, ?_⟩
            clear hK K
            (try simp only [])
            generalize x4.alloc (.cells #[.slice none 0 0] 53) = x5 at *
            generalize x4.heap.size = g3 at *
            refine wpAnyE_one (i := 12) (o := _) (by kernel_rfl) rfl (fun K hK => ?_)
            rw [if_pos (by rfl)]
            refine wp_store_row 53 (.tmp 14) (.tmp 179) rfl g3 #[.slice (some ⟨g, 0, none⟩) t.m.length cap] rfl rfl 53 #[.slice none 0 0] k1 (by kernel_rfl) rfl (by simp [Value.oneCell']) ?_
            have hb1 := below_setRowB hb0 zg3 #[.slice (some ⟨g, 0, none⟩) t.m.length cap]
            have k2' : Bk (x5.setRow g3 #[.slice (some ⟨g, 0, none⟩) t.m.length cap]) g4 43 #[.int .i64 0, .bool false] := (setRow_other _ _ _ _ (fun e => z34 e.symm)).trans k2
            have k1' := setRow_heap _ _ #[.slice none 0 0] #[.slice (some ⟨g, 0, none⟩) t.m.length cap] 53 (0, 0) k1
            replace hom := own_keptT hom (keptT_row k1 (cs := #[.slice (some ⟨g, 0, none⟩) t.m.length cap])) (by decide)
            refine hK.out _ _ (fun _ => hb1) ?_
            clear hK K
            (try simp only [List.getElem_toArray, List.getElem_cons_succ, List.getElem_cons_zero, Act.put])
            generalize x5.setRow g3 #[.slice (some ⟨g, 0, none⟩) t.m.length cap] = y1 at *
            refine wpAnyE_one (i := 13) (o := _) (by kernel_rfl) rfl (fun K hK => ?_)
            rw [if_pos (by rfl)]
            refine wp_store_row 43 (.tmp 15) (.tmp 180) rfl g4 #[.int .i64 ((⟨qk, qc, qo, qv⟩ : Acc).had t.m), .bool ((⟨qk, qc, qo, qv⟩ : Acc).ok ((⟨qk, qc, qo, qv⟩ : Acc).had t.m))] rfl rfl 43 #[.int .i64 0, .bool false] k2' (by kernel_rfl) rfl (by simp [Value.oneCell']) ?_
            have hb2 := below_setRowB hb1 zg4 #[.int .i64 ((⟨qk, qc, qo, qv⟩ : Acc).had t.m), .bool ((⟨qk, qc, qo, qv⟩ : Acc).ok ((⟨qk, qc, qo, qv⟩ : Acc).had t.m))]
            have k1'' : Bk (y1.setRow g4 #[.int .i64 ((⟨qk, qc, qo, qv⟩ : Acc).had t.m), .bool ((⟨qk, qc, qo, qv⟩ : Acc).ok ((⟨qk, qc, qo, qv⟩ : Acc).had t.m))]) g3 53 #[.slice (some ⟨g, 0, none⟩) t.m.length cap] := (setRow_other _ _ _ _ z34).trans k1'
            have k2'' := setRow_heap _ _ #[.int .i64 0, .bool false] #[.int .i64 ((⟨qk, qc, qo, qv⟩ : Acc).had t.m), .bool ((⟨qk, qc, qo, qv⟩ : Acc).ok ((⟨qk, qc, qo, qv⟩ : Acc).had t.m))] 43 (0, 0) k2'
            replace hom := own_keptT hom (keptT_row k2' (cs := #[.int .i64 ((⟨qk, qc, qo, qv⟩ : Acc).had t.m), .bool ((⟨qk, qc, qo, qv⟩ : Acc).ok ((⟨qk, qc, qo, qv⟩ : Acc).had t.m))])) (by decide)
            refine hK.out _ _ (fun _ => hb2) ?_
            clear hK K
            (try simp only [List.getElem_toArray, List.getElem_cons_succ, List.getElem_cons_zero, Act.put])
            generalize y1.setRow g4 #[.int .i64 ((⟨qk, qc, qo, qv⟩ : Acc).had t.m), .bool ((⟨qk, qc, qo, qv⟩ : Acc).ok ((⟨qk, qc, qo, qv⟩ : Acc).had t.m))] = y2 at *
            refine wpAnyE_one (i := 14) (o := _) (by kernel_rfl) rfl (fun K hK => ?_)
            (try simp only [List.getElem_toArray, List.getElem_cons_succ, List.getElem_cons_zero])
            go_simp
            refine hK.out _ _ (fun _ => hb2) ?_
            clear hK K
            (try simp only [List.getElem_toArray, List.getElem_cons_succ, List.getElem_cons_zero, Act.put, List.setIfInBounds_toArray, List.set_cons_zero, List.set_cons_succ])
            refine wpAnyE_done (by kernel_rfl) ?_ _
            go_wp2_with fail
            go_meet
            exact ⟨g3, g4, g, cap, rfl, rfl, rfl, zg3, zg4, z34, hb2, k1'', k2'', hom, zg⟩
          rcases List.mem_cons.1 hj with rfl | hj
          · refine wpOp_step (o := _) rfl (fun K hK => ?_)
            (try simp only [List.getElem_toArray, List.getElem_cons_succ, List.getElem_cons_zero])
            go_simp
            have k1 := Bk.made w6 53 #[.slice none 0 0]
            have zg3 : w5.heap.size ≤ w6.heap.size := hb0.size
            have hb0n := below_al hb0 (.cells #[.slice none 0 0] 53)
            clear hb0
            have hb0 := hb0n
            clear hb0n
            refine hK _ _ ⟨fun _ => hb0, ?_⟩
            clear hK K
            (try simp only [])
            generalize w6.alloc (.cells #[.slice none 0 0] 53) = x6 at *
            generalize w6.heap.size = g3 at *
            refine ⟨fun h0 => absurd h0 (by rw [show Region.ready _ _ _ = [5, 11] from by kernel_rfl]; simp), fun j hj => ?_⟩
            rw [show Region.ready _ _ _ = [5, 11] from by kernel_rfl] at hj
            rcases List.mem_cons.1 hj with rfl | hj
            · refine wpOp_step (o := _) rfl (fun K hK => ?_)
              (try simp only [List.getElem_toArray, List.getElem_cons_succ, List.getElem_cons_zero])
              go_simp
              have h5 : OwnInts x6 0 (.slice (some ⟨gm, 0, none⟩) t.m.length cm) t.m := own_keepb' (show World.ownsRow w5 0 3 1 (.slice (some ⟨gm, 0, none⟩) t.m.length cm) t.m.length (ints t.m) from HA2.out) hb0
              have h6 := own_sl h5 rfl
              (with_reducible refine (do_ok (some ⟨gm, 0, none⟩) cm t.m ⟨qk, qc, qo, qv⟩ _ h6 (by omega) HN.out.2).mono ?_)
              clear h5 h6
              rintro e x7 ⟨g, cap, rfl, hown, hb⟩
              have zg : w5.heap.size ≤ g := by
                have := (World.ownsRow.lt hown g rfl).1
                have := hb0.size
                omega
              have hb0n := below_tr hb0 hb
              have hom : OwnInts x7 0 (.slice (some ⟨g, 0, none⟩) t.m.length cap) ((⟨qk, qc, qo, qv⟩ : Acc).make t.m) := own_mono hown (Nat.zero_le _)
              replace k1 := k1.keep hb
              clear hb hb0 hown
              have hb0 := hb0n
              clear hb0n
              refine hK _ _ ⟨fun _ => hb0, ?_⟩
              clear hK K
              (try simp only [])
              refine wpAnyE_take (i := 6) (oi := _) (v := .tuple #[.agg #[.slice (some ⟨g, 0, none⟩) t.m.length cap], .agg #[.int .i64 ((⟨qk, qc, qo, qv⟩ : Acc).had t.m), .bool ((⟨qk, qc, qo, qv⟩ : Acc).ok ((⟨qk, qc, qo, qv⟩ : Acc).had t.m))], .int .i64 0]) rfl (by kernel_rfl) (by kernel_rfl) (by kernel_rfl) (by kernel_rfl) (fun _ _ _ h => h) (Or.inl ⟨by rfl, ?_⟩) hb0 ?_
              · intro w' hSw
                (try simp only [List.getElem_toArray, List.getElem_cons_succ, List.getElem_cons_zero])
                go_simp
              (try simp only [List.getElem_toArray, List.getElem_cons_succ, List.getElem_cons_zero, Act.put, List.setIfInBounds_toArray, List.set_cons_zero, List.set_cons_succ])
              refine wpAnyE_take (i := 7) (oi := _) (v := .agg #[.slice (some ⟨g, 0, none⟩) t.m.length cap]) rfl (by kernel_rfl) (by kernel_rfl) (by kernel_rfl) (by kernel_rfl) (fun _ _ _ h => h) (Or.inl ⟨by rfl, ?_⟩) hb0 ?_
              · intro w' hSw
                (try simp only [List.getElem_toArray, List.getElem_cons_succ, List.getElem_cons_zero])
                go_simp
              (try simp only [List.getElem_toArray, List.getElem_cons_succ, List.getElem_cons_zero, Act.put, List.setIfInBounds_toArray, List.set_cons_zero, List.set_cons_succ])
              refine wpAnyE_take (i := 8) (oi := _) (v := .agg #[.int .i64 ((⟨qk, qc, qo, qv⟩ : Acc).had t.m), .bool ((⟨qk, qc, qo, qv⟩ : Acc).ok ((⟨qk, qc, qo, qv⟩ : Acc).had t.m))]) rfl (by kernel_rfl) (by kernel_rfl) (by kernel_rfl) (by kernel_rfl) (fun _ _ _ h => h) (Or.inl ⟨by rfl, ?_⟩) hb0 ?_
              · intro w' hSw
                (try simp only [List.getElem_toArray, List.getElem_cons_succ, List.getElem_cons_zero])
                go_simp
              (try simp only [List.getElem_toArray, List.getElem_cons_succ, List.getElem_cons_zero, Act.put, List.setIfInBounds_toArray, List.set_cons_zero, List.set_cons_succ])
              refine wpAnyE_take (i := 9) (oi := _) (v := .int .i64 0) rfl (by kernel_rfl) (by kernel_rfl) (by kernel_rfl) (by kernel_rfl) (fun _ _ _ h => h) (Or.inl ⟨by rfl, ?_⟩) hb0 ?_
              · intro w' hSw
                (try simp only [List.getElem_toArray, List.getElem_cons_succ, List.getElem_cons_zero])
                go_simp
              (try simp only [List.getElem_toArray, List.getElem_cons_succ, List.getElem_cons_zero, Act.put, List.setIfInBounds_toArray, List.set_cons_zero, List.set_cons_succ])
              refine ⟨fun h0 => absurd h0 (by rw [show Region.ready _ _ _ = [11] from by kernel_rfl]; simp), fun j hj => ?_⟩
              rw [show Region.ready _ _ _ = [11] from by kernel_rfl] at hj
              obtain rfl := List.mem_singleton.1 hj
              refine wpOp_step (o := _) rfl (fun K hK => ?_)
              (try simp only [List.getElem_toArray, List.getElem_cons_succ, List.getElem_cons_zero])
              go_simp
              have k2 := Bk.made x7 43 #[.int .i64 0, .bool false]
              have zg4 : w5.heap.size ≤ x7.heap.size := hb0.size
              have hb0n := below_al hb0 (.cells #[.int .i64 0, .bool false] 43)
              replace hom := hom.alloc (.cells #[.int .i64 0, .bool false] 43)
              have z34 : g3 ≠ x7.heap.size := by have := k1.lt; omega
              replace k1 := k1.alloc (.cells #[.int .i64 0, .bool false] 43)
              clear hb0
              have hb0 := hb0n
              clear hb0n
              refine hK _ _ ⟨fun _ => hb0, ?_⟩
              clear hK K
              (try simp only [])
              generalize x7.alloc (.cells #[.int .i64 0, .bool false] 43) = x8 at *
              generalize x7.heap.size = g4 at *
              refine wpAnyE_one (i := 12) (o := _) (by kernel_rfl) rfl (fun K hK => ?_)
              rw [if_pos (by rfl)]
              refine wp_store_row 53 (.tmp 14) (.tmp 179) rfl g3 #[.slice (some ⟨g, 0, none⟩) t.m.length cap] rfl rfl 53 #[.slice none 0 0] k1 (by kernel_rfl) rfl (by simp [Value.oneCell']) ?_
              have hb1 := below_setRowB hb0 zg3 #[.slice (some ⟨g, 0, none⟩) t.m.length cap]
              have k2' : Bk (x8.setRow g3 #[.slice (some ⟨g, 0, none⟩) t.m.length cap]) g4 43 #[.int .i64 0, .bool false] := (setRow_other _ _ _ _ (fun e => z34 e.symm)).trans k2
              have k1' := setRow_heap _ _ #[.slice none 0 0] #[.slice (some ⟨g, 0, none⟩) t.m.length cap] 53 (0, 0) k1
              replace hom := own_keptT hom (keptT_row k1 (cs := #[.slice (some ⟨g, 0, none⟩) t.m.length cap])) (by decide)
              refine hK.out _ _ (fun _ => hb1) ?_
              clear hK K
              (try simp only [List.getElem_toArray, List.getElem_cons_succ, List.getElem_cons_zero, Act.put])
              generalize x8.setRow g3 #[.slice (some ⟨g, 0, none⟩) t.m.length cap] = y1 at *
              refine wpAnyE_one (i := 13) (o := _) (by kernel_rfl) rfl (fun K hK => ?_)
              rw [if_pos (by rfl)]
              refine wp_store_row 43 (.tmp 15) (.tmp 180) rfl g4 #[.int .i64 ((⟨qk, qc, qo, qv⟩ : Acc).had t.m), .bool ((⟨qk, qc, qo, qv⟩ : Acc).ok ((⟨qk, qc, qo, qv⟩ : Acc).had t.m))] rfl rfl 43 #[.int .i64 0, .bool false] k2' (by kernel_rfl) rfl (by simp [Value.oneCell']) ?_
              have hb2 := below_setRowB hb1 zg4 #[.int .i64 ((⟨qk, qc, qo, qv⟩ : Acc).had t.m), .bool ((⟨qk, qc, qo, qv⟩ : Acc).ok ((⟨qk, qc, qo, qv⟩ : Acc).had t.m))]
              have k1'' : Bk (y1.setRow g4 #[.int .i64 ((⟨qk, qc, qo, qv⟩ : Acc).had t.m), .bool ((⟨qk, qc, qo, qv⟩ : Acc).ok ((⟨qk, qc, qo, qv⟩ : Acc).had t.m))]) g3 53 #[.slice (some ⟨g, 0, none⟩) t.m.length cap] := (setRow_other _ _ _ _ z34).trans k1'
              have k2'' := setRow_heap _ _ #[.int .i64 0, .bool false] #[.int .i64 ((⟨qk, qc, qo, qv⟩ : Acc).had t.m), .bool ((⟨qk, qc, qo, qv⟩ : Acc).ok ((⟨qk, qc, qo, qv⟩ : Acc).had t.m))] 43 (0, 0) k2'
              replace hom := own_keptT hom (keptT_row k2' (cs := #[.int .i64 ((⟨qk, qc, qo, qv⟩ : Acc).had t.m), .bool ((⟨qk, qc, qo, qv⟩ : Acc).ok ((⟨qk, qc, qo, qv⟩ : Acc).had t.m))])) (by decide)
              refine hK.out _ _ (fun _ => hb2) ?_
              clear hK K
              (try simp only [List.getElem_toArray, List.getElem_cons_succ, List.getElem_cons_zero, Act.put])
              generalize y1.setRow g4 #[.int .i64 ((⟨qk, qc, qo, qv⟩ : Acc).had t.m), .bool ((⟨qk, qc, qo, qv⟩ : Acc).ok ((⟨qk, qc, qo, qv⟩ : Acc).had t.m))] = y2 at *
              refine wpAnyE_one (i := 14) (o := _) (by kernel_rfl) rfl (fun K hK => ?_)
              (try simp only [List.getElem_toArray, List.getElem_cons_succ, List.getElem_cons_zero])
              go_simp
              refine hK.out _ _ (fun _ => hb2) ?_
              clear hK K
              (try simp only [List.getElem_toArray, List.getElem_cons_succ, List.getElem_cons_zero, Act.put, List.setIfInBounds_toArray, List.set_cons_zero, List.set_cons_succ])
              refine wpAnyE_done (by kernel_rfl) ?_ _
              go_wp2_with fail
              go_meet
              exact ⟨g3, g4, g, cap, rfl, rfl, rfl, zg3, zg4, z34, hb2, k1'', k2'', hom, zg⟩
            obtain rfl := List.mem_singleton.1 hj
            refine wpOp_step (o := _) rfl (fun K hK => ?_)
            (try simp only [List.getElem_toArray, List.getElem_cons_succ, List.getElem_cons_zero])
            go_simp
            have k2 := Bk.made x6 43 #[.int .i64 0, .bool false]
            have zg4 : w5.heap.size ≤ x6.heap.size := hb0.size
            have hb0n := below_al hb0 (.cells #[.int .i64 0, .bool false] 43)
            have z34 : g3 ≠ x6.heap.size := by have := k1.lt; omega
            replace k1 := k1.alloc (.cells #[.int .i64 0, .bool false] 43)
            clear hb0
            have hb0 := hb0n
            clear hb0n
            refine hK _ _ ⟨fun _ => hb0, ?_⟩
            clear hK K
            (try simp only [])
            generalize x6.alloc (.cells #[.int .i64 0, .bool false] 43) = x9 at *
            generalize x6.heap.size = g4 at *
            refine ⟨fun h0 => absurd h0 (by rw [show Region.ready _ _ _ = [5] from by kernel_rfl]; simp), fun j hj => ?_⟩
            rw [show Region.ready _ _ _ = [5] from by kernel_rfl] at hj
            obtain rfl := List.mem_singleton.1 hj
            refine wpOp_step (o := _) rfl (fun K hK => ?_)
            (try simp only [List.getElem_toArray, List.getElem_cons_succ, List.getElem_cons_zero])
            go_simp
            have h5 : OwnInts x9 0 (.slice (some ⟨gm, 0, none⟩) t.m.length cm) t.m := own_keepb' (show World.ownsRow w5 0 3 1 (.slice (some ⟨gm, 0, none⟩) t.m.length cm) t.m.length (ints t.m) from HA2.out) hb0
            have h6 := own_sl h5 rfl
            (with_reducible refine (do_ok (some ⟨gm, 0, none⟩) cm t.m ⟨qk, qc, qo, qv⟩ _ h6 (by omega) HN.out.2).mono ?_)
            clear h5 h6
            rintro e x10 ⟨g, cap, rfl, hown, hb⟩
            have zg : w5.heap.size ≤ g := by
              have := (World.ownsRow.lt hown g rfl).1
              have := hb0.size
              omega
            have hb0n := below_tr hb0 hb
            have hom : OwnInts x10 0 (.slice (some ⟨g, 0, none⟩) t.m.length cap) ((⟨qk, qc, qo, qv⟩ : Acc).make t.m) := own_mono hown (Nat.zero_le _)
            replace k1 := k1.keep hb
            replace k2 := k2.keep hb
            clear hb hb0 hown
            have hb0 := hb0n
            clear hb0n
            refine hK _ _ ⟨fun _ => hb0, ?_⟩
            clear hK K
            (try simp only [])
            refine wpAnyE_take (i := 6) (oi := _) (v := .tuple #[.agg #[.slice (some ⟨g, 0, none⟩) t.m.length cap], .agg #[.int .i64 ((⟨qk, qc, qo, qv⟩ : Acc).had t.m), .bool ((⟨qk, qc, qo, qv⟩ : Acc).ok ((⟨qk, qc, qo, qv⟩ : Acc).had t.m))], .int .i64 0]) rfl (by kernel_rfl) (by kernel_rfl) (by kernel_rfl) (by kernel_rfl) (fun _ _ _ h => h) (Or.inl ⟨by rfl, ?_⟩) hb0 ?_
            · intro w' hSw
              (try simp only [List.getElem_toArray, List.getElem_cons_succ, List.getElem_cons_zero])
              go_simp
            (try simp only [List.getElem_toArray, List.getElem_cons_succ, List.getElem_cons_zero, Act.put, List.setIfInBounds_toArray, List.set_cons_zero, List.set_cons_succ])
            refine wpAnyE_take (i := 7) (oi := _) (v := .agg #[.slice (some ⟨g, 0, none⟩) t.m.length cap]) rfl (by kernel_rfl) (by kernel_rfl) (by kernel_rfl) (by kernel_rfl) (fun _ _ _ h => h) (Or.inl ⟨by rfl, ?_⟩) hb0 ?_
            · intro w' hSw
              (try simp only [List.getElem_toArray, List.getElem_cons_succ, List.getElem_cons_zero])
              go_simp
            (try simp only [List.getElem_toArray, List.getElem_cons_succ, List.getElem_cons_zero, Act.put, List.setIfInBounds_toArray, List.set_cons_zero, List.set_cons_succ])
            refine wpAnyE_take (i := 8) (oi := _) (v := .agg #[.int .i64 ((⟨qk, qc, qo, qv⟩ : Acc).had t.m), .bool ((⟨qk, qc, qo, qv⟩ : Acc).ok ((⟨qk, qc, qo, qv⟩ : Acc).had t.m))]) rfl (by kernel_rfl) (by kernel_rfl) (by kernel_rfl) (by kernel_rfl) (fun _ _ _ h => h) (Or.inl ⟨by rfl, ?_⟩) hb0 ?_
            · intro w' hSw
              (try simp only [List.getElem_toArray, List.getElem_cons_succ, List.getElem_cons_zero])
              go_simp
            (try simp only [List.getElem_toArray, List.getElem_cons_succ, List.getElem_cons_zero, Act.put, List.setIfInBounds_toArray, List.set_cons_zero, List.set_cons_succ])
            refine wpAnyE_take (i := 9) (oi := _) (v := .int .i64 0) rfl (by kernel_rfl) (by kernel_rfl) (by kernel_rfl) (by kernel_rfl) (fun _ _ _ h => h) (Or.inl ⟨by rfl, ?_⟩) hb0 ?_
            · intro w' hSw
              (try simp only [List.getElem_toArray, List.getElem_cons_succ, List.getElem_cons_zero])
              go_simp
            (try simp only [List.getElem_toArray, List.getElem_cons_succ, List.getElem_cons_zero, Act.put, List.setIfInBounds_toArray, List.set_cons_zero, List.set_cons_succ])
            refine wpAnyE_one (i := 12) (o := _) (by kernel_rfl) rfl (fun K hK => ?_)
            rw [if_pos (by rfl)]
            refine wp_store_row 53 (.tmp 14) (.tmp 179) rfl g3 #[.slice (some ⟨g, 0, none⟩) t.m.length cap] rfl rfl 53 #[.slice none 0 0] k1 (by kernel_rfl) rfl (by simp [Value.oneCell']) ?_
            have hb1 := below_setRowB hb0 zg3 #[.slice (some ⟨g, 0, none⟩) t.m.length cap]
            have k2' : Bk (x10.setRow g3 #[.slice (some ⟨g, 0, none⟩) t.m.length cap]) g4 43 #[.int .i64 0, .bool false] := (setRow_other _ _ _ _ (fun e => z34 e.symm)).trans k2
            have k1' := setRow_heap _ _ #[.slice none 0 0] #[.slice (some ⟨g, 0, none⟩) t.m.length cap] 53 (0, 0) k1
            replace hom := own_keptT hom (keptT_row k1 (cs := #[.slice (some ⟨g, 0, none⟩) t.m.length cap])) (by decide)
            refine hK.out _ _ (fun _ => hb1) ?_
            clear hK K
            (try simp only [List.getElem_toArray, List.getElem_cons_succ, List.getElem_cons_zero, Act.put])
            generalize x10.setRow g3 #[.slice (some ⟨g, 0, none⟩) t.m.length cap] = y1 at *
            refine wpAnyE_one (i := 13) (o := _) (by kernel_rfl) rfl (fun K hK => ?_)
            rw [if_pos (by rfl)]
            refine wp_store_row 43 (.tmp 15) (.tmp 180) rfl g4 #[.int .i64 ((⟨qk, qc, qo, qv⟩ : Acc).had t.m), .bool ((⟨qk, qc, qo, qv⟩ : Acc).ok ((⟨qk, qc, qo, qv⟩ : Acc).had t.m))] rfl rfl 43 #[.int .i64 0, .bool false] k2' (by kernel_rfl) rfl (by simp [Value.oneCell']) ?_
            have hb2 := below_setRowB hb1 zg4 #[.int .i64 ((⟨qk, qc, qo, qv⟩ : Acc).had t.m), .bool ((⟨qk, qc, qo, qv⟩ : Acc).ok ((⟨qk, qc, qo, qv⟩ : Acc).had t.m))]
            have k1'' : Bk (y1.setRow g4 #[.int .i64 ((⟨qk, qc, qo, qv⟩ : Acc).had t.m), .bool ((⟨qk, qc, qo, qv⟩ : Acc).ok ((⟨qk, qc, qo, qv⟩ : Acc).had t.m))]) g3 53 #[.slice (some ⟨g, 0, none⟩) t.m.length cap] := (setRow_other _ _ _ _ z34).trans k1'
            have k2'' := setRow_heap _ _ #[.int .i64 0, .bool false] #[.int .i64 ((⟨qk, qc, qo, qv⟩ : Acc).had t.m), .bool ((⟨qk, qc, qo, qv⟩ : Acc).ok ((⟨qk, qc, qo, qv⟩ : Acc).had t.m))] 43 (0, 0) k2'
            replace hom := own_keptT hom (keptT_row k2' (cs := #[.int .i64 ((⟨qk, qc, qo, qv⟩ : Acc).had t.m), .bool ((⟨qk, qc, qo, qv⟩ : Acc).ok ((⟨qk, qc, qo, qv⟩ : Acc).had t.m))])) (by decide)
            refine hK.out _ _ (fun _ => hb2) ?_
            clear hK K
            (try simp only [List.getElem_toArray, List.getElem_cons_succ, List.getElem_cons_zero, Act.put])
            generalize y1.setRow g4 #[.int .i64 ((⟨qk, qc, qo, qv⟩ : Acc).had t.m), .bool ((⟨qk, qc, qo, qv⟩ : Acc).ok ((⟨qk, qc, qo, qv⟩ : Acc).had t.m))] = y2 at *
            refine wpAnyE_one (i := 14) (o := _) (by kernel_rfl) rfl (fun K hK => ?_)
            (try simp only [List.getElem_toArray, List.getElem_cons_succ, List.getElem_cons_zero])
            go_simp
            refine hK.out _ _ (fun _ => hb2) ?_
            clear hK K
            (try simp only [List.getElem_toArray, List.getElem_cons_succ, List.getElem_cons_zero, Act.put, List.setIfInBounds_toArray, List.set_cons_zero, List.set_cons_succ])
            refine wpAnyE_done (by kernel_rfl) ?_ _
            go_wp2_with fail
            go_meet
            exact ⟨g3, g4, g, cap, rfl, rfl, rfl, zg3, zg4, z34, hb2, k1'', k2'', hom, zg⟩
          obtain rfl := List.mem_singleton.1 hj
          refine wpOp_step (o := _) rfl (fun K hK => ?_)
          (try simp only [List.getElem_toArray, List.getElem_cons_succ, List.getElem_cons_zero])
          go_simp
          have k2 := Bk.made w6 43 #[.int .i64 0, .bool false]
          have zg4 : w5.heap.size ≤ w6.heap.size := hb0.size
          have hb0n := below_al hb0 (.cells #[.int .i64 0, .bool false] 43)
          clear hb0
          have hb0 := hb0n
          clear hb0n
          refine hK _ _ ⟨fun _ => hb0, ?_⟩
          clear hK K
          (try simp only [])
          generalize w6.alloc (.cells #[.int .i64 0, .bool false] 43) = x11 at *
          generalize w6.heap.size = g4 at *
          refine ⟨fun h0 => absurd h0 (by rw [show Region.ready _ _ _ = [5, 10] from by kernel_rfl]; simp), fun j hj => ?_⟩
          rw [show Region.ready _ _ _ = [5, 10] from by kernel_rfl] at hj
          rcases List.mem_cons.1 hj with rfl | hj
          · refine wpOp_step (o := _) rfl (fun K hK => ?_)
            (try simp only [List.getElem_toArray, List.getElem_cons_succ, List.getElem_cons_zero])
            go_simp
            have h5 : OwnInts x11 0 (.slice (some ⟨gm, 0, none⟩) t.m.length cm) t.m := own_keepb' (show World.ownsRow w5 0 3 1 (.slice (some ⟨gm, 0, none⟩) t.m.length cm) t.m.length (ints t.m) from HA2.out) hb0
            have h6 := own_sl h5 rfl
            (with_reducible refine (do_ok (some ⟨gm, 0, none⟩) cm t.m ⟨qk, qc, qo, qv⟩ _ h6 (by omega) HN.out.2).mono ?_)
            clear h5 h6
            rintro e x12 ⟨g, cap, rfl, hown, hb⟩
            have zg : w5.heap.size ≤ g := by
              have := (World.ownsRow.lt hown g rfl).1
              have := hb0.size
              omega
            have hb0n := below_tr hb0 hb
            have hom : OwnInts x12 0 (.slice (some ⟨g, 0, none⟩) t.m.length cap) ((⟨qk, qc, qo, qv⟩ : Acc).make t.m) := own_mono hown (Nat.zero_le _)
            replace k2 := k2.keep hb
            clear hb hb0 hown
            have hb0 := hb0n
            clear hb0n
            refine hK _ _ ⟨fun _ => hb0, ?_⟩
            clear hK K
            (try simp only [])
            refine wpAnyE_take (i := 6) (oi := _) (v := .tuple #[.agg #[.slice (some ⟨g, 0, none⟩) t.m.length cap], .agg #[.int .i64 ((⟨qk, qc, qo, qv⟩ : Acc).had t.m), .bool ((⟨qk, qc, qo, qv⟩ : Acc).ok ((⟨qk, qc, qo, qv⟩ : Acc).had t.m))], .int .i64 0]) rfl (by kernel_rfl) (by kernel_rfl) (by kernel_rfl) (by kernel_rfl) (fun _ _ _ h => h) (Or.inl ⟨by rfl, ?_⟩) hb0 ?_
            · intro w' hSw
              (try simp only [List.getElem_toArray, List.getElem_cons_succ, List.getElem_cons_zero])
              go_simp
            (try simp only [List.getElem_toArray, List.getElem_cons_succ, List.getElem_cons_zero, Act.put, List.setIfInBounds_toArray, List.set_cons_zero, List.set_cons_succ])
            refine wpAnyE_take (i := 7) (oi := _) (v := .agg #[.slice (some ⟨g, 0, none⟩) t.m.length cap]) rfl (by kernel_rfl) (by kernel_rfl) (by kernel_rfl) (by kernel_rfl) (fun _ _ _ h => h) (Or.inl ⟨by rfl, ?_⟩) hb0 ?_
            · intro w' hSw
              (try simp only [List.getElem_toArray, List.getElem_cons_succ, List.getElem_cons_zero])
              go_simp
            (try simp only [List.getElem_toArray, List.getElem_cons_succ, List.getElem_cons_zero, Act.put, List.setIfInBounds_toArray, List.set_cons_zero, List.set_cons_succ])
            refine wpAnyE_take (i := 8) (oi := _) (v := .agg #[.int .i64 ((⟨qk, qc, qo, qv⟩ : Acc).had t.m), .bool ((⟨qk, qc, qo, qv⟩ : Acc).ok ((⟨qk, qc, qo, qv⟩ : Acc).had t.m))]) rfl (by kernel_rfl) (by kernel_rfl) (by kernel_rfl) (by kernel_rfl) (fun _ _ _ h => h) (Or.inl ⟨by rfl, ?_⟩) hb0 ?_
            · intro w' hSw
              (try simp only [List.getElem_toArray, List.getElem_cons_succ, List.getElem_cons_zero])
              go_simp
            (try simp only [List.getElem_toArray, List.getElem_cons_succ, List.getElem_cons_zero, Act.put, List.setIfInBounds_toArray, List.set_cons_zero, List.set_cons_succ])
            refine wpAnyE_take (i := 9) (oi := _) (v := .int .i64 0) rfl (by kernel_rfl) (by kernel_rfl) (by kernel_rfl) (by kernel_rfl) (fun _ _ _ h => h) (Or.inl ⟨by rfl, ?_⟩) hb0 ?_
            · intro w' hSw
              (try simp only [List.getElem_toArray, List.getElem_cons_succ, List.getElem_cons_zero])
              go_simp
            (try simp only [List.getElem_toArray, List.getElem_cons_succ, List.getElem_cons_zero, Act.put, List.setIfInBounds_toArray, List.set_cons_zero, List.set_cons_succ])
            refine ⟨fun h0 => absurd h0 (by rw [show Region.ready _ _ _ = [10] from by kernel_rfl]; simp), fun j hj => ?_⟩
            rw [show Region.ready _ _ _ = [10] from by kernel_rfl] at hj
            obtain rfl := List.mem_singleton.1 hj
            refine wpOp_step (o := _) rfl (fun K hK => ?_)
            (try simp only [List.getElem_toArray, List.getElem_cons_succ, List.getElem_cons_zero])
            go_simp
            have k1 := Bk.made x12 53 #[.slice none 0 0]
            have zg3 : w5.heap.size ≤ x12.heap.size := hb0.size
            have hb0n := below_al hb0 (.cells #[.slice none 0 0] 53)
            replace hom := hom.alloc (.cells #[.slice none 0 0] 53)
            have z34 : x12.heap.size ≠ g4 := by have := k2.lt; omega
            replace k2 := k2.alloc (.cells #[.slice none 0 0] 53)
            clear hb0
            have hb0 := hb0n
            clear hb0n
            refine hK _ _ ⟨fun _ => hb0, ?_⟩
            clear hK K
            (try simp only [])
            generalize x12.alloc (.cells #[.slice none 0 0] 53) = x13 at *
            generalize x12.heap.size = g3 at *
            refine wpAnyE_one (i := 12) (o := _) (by kernel_rfl) rfl (fun K hK => ?_)
            rw [if_pos (by rfl)]
            refine wp_store_row 53 (.tmp 14) (.tmp 179) rfl g3 #[.slice (some ⟨g, 0, none⟩) t.m.length cap] rfl rfl 53 #[.slice none 0 0] k1 (by kernel_rfl) rfl (by simp [Value.oneCell']) ?_
            have hb1 := below_setRowB hb0 zg3 #[.slice (some ⟨g, 0, none⟩) t.m.length cap]
            have k2' : Bk (x13.setRow g3 #[.slice (some ⟨g, 0, none⟩) t.m.length cap]) g4 43 #[.int .i64 0, .bool false] := (setRow_other _ _ _ _ (fun e => z34 e.symm)).trans k2
            have k1' := setRow_heap _ _ #[.slice none 0 0] #[.slice (some ⟨g, 0, none⟩) t.m.length cap] 53 (0, 0) k1
            replace hom := own_keptT hom (keptT_row k1 (cs := #[.slice (some ⟨g, 0, none⟩) t.m.length cap])) (by decide)
            refine hK.out _ _ (fun _ => hb1) ?_
            clear hK K
            (try simp only [List.getElem_toArray, List.getElem_cons_succ, List.getElem_cons_zero, Act.put])
            generalize x13.setRow g3 #[.slice (some ⟨g, 0, none⟩) t.m.length cap] = y1 at *
            refine wpAnyE_one (i := 13) (o := _) (by kernel_rfl) rfl (fun K hK => ?_)
            rw [if_pos (by rfl)]
            refine wp_store_row 43 (.tmp 15) (.tmp 180) rfl g4 #[.int .i64 ((⟨qk, qc, qo, qv⟩ : Acc).had t.m), .bool ((⟨qk, qc, qo, qv⟩ : Acc).ok ((⟨qk, qc, qo, qv⟩ : Acc).had t.m))] rfl rfl 43 #[.int .i64 0, .bool false] k2' (by kernel_rfl) rfl (by simp [Value.oneCell']) ?_
            have hb2 := below_setRowB hb1 zg4 #[.int .i64 ((⟨qk, qc, qo, qv⟩ : Acc).had t.m), .bool ((⟨qk, qc, qo, qv⟩ : Acc).ok ((⟨qk, qc, qo, qv⟩ : Acc).had t.m))]
            have k1'' : Bk (y1.setRow g4 #[.int .i64 ((⟨qk, qc, qo, qv⟩ : Acc).had t.m), .bool ((⟨qk, qc, qo, qv⟩ : Acc).ok ((⟨qk, qc, qo, qv⟩ : Acc).had t.m))]) g3 53 #[.slice (some ⟨g, 0, none⟩) t.m.length cap] := (setRow_other _ _ _ _ z34).trans k1'
            have k2'' := setRow_heap _ _ #[.int .i64 0, .bool false] #[.int .i64 ((⟨qk, qc, qo, qv⟩ : Acc).had t.m), .bool ((⟨qk, qc, qo, qv⟩ : Acc).ok ((⟨qk, qc, qo, qv⟩ : Acc).had t.m))] 43 (0, 0) k2'
            replace hom := own_keptT hom (keptT_row k2' (cs := #[.int .i64 ((⟨qk, qc, qo, qv⟩ : Acc).had t.m), .bool ((⟨qk, qc, qo, qv⟩ : Acc).ok ((⟨qk, qc, qo, qv⟩ : Acc).had t.m))])) (by decide)
            refine hK.out _ _ (fun _ => hb2) ?_
            clear hK K
            (try simp only [List.getElem_toArray, List.getElem_cons_succ, List.getElem_cons_zero, Act.put])
            generalize y1.setRow g4 #[.int .i64 ((⟨qk, qc, qo, qv⟩ : Acc).had t.m), .bool ((⟨qk, qc, qo, qv⟩ : Acc).ok ((⟨qk, qc, qo, qv⟩ : Acc).had t.m))] = y2 at *
            refine wpAnyE_one (i := 14) (o := _) (by kernel_rfl) rfl (fun K hK => ?_)
            (try simp only [List.getElem_toArray, List.getElem_cons_succ, List.getElem_cons_zero])
            go_simp
            refine hK.out _ _ (fun _ => hb2) ?_
            clear hK K
            (try simp only [List.getElem_toArray, List.getElem_cons_succ, List.getElem_cons_zero, Act.put, List.setIfInBounds_toArray, List.set_cons_zero, List.set_cons_succ])
            refine wpAnyE_done (by kernel_rfl) ?_ _
            go_wp2_with fail
            go_meet
            exact ⟨g3, g4, g, cap, rfl, rfl, rfl, zg3, zg4, z34, hb2, k1'', k2'', hom, zg⟩
          obtain rfl := List.mem_singleton.1 hj
          refine wpOp_step (o := _) rfl (fun K hK => ?_)
          (try simp only [List.getElem_toArray, List.getElem_cons_succ, List.getElem_cons_zero])
          go_simp
          have k1 := Bk.made x11 53 #[.slice none 0 0]
          have zg3 : w5.heap.size ≤ x11.heap.size := hb0.size
          have hb0n := below_al hb0 (.cells #[.slice none 0 0] 53)
          have z34 : x11.heap.size ≠ g4 := by have := k2.lt; omega
          replace k2 := k2.alloc (.cells #[.slice none 0 0] 53)
          clear hb0
          have hb0 := hb0n
          clear hb0n
          refine hK _ _ ⟨fun _ => hb0, ?_⟩
          clear hK K
          (try simp only [])
          generalize x11.alloc (.cells #[.slice none 0 0] 53) = x14 at *
          generalize x11.heap.size = g3 at *
          refine ⟨fun h0 => absurd h0 (by rw [show Region.ready _ _ _ = [5] from by kernel_rfl]; simp), fun j hj => ?_⟩
          rw [show Region.ready _ _ _ = [5] from by kernel_rfl] at hj
          obtain rfl := List.mem_singleton.1 hj
          refine wpOp_step (o := _) rfl (fun K hK => ?_)
          (try simp only [List.getElem_toArray, List.getElem_cons_succ, List.getElem_cons_zero])
          go_simp
          have h5 : OwnInts x14 0 (.slice (some ⟨gm, 0, none⟩) t.m.length cm) t.m := own_keepb' (show World.ownsRow w5 0 3 1 (.slice (some ⟨gm, 0, none⟩) t.m.length cm) t.m.length (ints t.m) from HA2.out) hb0
          have h6 := own_sl h5 rfl
          (with_reducible refine (do_ok (some ⟨gm, 0, none⟩) cm t.m ⟨qk, qc, qo, qv⟩ _ h6 (by omega) HN.out.2).mono ?_)
          clear h5 h6
          rintro e x15 ⟨g, cap, rfl, hown, hb⟩
          have zg : w5.heap.size ≤ g := by
            have := (World.ownsRow.lt hown g rfl).1
            have := hb0.size
            omega
          have hb0n := below_tr hb0 hb
          have hom : OwnInts x15 0 (.slice (some ⟨g, 0, none⟩) t.m.length cap) ((⟨qk, qc, qo, qv⟩ : Acc).make t.m) := own_mono hown (Nat.zero_le _)
          replace k1 := k1.keep hb
          replace k2 := k2.keep hb
          clear hb hb0 hown
          have hb0 := hb0n
          clear hb0n
          refine hK _ _ ⟨fun _ => hb0, ?_⟩
          clear hK K
          (try simp only [])
          refine wpAnyE_take (i := 6) (oi := _) (v := .tuple #[.agg #[.slice (some ⟨g, 0, none⟩) t.m.length cap], .agg #[.int .i64 ((⟨qk, qc, qo, qv⟩ : Acc).had t.m), .bool ((⟨qk, qc, qo, qv⟩ : Acc).ok ((⟨qk, qc, qo, qv⟩ : Acc).had t.m))], .int .i64 0]) rfl (by kernel_rfl) (by kernel_rfl) (by kernel_rfl) (by kernel_rfl) (fun _ _ _ h => h) (Or.inl ⟨by rfl, ?_⟩) hb0 ?_
          · intro w' hSw
            (try simp only [List.getElem_toArray, List.getElem_cons_succ, List.getElem_cons_zero])
            go_simp
          (try simp only [List.getElem_toArray, List.getElem_cons_succ, List.getElem_cons_zero, Act.put, List.setIfInBounds_toArray, List.set_cons_zero, List.set_cons_succ])
          refine wpAnyE_take (i := 7) (oi := _) (v := .agg #[.slice (some ⟨g, 0, none⟩) t.m.length cap]) rfl (by kernel_rfl) (by kernel_rfl) (by kernel_rfl) (by kernel_rfl) (fun _ _ _ h => h) (Or.inl ⟨by rfl, ?_⟩) hb0 ?_
          · intro w' hSw
            (try simp only [List.getElem_toArray, List.getElem_cons_succ, List.getElem_cons_zero])
            go_simp
          (try simp only [List.getElem_toArray, List.getElem_cons_succ, List.getElem_cons_zero, Act.put, List.setIfInBounds_toArray, List.set_cons_zero, List.set_cons_succ])
          refine wpAnyE_take (i := 8) (oi := _) (v := .agg #[.int .i64 ((⟨qk, qc, qo, qv⟩ : Acc).had t.m), .bool ((⟨qk, qc, qo, qv⟩ : Acc).ok ((⟨qk, qc, qo, qv⟩ : Acc).had t.m))]) rfl (by kernel_rfl) (by kernel_rfl) (by kernel_rfl) (by kernel_rfl) (fun _ _ _ h => h) (Or.inl ⟨by rfl, ?_⟩) hb0 ?_
          · intro w' hSw
            (try simp only [List.getElem_toArray, List.getElem_cons_succ, List.getElem_cons_zero])
            go_simp
          (try simp only [List.getElem_toArray, List.getElem_cons_succ, List.getElem_cons_zero, Act.put, List.setIfInBounds_toArray, List.set_cons_zero, List.set_cons_succ])
          refine wpAnyE_take (i := 9) (oi := _) (v := .int .i64 0) rfl (by kernel_rfl) (by kernel_rfl) (by kernel_rfl) (by kernel_rfl) (fun _ _ _ h => h) (Or.inl ⟨by rfl, ?_⟩) hb0 ?_
          · intro w' hSw
            (try simp only [List.getElem_toArray, List.getElem_cons_succ, List.getElem_cons_zero])
            go_simp
          (try simp only [List.getElem_toArray, List.getElem_cons_succ, List.getElem_cons_zero, Act.put, List.setIfInBounds_toArray, List.set_cons_zero, List.set_cons_succ])
          refine wpAnyE_one (i := 12) (o := _) (by kernel_rfl) rfl (fun K hK => ?_)
          rw [if_pos (by rfl)]
          refine wp_store_row 53 (.tmp 14) (.tmp 179) rfl g3 #[.slice (some ⟨g, 0, none⟩) t.m.length cap] rfl rfl 53 #[.slice none 0 0] k1 (by kernel_rfl) rfl (by simp [Value.oneCell']) ?_
          have hb1 := below_setRowB hb0 zg3 #[.slice (some ⟨g, 0, none⟩) t.m.length cap]
          have k2' : Bk (x15.setRow g3 #[.slice (some ⟨g, 0, none⟩) t.m.length cap]) g4 43 #[.int .i64 0, .bool false] := (setRow_other _ _ _ _ (fun e => z34 e.symm)).trans k2
          have k1' := setRow_heap _ _ #[.slice none 0 0] #[.slice (some ⟨g, 0, none⟩) t.m.length cap] 53 (0, 0) k1
          replace hom := own_keptT hom (keptT_row k1 (cs := #[.slice (some ⟨g, 0, none⟩) t.m.length cap])) (by decide)
          refine hK.out _ _ (fun _ => hb1) ?_
          clear hK K
          (try simp only [List.getElem_toArray, List.getElem_cons_succ, List.getElem_cons_zero, Act.put])
          generalize x15.setRow g3 #[.slice (some ⟨g, 0, none⟩) t.m.length cap] = y1 at *
          refine wpAnyE_one (i := 13) (o := _) (by kernel_rfl) rfl (fun K hK => ?_)
          rw [if_pos (by rfl)]
          refine wp_store_row 43 (.tmp 15) (.tmp 180) rfl g4 #[.int .i64 ((⟨qk, qc, qo, qv⟩ : Acc).had t.m), .bool ((⟨qk, qc, qo, qv⟩ : Acc).ok ((⟨qk, qc, qo, qv⟩ : Acc).had t.m))] rfl rfl 43 #[.int .i64 0, .bool false] k2' (by kernel_rfl) rfl (by simp [Value.oneCell']) ?_
          have hb2 := below_setRowB hb1 zg4 #[.int .i64 ((⟨qk, qc, qo, qv⟩ : Acc).had t.m), .bool ((⟨qk, qc, qo, qv⟩ : Acc).ok ((⟨qk, qc, qo, qv⟩ : Acc).had t.m))]
          have k1'' : Bk (y1.setRow g4 #[.int .i64 ((⟨qk, qc, qo, qv⟩ : Acc).had t.m), .bool ((⟨qk, qc, qo, qv⟩ : Acc).ok ((⟨qk, qc, qo, qv⟩ : Acc).had t.m))]) g3 53 #[.slice (some ⟨g, 0, none⟩) t.m.length cap] := (setRow_other _ _ _ _ z34).trans k1'
          have k2'' := setRow_heap _ _ #[.int .i64 0, .bool false] #[.int .i64 ((⟨qk, qc, qo, qv⟩ : Acc).had t.m), .bool ((⟨qk, qc, qo, qv⟩ : Acc).ok ((⟨qk, qc, qo, qv⟩ : Acc).had t.m))] 43 (0, 0) k2'
          replace hom := own_keptT hom (keptT_row k2' (cs := #[.int .i64 ((⟨qk, qc, qo, qv⟩ : Acc).had t.m), .bool ((⟨qk, qc, qo, qv⟩ : Acc).ok ((⟨qk, qc, qo, qv⟩ : Acc).had t.m))])) (by decide)
          refine hK.out _ _ (fun _ => hb2) ?_
          clear hK K
          (try simp only [List.getElem_toArray, List.getElem_cons_succ, List.getElem_cons_zero, Act.put])
          generalize y1.setRow g4 #[.int .i64 ((⟨qk, qc, qo, qv⟩ : Acc).had t.m), .bool ((⟨qk, qc, qo, qv⟩ : Acc).ok ((⟨qk, qc, qo, qv⟩ : Acc).had t.m))] = y2 at *
          refine wpAnyE_one (i := 14) (o := _) (by kernel_rfl) rfl (fun K hK => ?_)
          (try simp only [List.getElem_toArray, List.getElem_cons_succ, List.getElem_cons_zero])
          go_simp
          refine hK.out _ _ (fun _ => hb2) ?_
          clear hK K
          (try simp only [List.getElem_toArray, List.getElem_cons_succ, List.getElem_cons_zero, Act.put, List.setIfInBounds_toArray, List.set_cons_zero, List.set_cons_succ])
          refine wpAnyE_done (by kernel_rfl) ?_ _
          go_wp2_with fail
          go_meet
          exact ⟨g3, g4, g, cap, rfl, rfl, rfl, zg3, zg4, z34, hb2, k1'', k2'', hom, zg⟩
        case rest =>
          obtain ⟨g3, g4, g, cap, rfl, rfl, rfl, z3, z4, z34, hb5, kM, kX, hom, zg⟩ := hcut
          have hT5 := HT4.out.keep hb5
          have zw5 : w.heap.size ≤ w5.heap.size := hst.size
          have zb5 : bs < w5.heap.size := kS.lt
          have zA5 : g1 < w5.heap.size := kA.lt
          have zR5 : bR < w5.heap.size := kR2.lt
          replace kS := kS.keep hb5
          replace kR2 := kR2.keep hb5
          replace kA := kA.keep hb5
          replace hst := hst.trans (StpL.of_below _ hb5)
          have hmk := Acc.make_length ⟨qk, qc, qo, qv⟩ t.m
          have hres : turnA l want who t = (⟨(⟨qk, qc, qo, qv⟩ : Acc).make t.m, t.seats.set who ⟨⟨ok, oj, oa, ob⟩, log ++ [((⟨qk, qc, qo, qv⟩ : Acc).had t.m, (⟨qk, qc, qo, qv⟩ : Acc).ok ((⟨qk, qc, qo, qv⟩ : Acc).had t.m))], nx, has⟩⟩, some (askA who ⟨ok, oj, oa, ob⟩ ⟨qk, qc, qo, qv⟩ ((⟨qk, qc, qo, qv⟩ : Acc).had t.m, (⟨qk, qc, qo, qv⟩ : Acc).ok ((⟨qk, qc, qo, qv⟩ : Acc).had t.m)))) := by
            unfold turnA
            rw [HS0.out]
            dsimp only
            rw [HS.out]
            dsimp only
            rw [if_neg hk0, HN.out.1]
            dsimp only
            rw [if_pos HN.out.2]
          generalize (⟨qk, qc, qo, qv⟩ : Acc).make t.m = m' at *
          generalize (⟨qk, qc, qo, qv⟩ : Acc).had t.m = had at *
          generalize (⟨qk, qc, qo, qv⟩ : Acc).ok had = gok at *
          have HRS := Lib.hid (And.intro hres hmk)
          obtain ⟨gm, cm, a1, a2, a3⟩ := hT5.tab
          have p0 := a1.cell 0
          have pf := a1.free 0
          have pl := a1.lt
          have m0 := kM.cell 0
          have ml := kM.lt
          simp at p0 m0
          have HT5 := Lib.hid (And.intro hT5 hom)
          clear hT5 hom hres hmk hb5 HT4 a2 a3
          go_upto_region 22 with fail
          clear p0 pf pl m0 ml
          have hom1 : OwnInts wc 0 (.slice (some ⟨g, 0, none⟩) m'.length cap) m' := by rw [HRS.out.2]; exact HT5.out.2
          have hT6 := HT5.out.1.mem (m' := m') hom1 (by omega)
          rw [HRS.out.2] at hT6
          have hkt := keptT_set a1 0 (.slice (some ⟨g, 0, none⟩) t.m.length cap)
          have hst6 := hst.trans (StpL.set (L := [gt, go, gl, gn, gh]) (g := gt) (by simp) wc 0 (.slice (some ⟨g, 0, none⟩) t.m.length cap))
          have kS6 := kS.keptT hkt (by decide)
          have kR6 := kR2.keptT hkt (by decide)
          have kA6 := kA.keptT hkt (by decide)
          have kX6 := kX.keptT hkt (by decide)
          clear kS kR2 kA kX kM a1 hkt hst hom1 HT5
          generalize wc.setCell ⟨gt, 0, none⟩ (.slice (some ⟨g, 0, none⟩) t.m.length cap) = w6 at *
          have e5 := kS6.cell 5
          have x5 := kS6.free 5
          have e6 := kS6.cell 6
          have x6 := kS6.free 6
          have e7 := kS6.cell 7
          have x7 := kS6.free 7
          have e8 := kS6.cell 8
          have x8 := kS6.free 8
          have e9 := kS6.cell 9
          have x9 := kS6.free 9
          have e10 := kS6.cell 10
          have x10 := kS6.free 10
          have u0 := kA6.cell 0
          have u1 := kA6.cell 1
          have u2 := kA6.cell 2
          have u3 := kA6.cell 3
          have v0 := kX6.cell 0
          have v1 := kX6.cell 1
          have lb := kS6.lt
          have la := kA6.lt
          have lx := kX6.lt
          simp at e5 e6 e7 e8 e9 e10 u0 u1 u2 u3 v0 v1
          have HT6 := Lib.hid hT6
          clear hT6
          go_upto_region 24 with fail
          clear e5 x5 e6 x6 e7 x7 e8 x8 e9 x9 e10 x10 u0 u1 u2 u3 v0 v1 lb la lx
          show Code.wp Try.prog _ _ _ ((((((w6.setCell ⟨bs, 5, none⟩ (.int .i64 qk)).setCell ⟨bs, 6, none⟩ (.int .i64 qc)).setCell ⟨bs, 7, none⟩ (.int .i64 qo)).setCell ⟨bs, 8, none⟩ (.int .i64 qv)).setCell ⟨bs, 9, none⟩ (.int .i64 had)).setCell ⟨bs, 10, none⟩ (.bool gok))
          have kS7 : Bk ((((((w6.setCell ⟨bs, 5, none⟩ (.int .i64 qk)).setCell ⟨bs, 6, none⟩ (.int .i64 qc)).setCell ⟨bs, 7, none⟩ (.int .i64 qo)).setCell ⟨bs, 8, none⟩ (.int .i64 qv)).setCell ⟨bs, 9, none⟩ (.int .i64 had)).setCell ⟨bs, 10, none⟩ (.bool gok)) bs 49 #[.int .i64 (who : Nat), .int .i64 ok, .int .i64 oj, .int .i64 oa, .int .i64 ob, .int .i64 qk, .int .i64 qc, .int .i64 qo, .int .i64 qv, .int .i64 had, .bool gok, .bool false, .int .i64 0, .bool false, .int .i64 0, .int .i64 0, .slice none 0 0] := (((((kS6.stored 5 (.int .i64 qk)).stored 6 (.int .i64 qc)).stored 7 (.int .i64 qo)).stored 8 (.int .i64 qv)).stored 9 (.int .i64 had)).stored 10 (.bool gok)
          have hkS : KeptT 49 w6 ((((((w6.setCell ⟨bs, 5, none⟩ (.int .i64 qk)).setCell ⟨bs, 6, none⟩ (.int .i64 qc)).setCell ⟨bs, 7, none⟩ (.int .i64 qo)).setCell ⟨bs, 8, none⟩ (.int .i64 qv)).setCell ⟨bs, 9, none⟩ (.int .i64 had)).setCell ⟨bs, 10, none⟩ (.bool gok)) := (((((keptT_set kS6 5 (.int .i64 qk)).trans (keptT_set (kS6.stored 5 (.int .i64 qk)) 6 (.int .i64 qc))).trans (keptT_set ((kS6.stored 5 (.int .i64 qk)).stored 6 (.int .i64 qc)) 7 (.int .i64 qo))).trans (keptT_set (((kS6.stored 5 (.int .i64 qk)).stored 6 (.int .i64 qc)).stored 7 (.int .i64 qo)) 8 (.int .i64 qv))).trans (keptT_set ((((kS6.stored 5 (.int .i64 qk)).stored 6 (.int .i64 qc)).stored 7 (.int .i64 qo)).stored 8 (.int .i64 qv)) 9 (.int .i64 had))).trans (keptT_set (((((kS6.stored 5 (.int .i64 qk)).stored 6 (.int .i64 qc)).stored 7 (.int .i64 qo)).stored 8 (.int .i64 qv)).stored 9 (.int .i64 had)) 10 (.bool gok))
          have hT7 := HT6.out.keptT hkS (by decide) (by decide) (by decide) (by decide) (by decide) (by decide)
          have kX7 := kX6.keptT hkS (by decide)
          have zb : w.heap.size ≤ bs := zS
          have kR7 : Bk ((((((w6.setCell ⟨bs, 5, none⟩ (.int .i64 qk)).setCell ⟨bs, 6, none⟩ (.int .i64 qc)).setCell ⟨bs, 7, none⟩ (.int .i64 qo)).setCell ⟨bs, 8, none⟩ (.int .i64 qv)).setCell ⟨bs, 9, none⟩ (.int .i64 had)).setCell ⟨bs, 10, none⟩ (.bool gok)) bR 49 stepZ := (((((kR6.other (p := ⟨bs, 5, none⟩) (by dsimp only; omega) _).other (p := ⟨bs, 6, none⟩) (by dsimp only; omega) _).other (p := ⟨bs, 7, none⟩) (by dsimp only; omega) _).other (p := ⟨bs, 8, none⟩) (by dsimp only; omega) _).other (p := ⟨bs, 9, none⟩) (by dsimp only; omega) _).other (p := ⟨bs, 10, none⟩) (by dsimp only; omega) _
          have hst7 : StpL [gt, go, gl, gn, gh] w ((((((w6.setCell ⟨bs, 5, none⟩ (.int .i64 qk)).setCell ⟨bs, 6, none⟩ (.int .i64 qc)).setCell ⟨bs, 7, none⟩ (.int .i64 qo)).setCell ⟨bs, 8, none⟩ (.int .i64 qv)).setCell ⟨bs, 9, none⟩ (.int .i64 had)).setCell ⟨bs, 10, none⟩ (.bool gok)) := (((((hst6.setNew zb 5 _).setNew zb 6 _).setNew zb 7 _).setNew zb 8 _).setNew zb 9 _).setNew zb 10 _
          clear hkS kS6 kR6 kX6 kA6 hst6 HT6
          generalize ((((((w6.setCell ⟨bs, 5, none⟩ (.int .i64 qk)).setCell ⟨bs, 6, none⟩ (.int .i64 qc)).setCell ⟨bs, 7, none⟩ (.int .i64 qo)).setCell ⟨bs, 8, none⟩ (.int .i64 qv)).setCell ⟨bs, 9, none⟩ (.int .i64 had)).setCell ⟨bs, 10, none⟩ (.bool gok)) = w7 at *
          obtain ⟨gm2, cm2, a1, a2, a3⟩ := hT7.tab
          obtain ⟨c2, d1, d2, d3⟩ := hT7.logs
          obtain ⟨G, cp, d4, d5⟩ := d3 who _ HSW.out
          have d6 := (d1.cell who).trans d4
          dsimp only at d6 d5
          have hll : log.length ≤ 900 := by
            have hw := wake_ok (want.getD who []) (HOK.out.seat s0 (List.mem_of_getElem? HS0.out))
            rw [HS.out] at hw
            exact hw.1
          have HD5 := Lib.hid d5
          have HT7 := Lib.hid hT7
          clear a2 a3 d2 d3 d4 d5 hT7
          refine wp_region_E (S := fun w' => Below w7.drew.heap.size w7.drew w') (E := fun i => i == 18) (by kernel_rfl) ?_
          have hb7 := below_drew' (Below.refl w7.heap.size w7)
          replace a1 := a1.drew
          replace d6 : w7.drew.cell? ⟨gl, who, none⟩ = some (.slice G log.length cp) := d6
          replace d1 := d1.drew
          replace kX7 := kX7.drew
          have d5 : OwnRes w7.drew 0 (.slice G log.length cp) log := HD5.out
          generalize w7.drew = w8 at *
          obtain ⟨ri, hri⟩ := res_rowT
          refine wpAnyE_take (i := 0) (oi := _) (v := .pointer (some ⟨gt, 0, none⟩)) rfl (by kernel_rfl) (by kernel_rfl) (by kernel_rfl) (by kernel_rfl) (fun _ _ _ h => h) (Or.inl ⟨by rfl, ?_⟩) (Below.refl _ _) ?_
          · intro w' hSw
            (try simp only [List.getElem_toArray, List.getElem_cons_zero])
            go_simp
          (try simp only [List.getElem_toArray, List.getElem_cons_zero, Act.put, List.setIfInBounds_toArray, List.set_cons_zero, List.set_cons_succ])
          refine wpAnyE_take (i := 1) (oi := _) (v := .pointer (some ⟨gt, 0, none⟩)) rfl (by kernel_rfl) (by kernel_rfl) (by kernel_rfl) (by kernel_rfl) (fun _ _ _ h => h) (Or.inl ⟨by rfl, ?_⟩) (Below.refl _ _) ?_
          · intro w' hSw
            (try simp only [List.getElem_toArray, List.getElem_cons_succ, List.getElem_cons_zero])
            go_simp
          (try simp only [List.getElem_toArray, List.getElem_cons_succ, List.getElem_cons_zero, Act.put, List.setIfInBounds_toArray, List.set_cons_zero, List.set_cons_succ])
          refine wpAnyE_take (i := 2) (oi := _) (v := .pointer (some ⟨gt, 2, none⟩)) rfl (by kernel_rfl) (by kernel_rfl) (by kernel_rfl) (by kernel_rfl) (fun _ _ _ h => h) (Or.inl ⟨by rfl, ?_⟩) (Below.refl _ _) ?_
          · intro w' hSw
            (try simp only [List.getElem_toArray, List.getElem_cons_succ, List.getElem_cons_zero])
            go_simp
          (try simp only [List.getElem_toArray, List.getElem_cons_succ, List.getElem_cons_zero, Act.put, List.setIfInBounds_toArray, List.set_cons_zero, List.set_cons_succ])
          refine wpAnyE_take (i := 3) (oi := _) (v := .slice (some ⟨gl, 0, none⟩) n n) rfl (by kernel_rfl) (by kernel_rfl) (by kernel_rfl) (by kernel_rfl) (fun _ _ _ h => h) (Or.inl ⟨by rfl, ?_⟩) (Below.refl _ _) ?_
          · intro w' hSw
            have s1 := (a1.keep hSw).cell 2
            (try simp at s1)
            (try simp only [List.getElem_toArray, List.getElem_cons_succ, List.getElem_cons_zero])
            go_simp
          (try simp only [List.getElem_toArray, List.getElem_cons_succ, List.getElem_cons_zero, Act.put, List.setIfInBounds_toArray, List.set_cons_zero, List.set_cons_succ])
          refine wpAnyE_take (i := 4) (oi := _) (v := .int .i64 (who : Nat)) rfl (by kernel_rfl) (by kernel_rfl) (by kernel_rfl) (by kernel_rfl) (fun _ _ _ h => h) (Or.inl ⟨by rfl, ?_⟩) (Below.refl _ _) ?_
          · intro w' hSw
            (try simp only [List.getElem_toArray, List.getElem_cons_succ, List.getElem_cons_zero])
            go_simp
          (try simp only [List.getElem_toArray, List.getElem_cons_succ, List.getElem_cons_zero, Act.put, List.setIfInBounds_toArray, List.set_cons_zero, List.set_cons_succ])
          refine wpAnyE_take (i := 6) (oi := _) (v := .pointer (some ⟨gt, 0, none⟩)) rfl (by kernel_rfl) (by kernel_rfl) (by kernel_rfl) (by kernel_rfl) (fun _ _ _ h => h) (Or.inl ⟨by rfl, ?_⟩) (Below.refl _ _) ?_
          · intro w' hSw
            (try simp only [List.getElem_toArray, List.getElem_cons_succ, List.getElem_cons_zero])
            go_simp
          (try simp only [List.getElem_toArray, List.getElem_cons_succ, List.getElem_cons_zero, Act.put, List.setIfInBounds_toArray, List.set_cons_zero, List.set_cons_succ])
          refine wpAnyE_take (i := 7) (oi := _) (v := .pointer (some ⟨gt, 0, none⟩)) rfl (by kernel_rfl) (by kernel_rfl) (by kernel_rfl) (by kernel_rfl) (fun _ _ _ h => h) (Or.inl ⟨by rfl, ?_⟩) (Below.refl _ _) ?_
          · intro w' hSw
            (try simp only [List.getElem_toArray, List.getElem_cons_succ, List.getElem_cons_zero])
            go_simp
          (try simp only [List.getElem_toArray, List.getElem_cons_succ, List.getElem_cons_zero, Act.put, List.setIfInBounds_toArray, List.set_cons_zero, List.set_cons_succ])
          refine wpAnyE_take (i := 8) (oi := _) (v := .pointer (some ⟨gt, 2, none⟩)) rfl (by kernel_rfl) (by kernel_rfl) (by kernel_rfl) (by kernel_rfl) (fun _ _ _ h => h) (Or.inl ⟨by rfl, ?_⟩) (Below.refl _ _) ?_
          · intro w' hSw
            (try simp only [List.getElem_toArray, List.getElem_cons_succ, List.getElem_cons_zero])
            go_simp
          (try simp only [List.getElem_toArray, List.getElem_cons_succ, List.getElem_cons_zero, Act.put, List.setIfInBounds_toArray, List.set_cons_zero, List.set_cons_succ])
          refine wpAnyE_take (i := 9) (oi := _) (v := .slice (some ⟨gl, 0, none⟩) n n) rfl (by kernel_rfl) (by kernel_rfl) (by kernel_rfl) (by kernel_rfl) (fun _ _ _ h => h) (Or.inl ⟨by rfl, ?_⟩) (Below.refl _ _) ?_
          · intro w' hSw
            have s1 := (a1.keep hSw).cell 2
            (try simp at s1)
            (try simp only [List.getElem_toArray, List.getElem_cons_succ, List.getElem_cons_zero])
            go_simp
          (try simp only [List.getElem_toArray, List.getElem_cons_succ, List.getElem_cons_zero, Act.put, List.setIfInBounds_toArray, List.set_cons_zero, List.set_cons_succ])
          refine wpAnyE_take (i := 10) (oi := _) (v := .int .i64 (who : Nat)) rfl (by kernel_rfl) (by kernel_rfl) (by kernel_rfl) (by kernel_rfl) (fun _ _ _ h => h) (Or.inl ⟨by rfl, ?_⟩) (Below.refl _ _) ?_
          · intro w' hSw
            (try simp only [List.getElem_toArray, List.getElem_cons_succ, List.getElem_cons_zero])
            go_simp
          (try simp only [List.getElem_toArray, List.getElem_cons_succ, List.getElem_cons_zero, Act.put, List.setIfInBounds_toArray, List.set_cons_zero, List.set_cons_succ])
          refine wpAnyE_take (i := 11) (oi := _) (v := .pointer (some ⟨gl, who, none⟩)) rfl (by kernel_rfl) (by kernel_rfl) (by kernel_rfl) (by kernel_rfl) (fun _ _ _ h => h) (Or.inl ⟨by rfl, ?_⟩) (Below.refl _ _) ?_
          · intro w' hSw
            have g3 : (who : Int) < n := by omega
            (try simp only [List.getElem_toArray, List.getElem_cons_succ, List.getElem_cons_zero])
            go_simp
          (try simp only [List.getElem_toArray, List.getElem_cons_succ, List.getElem_cons_zero, Act.put, List.setIfInBounds_toArray, List.set_cons_zero, List.set_cons_succ])
          refine wpAnyE_take (i := 12) (oi := _) (v := .slice G log.length cp) rfl (by kernel_rfl) (by kernel_rfl) (by kernel_rfl) (by kernel_rfl) (fun _ _ _ h => h) (Or.inl ⟨by rfl, ?_⟩) (Below.refl _ _) ?_
          · intro w' hSw
            have s1 := cell_keep hSw d6
            (try simp at s1)
            (try simp only [List.getElem_toArray, List.getElem_cons_succ, List.getElem_cons_zero])
            go_simp
          (try simp only [List.getElem_toArray, List.getElem_cons_succ, List.getElem_cons_zero, Act.put, List.setIfInBounds_toArray, List.set_cons_zero, List.set_cons_succ])
          refine wpAnyE_take (i := 14) (oi := _) (v := .agg #[.int .i64 had, .bool gok]) rfl (by kernel_rfl) (by kernel_rfl) (by kernel_rfl) (by kernel_rfl) (fun _ _ _ h => h) (Or.inl ⟨by rfl, ?_⟩) (Below.refl _ _) ?_
          · intro w' hSw
            have s1 := (kX7.keep hSw).cell 0
            have s2 := (kX7.keep hSw).cell 1
            (try simp at s1 s2)
            (try simp only [List.getElem_toArray, List.getElem_cons_succ, List.getElem_cons_zero])
            go_simp
          (try simp only [List.getElem_toArray, List.getElem_cons_succ, List.getElem_cons_zero, Act.put, List.setIfInBounds_toArray, List.set_cons_zero, List.set_cons_succ])
          refine wpAnyE_app2 hri 5 13 15 16 198 206 208 209 (.tmp 205) (.tmp 207) rfl rfl rfl rfl ⟨rfl, rfl, rfl⟩ ⟨rfl, rfl, rfl⟩ ⟨rfl, rfl, rfl⟩ ⟨rfl, rfl, rfl⟩ (by kernel_rfl) (by kernel_rfl) (by kernel_rfl) (by kernel_rfl) (by kernel_rfl) (by kernel_rfl) (by simp) ⟨of_decide_eq_true (by kernel_rfl), of_decide_eq_true (by kernel_rfl), of_decide_eq_true (by kernel_rfl)⟩ w8.heap.size (Nat.le_refl _) (Below.refl _ _) (fun w1 w2 h12 h1 => h1.trans h12) G log.length cp (resCells log) rfl (Src.own d5 (Nat.le_refl _)) (resCells_one log) (.agg #[.int .i64 had, .bool gok]) #[.int .i64 had, .bool gok] rfl (fun w => by kernel_rfl) rfl (by simp [Value.oneCell']) (by omega) (by omega) ?_
          intro vA vB vC vD w15 hown hb15 hS15
          (try simp only [Act.put, List.setIfInBounds_toArray, List.set_cons_zero, List.set_cons_succ])
          obtain ⟨GD, cD, rfl⟩ := own_slice hown
          refine wpAnyE_take (i := 17) (oi := _) (v := .pointer (some ⟨gl, who, none⟩)) rfl (by kernel_rfl) (by kernel_rfl) (by kernel_rfl) (by kernel_rfl) (fun _ _ _ h => h) (Or.inl ⟨by rfl, ?_⟩) hS15 ?_
          · intro w' hSw
            have g3 : (who : Int) < n := by omega
            (try simp only [List.getElem_toArray, List.getElem_cons_succ, List.getElem_cons_zero])
            go_simp
          (try simp only [List.getElem_toArray, List.getElem_cons_succ, List.getElem_cons_zero, Act.put, List.setIfInBounds_toArray, List.set_cons_zero, List.set_cons_succ])
          have x1 := cell_keep hb15 d6
          have xf := (d1.keep hb15).free who
          have xl := (d1.keep hb15).lt
          refine wpAnyE_one (i := 18) (o := _) (by kernel_rfl) rfl (fun K hK => ?_)
          (try simp only [List.getElem_toArray, List.getElem_cons_succ, List.getElem_cons_zero])
          go_simp
          clear x1 xf xl
          refine hK.out _ _ (fun h => absurd h (by decide)) ?_
          clear hK K
          refine wpAnyE_done (by kernel_rfl) ?_ _
          have hin : OwnRes w15 0 (.slice GD (log ++ [(had, gok)]).length cD) (log ++ [(had, gok)]) := by
            unfold OwnRes
            rw [resCells_snoc, List.length_append]
            exact own_lower hown (Nat.zero_le _)
          have hbb := below_tr hb7 hb15
          have hT8 := (HT7.out.keep hbb).log HSW.out hin
          dsimp only at hT8
          rw [List.set_set, List.length_append] at hT8
          have hst8 := (hst7.trans (StpL.of_below _ hbb)).trans (StpL.set (L := [gt, go, gl, gn, gh]) (g := gl) (by simp) w15 who (.slice GD (log.length + 1) cD))
          have hk8 := keptT_set (d1.keep hb15) who (.slice GD (log.length + 1) cD)
          have kS8 := (kS7.keep hbb).keptT hk8 (by decide)
          have kR8 := (kR7.keep hbb).keptT hk8 (by decide)
          clear hk8 hown hin hbb hb15 hS15 a1 d1 d6 kX7 kS7 kR7 d5 hst7
          generalize w15.setCell ⟨gl, who, none⟩ (.slice GD (log.length + 1) cD) = w9 at *
          have hT9 := hT8.keptT (w' := w9.setRow bR #[.int .i64 (who : Nat), .int .i64 ok, .int .i64 oj, .int .i64 oa, .int .i64 ob, .int .i64 qk, .int .i64 qc, .int .i64 qo, .int .i64 qv, .int .i64 had, .bool gok, .bool false, .int .i64 0, .bool false, .int .i64 0, .int .i64 0, .slice none 0 0]) (keptT_row kR8) (by decide) (by decide) (by decide) (by decide) (by decide) (by decide)
          have hst9 := hst8.rowNew (g := bR) (by omega) #[.int .i64 (who : Nat), .int .i64 ok, .int .i64 oj, .int .i64 oa, .int .i64 ob, .int .i64 qk, .int .i64 qc, .int .i64 qo, .int .i64 qv, .int .i64 had, .bool gok, .bool false, .int .i64 0, .bool false, .int .i64 0, .int .i64 0, .slice none 0 0]
          have kf := setRow_heap _ _ stepZ #[.int .i64 (who : Nat), .int .i64 ok, .int .i64 oj, .int .i64 oa, .int .i64 ob, .int .i64 qk, .int .i64 qc, .int .i64 qo, .int .i64 qv, .int .i64 had, .bool gok, .bool false, .int .i64 0, .bool false, .int .i64 0, .int .i64 0, .slice none 0 0] 49 (0, 0) kR8
          have HT9 := Lib.hid hT9
          clear hT9 hT8
          go_wp2_with (first
            | (refine wpList_load_row rfl 49 (.tmp 10) rfl bs rfl 49 #[.int .i64 (who : Nat), .int .i64 ok, .int .i64 oj, .int .i64 oa, .int .i64 ob, .int .i64 qk, .int .i64 qc, .int .i64 qo, .int .i64 qv, .int .i64 had, .bool gok, .bool false, .int .i64 0, .bool false, .int .i64 0, .int .i64 0, .slice none 0 0] (0, 0) _ kS8 Try.underlying49 rfl (by kernel_rfl) ?_)
            | (refine wpList_store_rowTo rfl 49 (.tmp 8) (.tmp 211) rfl rfl bR #[.int .i64 (who : Nat), .int .i64 ok, .int .i64 oj, .int .i64 oa, .int .i64 ob, .int .i64 qk, .int .i64 qc, .int .i64 qo, .int .i64 qv, .int .i64 had, .bool gok, .bool false, .int .i64 0, .bool false, .int .i64 0, .int .i64 0, .slice none 0 0] rfl rfl 49 stepZ kR8 (by kernel_rfl) rfl (by simp [Value.oneCell']) ?_))
          refine bodyPost_ret (v := .tuple #[.agg #[.int .i64 (who : Nat), .int .i64 ok, .int .i64 oj, .int .i64 oa, .int .i64 ob, .int .i64 qk, .int .i64 qc, .int .i64 qo, .int .i64 qv, .int .i64 had, .bool gok, .bool false, .int .i64 0, .bool false, .int .i64 0, .int .i64 0, .slice none 0 0], .bool true]) (results_cell_tmp (p := 8) (t := 9) (ty := 49) rfl _ _ bR 49 _ (0, 0) _ _ rfl rfl kf Try.underlying49 rfl (by kernel_rfl)) rfl ?_
          rw [HRS.out.1]
          exact ⟨rfl, HT9.out, hst9⟩
end Go.Proofs.Ytbcgjolcfagboaa
