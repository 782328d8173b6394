/- law18's turn. Printed by dqturn_gen.py. -/
import Derived.Test.YtdjglkpcdhkodaaDqW
import Derived.Test.YtdjglkpcdhkodaaDqC
namespace Go.Proofs.Ytdjglkpcdhkodaa
open Go.RowKit
set_option linter.unusedVariables false
attribute [local go_sem ↓] Go.wp_at_zero Go.wp_at_succ

def tuT1 : Nat → Nat | 14 => 92 | 15 => 77 | 16 => 93 | 17 => 94 | 18 => 95 | 19 => 8 | 20 => 9 | 21 => 184 | 22 => 185 | 23 => 10 | _ => 186
def tuT2 : Nat → Nat | 5 => 139 | 6 => 133 | 7 => 140 | 8 => 141 | 9 => 142 | 10 => 11 | 11 => 12 | 12 => 184 | 13 => 185 | 14 => 13 | _ => 186
/-- Sizes that a turn needs. -/
structure TOk (t : TabD) (who : Nat) : Prop where
  ml : t.m.length ≤ 1000
  step : t.step ≤ 100000
  log : (t.seat who).log.length ≤ 900
  lin : LogIn (t.seat who).log
  nx : (t.seat who).next ≤ 1000
  dn : t.done.length ≤ 90000
  op : (t.seat who).op.kind = 0 ∨ (((t.seat who).op.kind = 8 ∨ (t.seat who).op.kind = 9 ∨ (t.seat who).op.kind = 10) ∧ (t.seat who).op.obj = 0)
theorem wishD_op (p : PlayD) (who n : Nat) : (wishD p who n).kind = 0 ∨ (((wishD p who n).kind = 8 ∨ (wishD p who n).kind = 9 ∨ (wishD p who n).kind = 10) ∧ (wishD p who n).obj = 0) := by
  unfold wishD
  repeat' split
  all_goals first | exact .inl rfl | exact .inr ⟨.inl rfl, rfl⟩ | exact .inr ⟨.inr (.inl rfl), rfl⟩ | exact .inr ⟨.inr (.inr rfl), rfl⟩
theorem wake_ok {p : PlayD} {t : TabD} {who : Nat} (h : TOk t who) (hk : (wakeD p who t.step (t.seat who)).op.kind ≠ 0) :
    ((wakeD p who t.step (t.seat who)).op.kind = 8 ∨ (wakeD p who t.step (t.seat who)).op.kind = 9 ∨ (wakeD p who t.step (t.seat who)).op.kind = 10) ∧ (wakeD p who t.step (t.seat who)).op.obj = 0 ∧ (wakeD p who t.step (t.seat who)).log.length ≤ 900 ∧ LogIn (wakeD p who t.step (t.seat who)).log := by
  have hw := wishD_op p who (t.seat who).next
  unfold wakeD at hk ⊢
  split at hk
  · rename_i h0
    rw [if_pos h0]
    split at hk
    · rename_i h1
      exact absurd h1 hk
    · rename_i h1
      rw [if_neg h1]
      rcases hw with hw | hw
      · exact absurd hw h1
      · exact ⟨hw.1, hw.2, by simp, fun k x hx => by simp at hx⟩
  · rename_i h0
    rw [if_neg h0]
    rcases h.op with hw | hw
    · exact absurd hw h0
    · exact ⟨hw.1, hw.2, h.log, h.lin⟩
def UnitStep (B gt : Nat) (t' : TabD) (w : World) (e : Ending) (w' : World) : Prop := e = .returned (.tuple #[]) ∧ TRep w' B gt t' ∧ TStp B w w'
/-- What Next tells, in letters. -/
def AnsIs (r : Ans) (k c o v val : Int) (is : Bool) (err pt : Int) (dn : Bool) : Prop :=
  match r with
  | .ask k' c' o' v' => (k = k' ∧ c = c' ∧ o = o' ∧ v = v') ∧ val = 0 ∧ is = false ∧ err = 0 ∧ pt = 0 ∧ dn = false
  | .out val' is' err' pt' => (k = 0 ∧ c = 0 ∧ o = 0 ∧ v = 0) ∧ val = val' ∧ is = is' ∧ err = err' ∧ pt = pt' ∧ dn = true
theorem ansIs_of (r : Ans) : ∃ k c o v val is err pt dn, AnsIs r k c o v val is err pt dn := by
  cases r with
  | ask k c o v => exact ⟨k, c, o, v, 0, false, 0, 0, false, ⟨rfl, rfl, rfl, rfl⟩, rfl, rfl, rfl, rfl, rfl⟩
  | out val is err pt => exact ⟨0, 0, 0, 0, val, is, err, pt, true, ⟨rfl, rfl, rfl, rfl⟩, rfl, rfl, rfl, rfl, rfl⟩
theorem ansIs_post {r : Ans} {k c o v val : Int} {is : Bool} {err pt : Int} {dn : Bool} (h : AnsIs r k c o v val is err pt dn) {w : World} {e : Ending} {w' : World} (hp : NextPost r w e w') : e = .returned (.tuple #[.agg (accC k c o v), .agg (outC val is err pt), .bool dn]) ∧ Below w.heap.size w w' := by
  cases r with
  | ask k' c' o' v' => obtain ⟨⟨rfl, rfl, rfl, rfl⟩, rfl, rfl, rfl, rfl, rfl⟩ := h; exact hp
  | out val' is' err' pt' => obtain ⟨⟨rfl, rfl, rfl, rfl⟩, rfl, rfl, rfl, rfl, rfl⟩ := h; exact hp
theorem ownI_keep {w w' : World} {base : Nat} {v : Value} {zs : List Int} (h : OwnInts w base v zs) (hb : Below w.heap.size w w') : OwnInts w' base v zs := own_keepb' (show World.ownsRow w base 3 1 v zs.length (ints zs) from h) hb
def NxX (k c o v val : Int) (is : Bool) (err pt : Int) (dn : Bool) (c1 c2 : Array Value) (v3 : Value) (w : World) : Prop := c1 = accC k c o v ∧ c2 = outC val is err pt ∧ v3 = .bool dn
def DoX (a : Acc) (m : List Int) (c1 c2 : Array Value) (v3 : Value) (w : World) : Prop :=
  ∃ g cap, (c1 = #[.slice (some ⟨g, 0, none⟩) m.length cap] ∧ c2 = #[.int .i64 (a.had m), .bool (a.ok (a.had m))] ∧ v3 = .int .i64 0) ∧ OwnInts w 0 (.slice (some ⟨g, 0, none⟩) m.length cap) (a.make m)
theorem doX_keep {a : Acc} {m : List Int} : ∀ (c1 c2 : Array Value) (v3 : Value) (w1 w2 : World), DoX a m c1 c2 v3 w1 → (KeptT 37 w1 w2 ∨ KeptT 76 w1 w2 ∨ Below w1.heap.size w1 w2) → DoX a m c1 c2 v3 w2 := by
  rintro c1 c2 v3 w1 w2 ⟨g, cap, h1, h2⟩ hd
  refine ⟨g, cap, h1, ?_⟩
  rcases hd with h | h | h
  · exact own_keptT h2 h (by decide)
  · exact own_keptT h2 h (by decide)
  · exact own_keepb' h2 h
set_option maxRecDepth 1000000 in
set_option maxHeartbeats 16000000 in
theorem dturn_any (l : Ly) (p : PlayD) (B gt : Nat) (t : TabD) (O : Option Addr) (co : Nat) (tk : Int) (T : Option Addr) (m d who : Nat) (w : World) (f : DqLy l) (hT : TRep w B gt t) (hok : TOk t who) (hO : SlU8 w w.heap.size O p.own) (hw : who < 3) (h1 : p.s1 < 256) (h2 : p.s2 < 256)
    (hE : ∀ k c o v, nextD l (wakeD p who t.step (t.seat who)).op (wakeD p who t.step (t.seat who)).log = .ask k c o v → (wakeD p who t.step (t.seat who)).op.kind ≠ 0 → (⟨k, c, o, v⟩ : Acc).err t.m.length = 0) :
    Calls Try.prog 18 #[ptr gt, .agg (lyC l), .agg (playC O p.own.length co p.s1 p.s2 tk T m d), .int .i64 (who : Nat)] w (UnitStep B gt (turnD l p who t) w) := by
  have hPC : ∃ pc : Array Value, playC O p.own.length co p.s1 p.s2 tk T m d = pc := ⟨_, rfl⟩
  have kL := (Bk.made w 31 (lyC l)).alloc (.cells (playC O p.own.length co p.s1 p.s2 tk T m d) 25)
  have kP := Bk.new (w.alloc (.cells (lyC l) 31)) (g := w.heap.size + 1) (by simp) 25 (playC O p.own.length co p.s1 p.s2 tk T m d)
  have hbl := below_al (below_al (Below.refl w.heap.size w) (.cells (lyC l) 31)) (.cells (playC O p.own.length co p.s1 p.s2 tk T m d) 25)
  have hT1 := hT.keep hbl
  have hO1 := (hO.below hbl).more hbl.size
  have hgtw := hT.lt
  have hBg := hT.base
  have HF := Lib.hid f
  have HOK := Lib.hid hok
  have HE := Lib.hid hE
  clear f hT hok hE hO hPC
  go_enter Try.func18, Try.ntmps18
  go_upto_region 1 with fail
  generalize (w.alloc (.cells (lyC l) 31)).alloc (.cells (playC O p.own.length co p.s1 p.s2 tk T m d) 25) = w1 at *
  obtain ⟨bL, hbL⟩ : ∃ g, w.heap.size = g := ⟨_, rfl⟩
  obtain ⟨bP, hbP⟩ : ∃ g, w.heap.size + 1 = g := ⟨_, rfl⟩
  rw [hbP] at kP ⊢
  rw [hbL] at kL hgtw ⊢
  have zLP : bL < bP := by omega
  have hBw : B ≤ w.heap.size := by omega
  have hst1 : TStp B w w1 := .of_below hbl hBw
  clear hbL hbP
  have HST1 := Lib.hid hst1
  have HO1 := Lib.hid hO1
  clear hst1 hO1
  obtain ⟨mv, dv, lv, hx⟩ := hT1
  have i1 : (0 : Int) ≤ who := by omega
  have i2 : (who : Int) < 3 := by omega
  obtain ⟨a1, a2, a3, a4, a5, a6, a7, a8⟩ := tab_at (mv := mv) (dv := dv) (lv := lv) (t := t) hw
  have o1 := (hx.tab.cell (2 + who * 4)).trans a1
  have lt := hx.tab.lt
  have HX := Lib.hid hx
  clear hx a1 a2 a3 a4 a5 a6 a7 a8
  go_upto_if 21 with fail
  clear o1 lt
  obtain ⟨s, hs⟩ : ∃ s, wakeD p who t.step (t.seat who) = s := ⟨_, rfl⟩
  have HS := Lib.hid hs
  clear hs
  obtain ⟨s0, hs0⟩ : ∃ s0, t.seat who = s0 := ⟨_, rfl⟩
  have HS0 := Lib.hid hs0
  rw [hs0]
  clear hs0
  go_cut [] from 21 to 76 (fun wx => TRep wx B gt { t with seat := upS t.seat who s } ∧ TStp B w wx ∧ Bk wx bL 31 (lyC l) ∧ s.op.kind ≠ 0)
  case first =>
    by_cases hk : s0.op.kind = 0
    · have g1 : (s0.op.kind == (0 : Int)) = true := by simp; exact hk
      have HK := Lib.hid hk
      clear hk
      rw [g1]
      clear g1
      go_upto_region 2 with fail
      refine wp_region_E (S := fun w' => Below w1.drew.heap.size w1.drew w') (E := fun i => i == 14) (by kernel_rfl) ?_
      have hb1 := below_drew' (Below.refl w1.heap.size w1)
      have hx := HX.out.keep hb1
      replace kP := kP.drew
      have hO2 := (HO1.out.below hb1).more hb1.size
      generalize w1.drew = w2 at *
      obtain ⟨a1, a2, a3, a4, a5, a6, a7, a8⟩ := tab_at (mv := mv) (dv := dv) (lv := lv) (t := t) hw
      rw [HS0.out] at a8
      have o1 := (hx.tab.cell (23 + who)).trans a8
      have hnx : s0.next ≤ 1000 := by have := HOK.out.nx; rw [HS0.out] at this; exact this
      refine wpAnyE_take (i := 0) (oi := _) (v := .pointer (some ⟨gt, 0, none⟩)) rfl (by kernel_rfl) (by kernel_rfl) (by kernel_rfl) (by kernel_rfl) (fun _ _ _ h => h) (Or.inl ⟨by rfl, ?_⟩) (Below.refl _ _) ?_
      · intro w' hSw
        (try simp only [List.getElem_toArray, List.getElem_cons_zero])
        go_simp
      (try simp only [List.getElem_toArray, List.getElem_cons_zero, Act.put, List.setIfInBounds_toArray, List.set_cons_zero, List.set_cons_succ])
      refine wpAnyE_take (i := 1) (oi := _) (v := .int .i64 (who : Nat)) rfl (by kernel_rfl) (by kernel_rfl) (by kernel_rfl) (by kernel_rfl) (fun _ _ _ h => h) (Or.inl ⟨by rfl, ?_⟩) (Below.refl _ _) ?_
      · intro w' hSw
        (try simp only [List.getElem_toArray, List.getElem_cons_succ, List.getElem_cons_zero])
        go_simp
      (try simp only [List.getElem_toArray, List.getElem_cons_succ, List.getElem_cons_zero, Act.put, List.setIfInBounds_toArray, List.set_cons_zero, List.set_cons_succ])
      refine wpAnyE_take (i := 2) (oi := _) (v := .agg (playC O p.own.length co p.s1 p.s2 tk T m d)) rfl (by kernel_rfl) (by kernel_rfl) (by kernel_rfl) (by kernel_rfl) (fun _ _ _ h => h) (Or.inl ⟨by rfl, ?_⟩) (Below.refl _ _) ?_
      · intro w' hSw
        (try simp only [List.getElem_toArray, List.getElem_cons_succ, List.getElem_cons_zero])
        simp only [execOp, Instr.loadAt, Instr.sureAddr, Sem.run_bind, Sem.run_pure]
        rw [show (Act.eval _ (Operand.tmp 6)) = Value.pointer (some ⟨bP, 0, none⟩) from rfl]
        simp only [Sem.run_pure, Result.andThen_ok, run_loadVar_row w' bP 25 25 (playC O p.own.length co p.s1 p.s2 tk T m d) (0, 0) _ (kP.keep hSw) Try.underlying25 rfl (by kernel_rfl)]
      (try simp only [List.getElem_toArray, List.getElem_cons_succ, List.getElem_cons_zero, Act.put, List.setIfInBounds_toArray, List.set_cons_zero, List.set_cons_succ])
      refine wpAnyE_take (i := 3) (oi := _) (v := .int .i64 (who : Nat)) rfl (by kernel_rfl) (by kernel_rfl) (by kernel_rfl) (by kernel_rfl) (fun _ _ _ h => h) (Or.inl ⟨by rfl, ?_⟩) (Below.refl _ _) ?_
      · intro w' hSw
        (try simp only [List.getElem_toArray, List.getElem_cons_succ, List.getElem_cons_zero])
        go_simp
      (try simp only [List.getElem_toArray, List.getElem_cons_succ, List.getElem_cons_zero, Act.put, List.setIfInBounds_toArray, List.set_cons_zero, List.set_cons_succ])
      refine wpAnyE_take (i := 4) (oi := _) (v := .pointer (some ⟨gt, 0, none⟩)) rfl (by kernel_rfl) (by kernel_rfl) (by kernel_rfl) (by kernel_rfl) (fun _ _ _ h => h) (Or.inl ⟨by rfl, ?_⟩) (Below.refl _ _) ?_
      · intro w' hSw
        (try simp only [List.getElem_toArray, List.getElem_cons_succ, List.getElem_cons_zero])
        go_simp
      (try simp only [List.getElem_toArray, List.getElem_cons_succ, List.getElem_cons_zero, Act.put, List.setIfInBounds_toArray, List.set_cons_zero, List.set_cons_succ])
      refine wpAnyE_take (i := 5) (oi := _) (v := .int .i64 (who : Nat)) rfl (by kernel_rfl) (by kernel_rfl) (by kernel_rfl) (by kernel_rfl) (fun _ _ _ h => h) (Or.inl ⟨by rfl, ?_⟩) (Below.refl _ _) ?_
      · intro w' hSw
        (try simp only [List.getElem_toArray, List.getElem_cons_succ, List.getElem_cons_zero])
        go_simp
      (try simp only [List.getElem_toArray, List.getElem_cons_succ, List.getElem_cons_zero, Act.put, List.setIfInBounds_toArray, List.set_cons_zero, List.set_cons_succ])
      refine wpAnyE_take (i := 6) (oi := _) (v := .pointer (some ⟨gt, 0, none⟩)) rfl (by kernel_rfl) (by kernel_rfl) (by kernel_rfl) (by kernel_rfl) (fun _ _ _ h => h) (Or.inl ⟨by rfl, ?_⟩) (Below.refl _ _) ?_
      · intro w' hSw
        (try simp only [List.getElem_toArray, List.getElem_cons_succ, List.getElem_cons_zero])
        go_simp
      (try simp only [List.getElem_toArray, List.getElem_cons_succ, List.getElem_cons_zero, Act.put, List.setIfInBounds_toArray, List.set_cons_zero, List.set_cons_succ])
      refine wpAnyE_take (i := 7) (oi := _) (v := .pointer (some ⟨gt, 23, none⟩)) rfl (by kernel_rfl) (by kernel_rfl) (by kernel_rfl) (by kernel_rfl) (fun _ _ _ h => h) (Or.inl ⟨by rfl, ?_⟩) (Below.refl _ _) ?_
      · intro w' hSw
        (try simp only [List.getElem_toArray, List.getElem_cons_succ, List.getElem_cons_zero])
        go_simp
      (try simp only [List.getElem_toArray, List.getElem_cons_succ, List.getElem_cons_zero, Act.put, List.setIfInBounds_toArray, List.set_cons_zero, List.set_cons_succ])
      refine wpAnyE_take (i := 8) (oi := _) (v := .pointer (some ⟨gt, 23 + who, none⟩)) rfl (by kernel_rfl) (by kernel_rfl) (by kernel_rfl) (by kernel_rfl) (fun _ _ _ h => h) (Or.inl ⟨by rfl, ?_⟩) (Below.refl _ _) ?_
      · intro w' hSw
        have g3 : (who : Int) < 3 := by omega
        (try simp only [List.getElem_toArray, List.getElem_cons_succ, List.getElem_cons_zero])
        go_simp
      (try simp only [List.getElem_toArray, List.getElem_cons_succ, List.getElem_cons_zero, Act.put, List.setIfInBounds_toArray, List.set_cons_zero, List.set_cons_succ])
      refine wpAnyE_take (i := 9) (oi := _) (v := .int .i64 (s0.next : Nat)) rfl (by kernel_rfl) (by kernel_rfl) (by kernel_rfl) (by kernel_rfl) (fun _ _ _ h => h) (Or.inl ⟨by rfl, ?_⟩) (Below.refl _ _) ?_
      · intro w' hSw
        have s1 := cell_keep hSw o1
        (try simp at s1)
        (try simp only [List.getElem_toArray, List.getElem_cons_succ, List.getElem_cons_zero])
        go_simp
      (try simp only [List.getElem_toArray, List.getElem_cons_succ, List.getElem_cons_zero, Act.put, List.setIfInBounds_toArray, List.set_cons_zero, List.set_cons_succ])
      refine wpAnyE_takeW (i := 11) (oi := _) (v := .pointer (some ⟨gt, 0, none⟩)) rfl (by kernel_rfl) (by kernel_rfl) (by kernel_rfl) (fun _ _ _ h => h) (Or.inl ⟨by rfl, ?_⟩) ?_
      · intro w' hSw
        clear hSw
        (try simp only [List.getElem_toArray, List.getElem_cons_succ, List.getElem_cons_zero])
        go_simp
      (try simp only [List.getElem_toArray, List.getElem_cons_succ, List.getElem_cons_zero, Act.put, List.setIfInBounds_toArray, List.set_cons_zero, List.set_cons_succ])
      refine wpAnyE_takeW (i := 12) (oi := _) (v := .pointer (some ⟨gt, 2, none⟩)) rfl (by kernel_rfl) (by kernel_rfl) (by kernel_rfl) (fun _ _ _ h => h) (Or.inl ⟨by rfl, ?_⟩) ?_
      · intro w' hSw
        clear hSw
        (try simp only [List.getElem_toArray, List.getElem_cons_succ, List.getElem_cons_zero])
        go_simp
      (try simp only [List.getElem_toArray, List.getElem_cons_succ, List.getElem_cons_zero, Act.put, List.setIfInBounds_toArray, List.set_cons_zero, List.set_cons_succ])
      refine wpAnyE_one (i := 10) (o := _) (by kernel_rfl) rfl (fun K hK => ?_)
      (try simp only [List.getElem_toArray, List.getElem_cons_succ, List.getElem_cons_zero])
      go_simp
      (with_reducible refine (wish_any p O co tk T m d who s0.next _ hw (by omega) h1 h2 hO2).mono ?_)
      rintro e w3 ⟨rfl, hb⟩
      have hwk : (if (wishD p who s0.next).kind = 0 then { s0 with op := wishD p who s0.next } else ⟨wishD p who s0.next, [], t.step, t.step, s0.next + 1⟩) = s := by
        have h1 := HS.out
        unfold wakeD at h1
        rw [HS0.out, if_pos HK.out] at h1
        exact h1
      have hx3 := hx.keep hb
      have hb13 := below_tr hb1 hb
      have hst3 : TStp B w w3 := HST1.out.trans (.of_below hb13 (by have := hbl.size; omega))
      have kL3 := kL.keep hb13
      generalize wishD p who s0.next = op at *
      obtain ⟨pk, pj, pa, pb⟩ := op
      refine hK.out _ _ (fun _ => hb) ?_
      clear hK K
      (try simp only [List.getElem_toArray, List.getElem_cons_succ, List.getElem_cons_zero, Act.put, List.setIfInBounds_toArray, List.set_cons_zero, List.set_cons_succ])
      refine wpAnyE_take (i := 13) (oi := _) (v := .pointer (some ⟨gt, 2 + who * 4, none⟩)) rfl (by kernel_rfl) (by kernel_rfl) (by kernel_rfl) (by kernel_rfl) (fun _ _ _ h => h) (Or.inl ⟨by rfl, ?_⟩) hb ?_
      · intro w' hSw
        have g3 : (who : Int) < 3 := by omega
        (try simp only [List.getElem_toArray, List.getElem_cons_succ, List.getElem_cons_zero])
        go_simp
      (try simp only [List.getElem_toArray, List.getElem_cons_succ, List.getElem_cons_zero, Act.put, List.setIfInBounds_toArray, List.set_cons_zero, List.set_cons_succ])
      obtain ⟨a1, a2, a3, a4, a5, a6, a7, a8⟩ := tab_at (mv := mv) (dv := dv) (lv := lv) (t := t) hw
      have o1 := (hx3.tab.cell (2 + who * 4)).trans a1
      have o2 := (hx3.tab.cell (2 + who * 4 + 1)).trans a2
      have o3 := (hx3.tab.cell (2 + who * 4 + 2)).trans a3
      have o4 := (hx3.tab.cell (2 + who * 4 + 3)).trans a4
      have y1 := hx3.tab.free (2 + who * 4)
      have y2 := hx3.tab.free (2 + who * 4 + 1)
      have y3 := hx3.tab.free (2 + who * 4 + 2)
      have y4 := hx3.tab.free (2 + who * 4 + 3)
      have lo := hx3.tab.lt
      have hx4 := hx3.op hw ⟨pk, pj, pa, pb⟩
      have hst4 : TStp B w (setOpW w3 gt who ⟨pk, pj, pa, pb⟩) := hst3.trans (.setOp hBg hx3.tab _)
      have kL4 : Bk (setOpW w3 gt who ⟨pk, pj, pa, pb⟩) bL 31 (lyC l) := kL3.keptT (setOp_kept hx3.tab _) (by decide)
      have HX4 := Lib.hid (And.intro hx4 (And.intro hst4 (And.intro kL4 hwk)))
      clear hx3 hst3 kL3 hx4 hst4 kL4 hwk a1 a2 a3 a4 a5 a6 a7 a8 hx
      refine wpAnyE_one (i := 14) (o := _) (by kernel_rfl) rfl (fun K hK => ?_)
      (try simp only [List.getElem_toArray, List.getElem_cons_succ, List.getElem_cons_zero])
      go_simp
      clear o1 o2 o3 o4 y1 y2 y3 y4 lo
      refine hK.out _ (setOpW w3 gt who ⟨pk, pj, pa, pb⟩) (fun h => absurd h (by decide)) ?_
      clear hK K
      refine wpAnyE_done (by kernel_rfl) ?_ _
      obtain ⟨hx4, hst4, kL4, hwk⟩ := HX4.out
      clear HX4 hb13 hb hb1 kP hO2
      generalize setOpW w3 gt who ⟨pk, pj, pa, pb⟩ = w4 at *
      rw [HS0.out] at hx4
      obtain ⟨sop, slog, sfi, sla, snx⟩ := s0
      dsimp only at hx4 hwk HK hnx
      obtain ⟨t4, ht4⟩ : ∃ t4, ({ t with seat := upS t.seat who ⟨⟨pk, pj, pa, pb⟩, slog, sfi, sla, snx⟩ } : TabD) = t4 := ⟨_, rfl⟩
      rw [ht4] at hx4
      have hs4 : t4.seat who = ⟨⟨pk, pj, pa, pb⟩, slog, sfi, sla, snx⟩ := by rw [← ht4]; exact upS_same _ _ _
      have hstep4 : t4.step = t.step := by rw [← ht4]
      obtain ⟨a1, a2, a3, a4, a5, a6, a7, a8⟩ := tab_at (mv := mv) (dv := dv) (lv := lv) (t := t4) hw
      rw [hs4] at a1 a8
      have o1 := (hx4.tab.cell (2 + who * 4)).trans a1
      have o8 := (hx4.tab.cell (23 + who)).trans a8
      have lt := hx4.tab.lt
      have HS4 := Lib.hid (And.intro hs4 (And.intro hstep4 ht4))
      have HWK := Lib.hid hwk
      clear a1 a2 a3 a4 a5 a6 a7 a8 hs4 hstep4 ht4 hwk
      dsimp only at o1 o8
      by_cases hp0 : pk = 0
      · subst hp0
        have hres : turnD l p who t = t4 := by
          have h1 := HWK.out
          rw [if_pos rfl] at h1
          unfold turnD
          rw [HS.out, ← h1]
          exact HS4.out.2.2
        have HXF := Lib.hid (And.intro hres (And.intro hx4 hst4))
        clear hres hx4 hst4 kL4 o8
        go_wp2_with fail
        refine bodyPost_ret (v := .tuple #[]) (results_none rfl _ _ _) rfl ?_
        rw [HXF.out.1]
        exact ⟨rfl, ⟨_, _, _, HXF.out.2.1⟩, HXF.out.2.2⟩
      have g1 : (pk == (0 : Int)) = false := by simp [hp0]
      have g2 : decide (pk = (0 : Int)) = false := by simp [hp0]
      have HP0 := Lib.hid hp0
      clear hp0
      go_upto_region 4 with fail
      clear g1 g2 o1 lt
      refine wp_region_E (S := fun w' => Below w4.drew.heap.size w4.drew w') (E := fun i => i == 10) (by kernel_rfl) ?_
      have hbd := below_drew' (Below.refl w4.heap.size w4)
      have hx5 := hx4.keep hbd
      have hst5 : TStp B w w4.drew := hst4.trans (.of_below hbd (by have := hx4.tab.lt; omega))
      have kL5 := kL4.keep hbd
      replace o8 := cell_keep hbd o8
      clear hx4 hst4 kL4 hbd
      generalize w4.drew = w5 at *
      refine wpAnyE_take (i := 0) (oi := _) (v := .pointer (some ⟨gt, 0, none⟩)) rfl (by kernel_rfl) (by kernel_rfl) (by kernel_rfl) (by kernel_rfl) (fun _ _ _ h => h) (Or.inl ⟨by rfl, ?_⟩) (Below.refl _ _) ?_
      · intro w' hSw
        (try simp only [List.getElem_toArray, List.getElem_cons_zero])
        go_simp
      (try simp only [List.getElem_toArray, List.getElem_cons_zero, Act.put, List.setIfInBounds_toArray, List.set_cons_zero, List.set_cons_succ])
      refine wpAnyE_take (i := 1) (oi := _) (v := .int .i64 (who : Nat)) rfl (by kernel_rfl) (by kernel_rfl) (by kernel_rfl) (by kernel_rfl) (fun _ _ _ h => h) (Or.inl ⟨by rfl, ?_⟩) (Below.refl _ _) ?_
      · intro w' hSw
        (try simp only [List.getElem_toArray, List.getElem_cons_succ, List.getElem_cons_zero])
        go_simp
      (try simp only [List.getElem_toArray, List.getElem_cons_succ, List.getElem_cons_zero, Act.put, List.setIfInBounds_toArray, List.set_cons_zero, List.set_cons_succ])
      refine wpAnyE_take (i := 2) (oi := _) (v := .pointer (some ⟨gt, 0, none⟩)) rfl (by kernel_rfl) (by kernel_rfl) (by kernel_rfl) (by kernel_rfl) (fun _ _ _ h => h) (Or.inl ⟨by rfl, ?_⟩) (Below.refl _ _) ?_
      · intro w' hSw
        (try simp only [List.getElem_toArray, List.getElem_cons_succ, List.getElem_cons_zero])
        go_simp
      (try simp only [List.getElem_toArray, List.getElem_cons_succ, List.getElem_cons_zero, Act.put, List.setIfInBounds_toArray, List.set_cons_zero, List.set_cons_succ])
      refine wpAnyE_take (i := 3) (oi := _) (v := .pointer (some ⟨gt, 23, none⟩)) rfl (by kernel_rfl) (by kernel_rfl) (by kernel_rfl) (by kernel_rfl) (fun _ _ _ h => h) (Or.inl ⟨by rfl, ?_⟩) (Below.refl _ _) ?_
      · intro w' hSw
        (try simp only [List.getElem_toArray, List.getElem_cons_succ, List.getElem_cons_zero])
        go_simp
      (try simp only [List.getElem_toArray, List.getElem_cons_succ, List.getElem_cons_zero, Act.put, List.setIfInBounds_toArray, List.set_cons_zero, List.set_cons_succ])
      refine wpAnyE_take (i := 4) (oi := _) (v := .pointer (some ⟨gt, 23 + who, none⟩)) rfl (by kernel_rfl) (by kernel_rfl) (by kernel_rfl) (by kernel_rfl) (fun _ _ _ h => h) (Or.inl ⟨by rfl, ?_⟩) (Below.refl _ _) ?_
      · intro w' hSw
        have g3 : (who : Int) < 3 := by omega
        (try simp only [List.getElem_toArray, List.getElem_cons_succ, List.getElem_cons_zero])
        go_simp
      (try simp only [List.getElem_toArray, List.getElem_cons_succ, List.getElem_cons_zero, Act.put, List.setIfInBounds_toArray, List.set_cons_zero, List.set_cons_succ])
      refine wpAnyE_take (i := 5) (oi := _) (v := .int .i64 (snx : Nat)) rfl (by kernel_rfl) (by kernel_rfl) (by kernel_rfl) (by kernel_rfl) (fun _ _ _ h => h) (Or.inl ⟨by rfl, ?_⟩) (Below.refl _ _) ?_
      · intro w' hSw
        have s1 := cell_keep hSw o8
        (try simp at s1)
        (try simp only [List.getElem_toArray, List.getElem_cons_succ, List.getElem_cons_zero])
        go_simp
      (try simp only [List.getElem_toArray, List.getElem_cons_succ, List.getElem_cons_zero, Act.put, List.setIfInBounds_toArray, List.set_cons_zero, List.set_cons_succ])
      refine wpAnyE_take (i := 6) (oi := _) (v := .int .i64 ((snx + 1 : Nat) : Int)) rfl (by kernel_rfl) (by kernel_rfl) (by kernel_rfl) (by kernel_rfl) (fun _ _ _ h => h) (Or.inl ⟨by rfl, ?_⟩) (Below.refl _ _) ?_
      · intro w' hSw
        have hw1 : IntKind.i64.wrap ((snx : Int) + 1) = (snx : Int) + 1 := IntWalk.i64_in _ (by omega)
        have hw2 : ((snx + 1 : Nat) : Int) = (snx : Int) + 1 := by omega
        rw [hw2]
        (try simp only [List.getElem_toArray, List.getElem_cons_succ, List.getElem_cons_zero])
        go_simp
      (try simp only [List.getElem_toArray, List.getElem_cons_succ, List.getElem_cons_zero, Act.put, List.setIfInBounds_toArray, List.set_cons_zero, List.set_cons_succ])
      refine wpAnyE_takeW (i := 7) (oi := _) (v := .pointer (some ⟨gt, 0, none⟩)) rfl (by kernel_rfl) (by kernel_rfl) (by kernel_rfl) (fun _ _ _ h => h) (Or.inl ⟨by rfl, ?_⟩) ?_
      · intro w' hSw
        clear hSw
        (try simp only [List.getElem_toArray, List.getElem_cons_succ, List.getElem_cons_zero])
        go_simp
      (try simp only [List.getElem_toArray, List.getElem_cons_succ, List.getElem_cons_zero, Act.put, List.setIfInBounds_toArray, List.set_cons_zero, List.set_cons_succ])
      refine wpAnyE_takeW (i := 8) (oi := _) (v := .pointer (some ⟨gt, 23, none⟩)) rfl (by kernel_rfl) (by kernel_rfl) (by kernel_rfl) (fun _ _ _ h => h) (Or.inl ⟨by rfl, ?_⟩) ?_
      · intro w' hSw
        clear hSw
        (try simp only [List.getElem_toArray, List.getElem_cons_succ, List.getElem_cons_zero])
        go_simp
      (try simp only [List.getElem_toArray, List.getElem_cons_succ, List.getElem_cons_zero, Act.put, List.setIfInBounds_toArray, List.set_cons_zero, List.set_cons_succ])
      refine wpAnyE_take (i := 9) (oi := _) (v := .pointer (some ⟨gt, 23 + who, none⟩)) rfl (by kernel_rfl) (by kernel_rfl) (by kernel_rfl) (by kernel_rfl) (fun _ _ _ h => h) (Or.inl ⟨by rfl, ?_⟩) (Below.refl _ _) ?_
      · intro w' hSw
        have g3 : (who : Int) < 3 := by omega
        (try simp only [List.getElem_toArray, List.getElem_cons_succ, List.getElem_cons_zero])
        go_simp
      (try simp only [List.getElem_toArray, List.getElem_cons_succ, List.getElem_cons_zero, Act.put, List.setIfInBounds_toArray, List.set_cons_zero, List.set_cons_succ])
      have yf := hx5.tab.free (23 + who)
      have yl := hx5.tab.lt
      have hx6 := hx5.next hw (snx + 1)
      have hst6 := hst5.trans (.set hBg hx5.tab (23 + who) (.int .i64 ((snx + 1 : Nat) : Int)))
      have kL6 := kL5.keptT (keptT_set hx5.tab (23 + who) (.int .i64 ((snx + 1 : Nat) : Int))) (by decide)
      have HX6 := Lib.hid (And.intro hx6 (And.intro hst6 kL6))
      clear hx6 hst6 kL6 hx5 hst5 kL5
      refine wpAnyE_one (i := 10) (o := _) (by kernel_rfl) rfl (fun K hK => ?_)
      (try simp only [List.getElem_toArray, List.getElem_cons_succ, List.getElem_cons_zero])
      go_simp
      clear o8 yf yl
      refine hK.out _ (w5.setCell ⟨gt, 23 + who, none⟩ (.int .i64 ((snx + 1 : Nat) : Int))) (fun h => absurd h (by decide)) ?_
      clear hK K
      refine wpAnyE_done (by kernel_rfl) ?_ _
      obtain ⟨hx6, hst6, kL6⟩ := HX6.out
      clear HX6
      generalize w5.setCell ⟨gt, 23 + who, none⟩ (.int .i64 ((snx + 1 : Nat) : Int)) = w6 at *
      rw [HS4.out.1] at hx6
      obtain ⟨t6, ht6⟩ : ∃ t6, ({ t4 with seat := upS t4.seat who { (⟨⟨pk, pj, pa, pb⟩, slog, sfi, sla, snx⟩ : SeatD) with next := snx + 1 } } : TabD) = t6 := ⟨_, rfl⟩
      rw [ht6] at hx6
      have hs6 : t6.seat who = ⟨⟨pk, pj, pa, pb⟩, slog, sfi, sla, snx + 1⟩ := by rw [← ht6]; exact upS_same _ _ _
      have HS6 := Lib.hid (And.intro hs6 ht6)
      clear hs6 ht6
      obtain ⟨a1, a2, a3, a4, a5, a6, a7, a8⟩ := tab_at (mv := mv) (dv := dv) (lv := lv) (t := t6) hw
      have o5 := (hx6.tab.cell (14 + who)).trans a5
      have yf := hx6.tab.free (14 + who)
      have yl := hx6.tab.lt
      have hx7 := hx6.log hw (G := none) (c := 0) [] (World.ownsRow_nil _ _ _ _)
      have hst7 := hst6.trans (.set hBg hx6.tab (14 + who) (.slice none 0 0))
      have kL7 := kL6.keptT (keptT_set hx6.tab (14 + who) (.slice none 0 0)) (by decide)
      have HX7 := Lib.hid (And.intro hx7 (And.intro hst7 kL7))
      clear hx7 hst7 kL7 hx6 hst6 kL6 a1 a2 a3 a4 a5 a6 a7 a8
      go_upto_region 6 with fail
      clear o5 yf yl
      show Code.wp Try.prog _ _ _ (w6.setCell ⟨gt, 14 + who, none⟩ (.slice none 0 0))
      obtain ⟨hx7, hst7, kL7⟩ := HX7.out
      clear HX7
      replace hx7 : TabX (w6.setCell ⟨gt, 14 + who, none⟩ (.slice none 0 0)) B gt mv dv (upV lv who (.slice none 0 0)) { t6 with seat := upS t6.seat who { t6.seat who with log := [] } } := hx7
      generalize w6.setCell ⟨gt, 14 + who, none⟩ (.slice none 0 0) = w7 at *
      generalize upV lv who (.slice none 0 0) = lv7 at *
      rw [HS6.out.1] at hx7
      obtain ⟨t7, ht7⟩ : ∃ t7, ({ t6 with seat := upS t6.seat who { (⟨⟨pk, pj, pa, pb⟩, slog, sfi, sla, snx + 1⟩ : SeatD) with log := [] } } : TabD) = t7 := ⟨_, rfl⟩
      rw [ht7] at hx7
      have hs7 : t7.seat who = ⟨⟨pk, pj, pa, pb⟩, [], sfi, sla, snx + 1⟩ := by rw [← ht7]; exact upS_same _ _ _
      have hstep7 : t7.step = t.step := by rw [← ht7, ← HS6.out.2]; exact HS4.out.2.1
      have HS7 := Lib.hid (And.intro hs7 (And.intro hstep7 ht7))
      have hstp := HOK.out.step
      clear hs7 ht7
      refine wp_region_E (S := fun w' => Below w7.drew.heap.size w7.drew w') (E := fun i => i == 9) (by kernel_rfl) ?_
      have hbd := below_drew' (Below.refl w7.heap.size w7)
      replace hx7 := hx7.keep hbd
      replace hst7 : TStp B w w7.drew := hst7.trans (.of_below hbd (by have hh := hx7.tab.lt; have hh2 : w7.drew.heap.size = w7.heap.size := rfl; omega))
      replace kL7 := kL7.keep hbd
      clear hbd
      generalize w7.drew = w8d at *
      have os := hx7.tab.cell 1
      have oc := (hx7.tab.cell (17 + who)).trans (tab_at (mv := mv) (dv := dv) (lv := lv7) (t := t7) hw).2.2.2.2.2.1
      simp at os
      rw [hstep7] at os
      refine wpAnyE_take (i := 0) (oi := _) (v := .pointer (some ⟨gt, 0, none⟩)) rfl (by kernel_rfl) (by kernel_rfl) (by kernel_rfl) (by kernel_rfl) (fun _ _ _ h => h) (Or.inl ⟨by rfl, ?_⟩) (Below.refl _ _) ?_
      · intro w' hSw
        (try simp only [List.getElem_toArray, List.getElem_cons_zero])
        go_simp
      (try simp only [List.getElem_toArray, List.getElem_cons_zero, Act.put, List.setIfInBounds_toArray, List.set_cons_zero, List.set_cons_succ])
      refine wpAnyE_take (i := 1) (oi := _) (v := .int .i64 (who : Nat)) rfl (by kernel_rfl) (by kernel_rfl) (by kernel_rfl) (by kernel_rfl) (fun _ _ _ h => h) (Or.inl ⟨by rfl, ?_⟩) (Below.refl _ _) ?_
      · intro w' hSw
        (try simp only [List.getElem_toArray, List.getElem_cons_succ, List.getElem_cons_zero])
        go_simp
      (try simp only [List.getElem_toArray, List.getElem_cons_succ, List.getElem_cons_zero, Act.put, List.setIfInBounds_toArray, List.set_cons_zero, List.set_cons_succ])
      refine wpAnyE_take (i := 2) (oi := _) (v := .pointer (some ⟨gt, 0, none⟩)) rfl (by kernel_rfl) (by kernel_rfl) (by kernel_rfl) (by kernel_rfl) (fun _ _ _ h => h) (Or.inl ⟨by rfl, ?_⟩) (Below.refl _ _) ?_
      · intro w' hSw
        (try simp only [List.getElem_toArray, List.getElem_cons_succ, List.getElem_cons_zero])
        go_simp
      (try simp only [List.getElem_toArray, List.getElem_cons_succ, List.getElem_cons_zero, Act.put, List.setIfInBounds_toArray, List.set_cons_zero, List.set_cons_succ])
      refine wpAnyE_take (i := 3) (oi := _) (v := .pointer (some ⟨gt, 0, none⟩)) rfl (by kernel_rfl) (by kernel_rfl) (by kernel_rfl) (by kernel_rfl) (fun _ _ _ h => h) (Or.inl ⟨by rfl, ?_⟩) (Below.refl _ _) ?_
      · intro w' hSw
        (try simp only [List.getElem_toArray, List.getElem_cons_succ, List.getElem_cons_zero])
        go_simp
      (try simp only [List.getElem_toArray, List.getElem_cons_succ, List.getElem_cons_zero, Act.put, List.setIfInBounds_toArray, List.set_cons_zero, List.set_cons_succ])
      refine wpAnyE_take (i := 4) (oi := _) (v := .pointer (some ⟨gt, 1, none⟩)) rfl (by kernel_rfl) (by kernel_rfl) (by kernel_rfl) (by kernel_rfl) (fun _ _ _ h => h) (Or.inl ⟨by rfl, ?_⟩) (Below.refl _ _) ?_
      · intro w' hSw
        (try simp only [List.getElem_toArray, List.getElem_cons_succ, List.getElem_cons_zero])
        go_simp
      (try simp only [List.getElem_toArray, List.getElem_cons_succ, List.getElem_cons_zero, Act.put, List.setIfInBounds_toArray, List.set_cons_zero, List.set_cons_succ])
      refine wpAnyE_take (i := 5) (oi := _) (v := .int .i64 (t.step : Nat)) rfl (by kernel_rfl) (by kernel_rfl) (by kernel_rfl) (by kernel_rfl) (fun _ _ _ h => h) (Or.inl ⟨by rfl, ?_⟩) (Below.refl _ _) ?_
      · intro w' hSw
        have s1 := cell_keep hSw os
        (try simp at s1)
        (try simp only [List.getElem_toArray, List.getElem_cons_succ, List.getElem_cons_zero])
        go_simp
      (try simp only [List.getElem_toArray, List.getElem_cons_succ, List.getElem_cons_zero, Act.put, List.setIfInBounds_toArray, List.set_cons_zero, List.set_cons_succ])
      refine wpAnyE_takeW (i := 6) (oi := _) (v := .pointer (some ⟨gt, 0, none⟩)) rfl (by kernel_rfl) (by kernel_rfl) (by kernel_rfl) (fun _ _ _ h => h) (Or.inl ⟨by rfl, ?_⟩) ?_
      · intro w' hSw
        clear hSw
        (try simp only [List.getElem_toArray, List.getElem_cons_succ, List.getElem_cons_zero])
        go_simp
      (try simp only [List.getElem_toArray, List.getElem_cons_succ, List.getElem_cons_zero, Act.put, List.setIfInBounds_toArray, List.set_cons_zero, List.set_cons_succ])
      refine wpAnyE_takeW (i := 7) (oi := _) (v := .pointer (some ⟨gt, 17, none⟩)) rfl (by kernel_rfl) (by kernel_rfl) (by kernel_rfl) (fun _ _ _ h => h) (Or.inl ⟨by rfl, ?_⟩) ?_
      · intro w' hSw
        clear hSw
        (try simp only [List.getElem_toArray, List.getElem_cons_succ, List.getElem_cons_zero])
        go_simp
      (try simp only [List.getElem_toArray, List.getElem_cons_succ, List.getElem_cons_zero, Act.put, List.setIfInBounds_toArray, List.set_cons_zero, List.set_cons_succ])
      refine wpAnyE_take (i := 8) (oi := _) (v := .pointer (some ⟨gt, 17 + who, none⟩)) rfl (by kernel_rfl) (by kernel_rfl) (by kernel_rfl) (by kernel_rfl) (fun _ _ _ h => h) (Or.inl ⟨by rfl, ?_⟩) (Below.refl _ _) ?_
      · intro w' hSw
        have g3 : (who : Int) < 3 := by omega
        (try simp only [List.getElem_toArray, List.getElem_cons_succ, List.getElem_cons_zero])
        go_simp
      (try simp only [List.getElem_toArray, List.getElem_cons_succ, List.getElem_cons_zero, Act.put, List.setIfInBounds_toArray, List.set_cons_zero, List.set_cons_succ])
      have yf := hx7.tab.free (17 + who)
      have yl := hx7.tab.lt
      have hxn := hx7.first hw t.step
      have hstn := hst7.trans (.set hBg hx7.tab (17 + who) (.int .i64 (t.step : Nat)))
      have kLn := kL7.keptT (keptT_set hx7.tab (17 + who) (.int .i64 (t.step : Nat))) (by decide)
      have HXN := Lib.hid (And.intro hxn (And.intro hstn kLn))
      clear hxn hstn kLn hx7 hst7 kL7 os
      refine wpAnyE_one (i := 9) (o := _) (by kernel_rfl) rfl (fun K hK => ?_)
      (try simp only [List.getElem_toArray, List.getElem_cons_succ, List.getElem_cons_zero])
      go_simp
      clear yf yl oc
      refine hK.out _ (w8d.setCell ⟨gt, 17 + who, none⟩ (.int .i64 (t.step : Nat))) (fun h => absurd h (by decide)) ?_
      clear hK K
      refine wpAnyE_done (by kernel_rfl) ?_ _
      obtain ⟨hx8, hst8, kL8⟩ := HXN.out
      clear HXN
      generalize w8d.setCell ⟨gt, 17 + who, none⟩ (.int .i64 (t.step : Nat)) = w8 at *
      rw [HS7.out.1] at hx8
      obtain ⟨t8, ht8⟩ : ∃ x, ({ t7 with seat := upS t7.seat who { (⟨⟨pk, pj, pa, pb⟩, [], sfi, sla, snx + 1⟩ : SeatD) with first := t.step } } : TabD) = x := ⟨_, rfl⟩
      rw [ht8] at hx8
      have hs8 : t8.seat who = ⟨⟨pk, pj, pa, pb⟩, [], t.step, sla, snx + 1⟩ := by rw [← ht8]; exact upS_same _ _ _
      have hstep8 : t8.step = t.step := by rw [← ht8]; exact HS7.out.2.1
      have HS8 := Lib.hid (And.intro hs8 (And.intro hstep8 ht8))
      clear hs8 ht8 hstep7
      go_upto_region 7 with fail
      refine wp_region_E (S := fun w' => Below w8.drew.heap.size w8.drew w') (E := fun i => i == 9) (by kernel_rfl) ?_
      have hbd := below_drew' (Below.refl w8.heap.size w8)
      replace hx8 := hx8.keep hbd
      replace hst8 : TStp B w w8.drew := hst8.trans (.of_below hbd (by have hh := hx8.tab.lt; have hh2 : w8.drew.heap.size = w8.heap.size := rfl; omega))
      replace kL8 := kL8.keep hbd
      clear hbd
      generalize w8.drew = w9d at *
      have os := hx8.tab.cell 1
      have oc := (hx8.tab.cell (20 + who)).trans (tab_at (mv := mv) (dv := dv) (lv := lv7) (t := t8) hw).2.2.2.2.2.2.1
      simp at os
      rw [hstep8] at os
      refine wpAnyE_take (i := 0) (oi := _) (v := .pointer (some ⟨gt, 0, none⟩)) rfl (by kernel_rfl) (by kernel_rfl) (by kernel_rfl) (by kernel_rfl) (fun _ _ _ h => h) (Or.inl ⟨by rfl, ?_⟩) (Below.refl _ _) ?_
      · intro w' hSw
        (try simp only [List.getElem_toArray, List.getElem_cons_zero])
        go_simp
      (try simp only [List.getElem_toArray, List.getElem_cons_zero, Act.put, List.setIfInBounds_toArray, List.set_cons_zero, List.set_cons_succ])
      refine wpAnyE_take (i := 1) (oi := _) (v := .int .i64 (who : Nat)) rfl (by kernel_rfl) (by kernel_rfl) (by kernel_rfl) (by kernel_rfl) (fun _ _ _ h => h) (Or.inl ⟨by rfl, ?_⟩) (Below.refl _ _) ?_
      · intro w' hSw
        (try simp only [List.getElem_toArray, List.getElem_cons_succ, List.getElem_cons_zero])
        go_simp
      (try simp only [List.getElem_toArray, List.getElem_cons_succ, List.getElem_cons_zero, Act.put, List.setIfInBounds_toArray, List.set_cons_zero, List.set_cons_succ])
      refine wpAnyE_take (i := 2) (oi := _) (v := .pointer (some ⟨gt, 0, none⟩)) rfl (by kernel_rfl) (by kernel_rfl) (by kernel_rfl) (by kernel_rfl) (fun _ _ _ h => h) (Or.inl ⟨by rfl, ?_⟩) (Below.refl _ _) ?_
      · intro w' hSw
        (try simp only [List.getElem_toArray, List.getElem_cons_succ, List.getElem_cons_zero])
        go_simp
      (try simp only [List.getElem_toArray, List.getElem_cons_succ, List.getElem_cons_zero, Act.put, List.setIfInBounds_toArray, List.set_cons_zero, List.set_cons_succ])
      refine wpAnyE_take (i := 3) (oi := _) (v := .pointer (some ⟨gt, 0, none⟩)) rfl (by kernel_rfl) (by kernel_rfl) (by kernel_rfl) (by kernel_rfl) (fun _ _ _ h => h) (Or.inl ⟨by rfl, ?_⟩) (Below.refl _ _) ?_
      · intro w' hSw
        (try simp only [List.getElem_toArray, List.getElem_cons_succ, List.getElem_cons_zero])
        go_simp
      (try simp only [List.getElem_toArray, List.getElem_cons_succ, List.getElem_cons_zero, Act.put, List.setIfInBounds_toArray, List.set_cons_zero, List.set_cons_succ])
      refine wpAnyE_take (i := 4) (oi := _) (v := .pointer (some ⟨gt, 1, none⟩)) rfl (by kernel_rfl) (by kernel_rfl) (by kernel_rfl) (by kernel_rfl) (fun _ _ _ h => h) (Or.inl ⟨by rfl, ?_⟩) (Below.refl _ _) ?_
      · intro w' hSw
        (try simp only [List.getElem_toArray, List.getElem_cons_succ, List.getElem_cons_zero])
        go_simp
      (try simp only [List.getElem_toArray, List.getElem_cons_succ, List.getElem_cons_zero, Act.put, List.setIfInBounds_toArray, List.set_cons_zero, List.set_cons_succ])
      refine wpAnyE_take (i := 5) (oi := _) (v := .int .i64 (t.step : Nat)) rfl (by kernel_rfl) (by kernel_rfl) (by kernel_rfl) (by kernel_rfl) (fun _ _ _ h => h) (Or.inl ⟨by rfl, ?_⟩) (Below.refl _ _) ?_
      · intro w' hSw
        have s1 := cell_keep hSw os
        (try simp at s1)
        (try simp only [List.getElem_toArray, List.getElem_cons_succ, List.getElem_cons_zero])
        go_simp
      (try simp only [List.getElem_toArray, List.getElem_cons_succ, List.getElem_cons_zero, Act.put, List.setIfInBounds_toArray, List.set_cons_zero, List.set_cons_succ])
      refine wpAnyE_takeW (i := 6) (oi := _) (v := .pointer (some ⟨gt, 0, none⟩)) rfl (by kernel_rfl) (by kernel_rfl) (by kernel_rfl) (fun _ _ _ h => h) (Or.inl ⟨by rfl, ?_⟩) ?_
      · intro w' hSw
        clear hSw
        (try simp only [List.getElem_toArray, List.getElem_cons_succ, List.getElem_cons_zero])
        go_simp
      (try simp only [List.getElem_toArray, List.getElem_cons_succ, List.getElem_cons_zero, Act.put, List.setIfInBounds_toArray, List.set_cons_zero, List.set_cons_succ])
      refine wpAnyE_takeW (i := 7) (oi := _) (v := .pointer (some ⟨gt, 20, none⟩)) rfl (by kernel_rfl) (by kernel_rfl) (by kernel_rfl) (fun _ _ _ h => h) (Or.inl ⟨by rfl, ?_⟩) ?_
      · intro w' hSw
        clear hSw
        (try simp only [List.getElem_toArray, List.getElem_cons_succ, List.getElem_cons_zero])
        go_simp
      (try simp only [List.getElem_toArray, List.getElem_cons_succ, List.getElem_cons_zero, Act.put, List.setIfInBounds_toArray, List.set_cons_zero, List.set_cons_succ])
      refine wpAnyE_take (i := 8) (oi := _) (v := .pointer (some ⟨gt, 20 + who, none⟩)) rfl (by kernel_rfl) (by kernel_rfl) (by kernel_rfl) (by kernel_rfl) (fun _ _ _ h => h) (Or.inl ⟨by rfl, ?_⟩) (Below.refl _ _) ?_
      · intro w' hSw
        have g3 : (who : Int) < 3 := by omega
        (try simp only [List.getElem_toArray, List.getElem_cons_succ, List.getElem_cons_zero])
        go_simp
      (try simp only [List.getElem_toArray, List.getElem_cons_succ, List.getElem_cons_zero, Act.put, List.setIfInBounds_toArray, List.set_cons_zero, List.set_cons_succ])
      have yf := hx8.tab.free (20 + who)
      have yl := hx8.tab.lt
      have hxn := hx8.last hw t.step
      have hstn := hst8.trans (.set hBg hx8.tab (20 + who) (.int .i64 (t.step : Nat)))
      have kLn := kL8.keptT (keptT_set hx8.tab (20 + who) (.int .i64 (t.step : Nat))) (by decide)
      have HXN := Lib.hid (And.intro hxn (And.intro hstn kLn))
      clear hxn hstn kLn hx8 hst8 kL8 os
      refine wpAnyE_one (i := 9) (o := _) (by kernel_rfl) rfl (fun K hK => ?_)
      (try simp only [List.getElem_toArray, List.getElem_cons_succ, List.getElem_cons_zero])
      go_simp
      clear yf yl oc
      refine hK.out _ (w9d.setCell ⟨gt, 20 + who, none⟩ (.int .i64 (t.step : Nat))) (fun h => absurd h (by decide)) ?_
      clear hK K
      refine wpAnyE_done (by kernel_rfl) ?_ _
      obtain ⟨hx9, hst9, kL9⟩ := HXN.out
      clear HXN
      generalize w9d.setCell ⟨gt, 20 + who, none⟩ (.int .i64 (t.step : Nat)) = w9 at *
      rw [HS8.out.1] at hx9
      obtain ⟨t9, ht9⟩ : ∃ x, ({ t8 with seat := upS t8.seat who { (⟨⟨pk, pj, pa, pb⟩, [], t.step, sla, snx + 1⟩ : SeatD) with last := t.step } } : TabD) = x := ⟨_, rfl⟩
      rw [ht9] at hx9
      have hs9 : t9.seat who = ⟨⟨pk, pj, pa, pb⟩, [], t.step, t.step, snx + 1⟩ := by rw [← ht9]; exact upS_same _ _ _
      have hstep9 : t9.step = t.step := by rw [← ht9]; exact HS8.out.2.1
      have HS9 := Lib.hid (And.intro hs9 (And.intro hstep9 ht9))
      clear hs9 ht9 hstep8
      have hfin : t9 = { t with seat := upS t.seat who s } := by
        have h1 := HWK.out
        rw [if_neg HP0.out] at h1
        rw [← HS9.out.2.2, ← HS8.out.2.2, ← HS7.out.2.2, ← HS6.out.2, ← HS4.out.2.2, ← h1]
        dsimp only
        simp only [upS_up]
      rw [hfin] at hx9
      have hsk : s.op.kind ≠ 0 := by
        have h1 := HWK.out
        rw [if_neg HP0.out] at h1
        rw [← h1]
        exact HP0.out
      clear hfin hstep9
      have HXF := Lib.hid (And.intro hx9 (And.intro hst9 (And.intro kL9 hsk)))
      clear hx9 hst9 kL9 hsk
      go_wp2_with fail
      go_meet
      exact ⟨⟨_, _, _, HXF.out.1⟩, HXF.out.2.1, HXF.out.2.2.1, HXF.out.2.2.2⟩
    · have g1 : (s0.op.kind == (0 : Int)) = false := by simp [hk]
      have g2 : decide (s0.op.kind = (0 : Int)) = false := by simp [hk]
      have hse : s0 = s := by have h1 := HS.out; unfold wakeD at h1; rw [HS0.out, if_neg hk] at h1; exact h1
      have HKS := Lib.hid (And.intro hk hse)
      clear hk hse
      go_wp2_with fail
      go_meet
      refine ⟨?_, HST1.out, kL, by rw [← HKS.out.2]; exact HKS.out.1⟩
      have e : ({ t with seat := upS t.seat who s } : TabD) = t := by
        rw [← HKS.out.2, ← HS0.out, upS_id]
      rw [e]
      exact ⟨_, _, _, HX.out⟩
  case rest =>
    obtain ⟨hT2, hst, kL2, hk0⟩ := hcut
    clear kL kP hbl
    have hwko := wake_ok (p := p) HOK.out (by rw [HS.out]; exact hk0)
    rw [HS.out] at hwko
    obtain ⟨⟨ok, oj, oa, ob⟩, log, fi, la, nx⟩ := s
    dsimp only at hk0 hwko
    obtain ⟨hkk, hjj, hlen, hlin⟩ := hwko
    have hml := HOK.out.ml
    have hdl := HOK.out.dn
    have hstp := HOK.out.step
    have HRN := Lib.hid hk0
    have HKK := Lib.hid (And.intro hkk hjj)
    have HLIN := Lib.hid hlin
    obtain ⟨t2, ht2⟩ : ∃ t2, ({ t with seat := upS t.seat who ⟨⟨ok, oj, oa, ob⟩, log, fi, la, nx⟩ } : TabD) = t2 := ⟨_, rfl⟩
    rw [ht2] at hT2
    have hs2 : t2.seat who = ⟨⟨ok, oj, oa, ob⟩, log, fi, la, nx⟩ := by rw [← ht2]; exact upS_same _ _ _
    have hm2 : t2.m = t.m ∧ t2.step = t.step ∧ t2.done = t.done := by rw [← ht2]; exact ⟨rfl, rfl, rfl⟩
    have HT2 := Lib.hid (And.intro hs2 (And.intro hm2 ht2))
    clear hkk hjj hk0 hlin ht2
    obtain ⟨mv2, dv2, lv2, hx⟩ := hT2
    obtain ⟨qk, qc, qo, qv, val, is, err, pt, dn, hAI⟩ := ansIs_of (nextD l ⟨ok, oj, oa, ob⟩ log)
    have HAI := Lib.hid hAI
    clear hAI
    obtain ⟨G, cp, hlv, hown⟩ := hx.logs who hw
    rw [hs2] at hlv hown
    dsimp only at hlv hown
    obtain ⟨a1, a2, a3, a4, a5, a6, a7, a8⟩ := tab_at (mv := mv2) (dv := dv2) (lv := lv2) (t := t2) hw
    rw [hs2] at a1 a2 a3 a4 a6 a7 a8
    rw [hlv] at a5 hown
    dsimp only at a1 a2 a3 a4 a6 a7 a8
    have o1 := (hx.tab.cell (2 + who * 4)).trans a1
    have o2 := (hx.tab.cell (2 + who * 4 + 1)).trans a2
    have o3 := (hx.tab.cell (2 + who * 4 + 2)).trans a3
    have o4 := (hx.tab.cell (2 + who * 4 + 3)).trans a4
    have o5 := (hx.tab.cell (14 + who)).trans a5
    have lt := hx.tab.lt
    clear a1 a2 a3 a4 a5 a6 a7 a8 hs2 hm2 hlv
    have hbt : B ≤ wc.heap.size := by omega
    go_upto_region 8 with fail
    refine wp_region_E (S := fun w' => Below wc.drew.heap.size wc.drew w') (E := fun _ => false) (by kernel_rfl) ?_
    have hbd := below_drew' (Below.refl wc.heap.size wc)
    replace hx := hx.keep hbd
    replace hst : TStp B w wc.drew := hst.trans (.of_below hbd hbt)
    replace kL2 := kL2.keep hbd
    replace o1 := cell_keep hbd o1
    replace o2 := cell_keep hbd o2
    replace o3 := cell_keep hbd o3
    replace o4 := cell_keep hbd o4
    replace o5 := cell_keep hbd o5
    replace hown : OwnRes wc.drew 0 (.slice G log.length cp) log := own_keepb' hown hbd
    replace hbt : B ≤ wc.drew.heap.size := by have hh := hbd.size; omega
    clear hbd lt
    generalize wc.drew = w3 at *
    have HSL := Lib.hid (own_slRes hown)
    clear hown
    refine wpAnyE_take (i := 0) (oi := _) (v := .agg (lyC l)) rfl (by kernel_rfl) (by kernel_rfl) (by kernel_rfl) (by kernel_rfl) (fun _ _ _ h => h) (Or.inl ⟨by rfl, ?_⟩) (Below.refl _ _) ?_
    · intro w' hSw
      (try simp only [List.getElem_toArray, List.getElem_cons_zero])
      simp only [execOp, Instr.loadAt, Instr.sureAddr, Sem.run_bind, Sem.run_pure]
      rw [show (Act.eval _ (Operand.tmp 5)) = Value.pointer (some ⟨bL, 0, none⟩) from rfl]
      simp only [Sem.run_pure, Result.andThen_ok, run_loadVar_row w' bL 31 31 (lyC l) (0, 0) _ (kL2.keep hSw) Try.underlying31 rfl (by kernel_rfl)]
    (try simp only [List.getElem_toArray, List.getElem_cons_zero, Act.put, List.setIfInBounds_toArray, List.set_cons_zero, List.set_cons_succ])
    refine wpAnyE_take (i := 1) (oi := _) (v := .int .i64 (who : Nat)) rfl (by kernel_rfl) (by kernel_rfl) (by kernel_rfl) (by kernel_rfl) (fun _ _ _ h => h) (Or.inl ⟨by rfl, ?_⟩) (Below.refl _ _) ?_
    · intro w' hSw
      (try simp only [List.getElem_toArray, List.getElem_cons_succ, List.getElem_cons_zero])
      go_simp
    (try simp only [List.getElem_toArray, List.getElem_cons_succ, List.getElem_cons_zero, Act.put, List.setIfInBounds_toArray, List.set_cons_zero, List.set_cons_succ])
    refine wpAnyE_take (i := 2) (oi := _) (v := .pointer (some ⟨gt, 0, none⟩)) rfl (by kernel_rfl) (by kernel_rfl) (by kernel_rfl) (by kernel_rfl) (fun _ _ _ h => h) (Or.inl ⟨by rfl, ?_⟩) (Below.refl _ _) ?_
    · intro w' hSw
      (try simp only [List.getElem_toArray, List.getElem_cons_succ, List.getElem_cons_zero])
      go_simp
    (try simp only [List.getElem_toArray, List.getElem_cons_succ, List.getElem_cons_zero, Act.put, List.setIfInBounds_toArray, List.set_cons_zero, List.set_cons_succ])
    refine wpAnyE_take (i := 3) (oi := _) (v := .int .i64 (who : Nat)) rfl (by kernel_rfl) (by kernel_rfl) (by kernel_rfl) (by kernel_rfl) (fun _ _ _ h => h) (Or.inl ⟨by rfl, ?_⟩) (Below.refl _ _) ?_
    · intro w' hSw
      (try simp only [List.getElem_toArray, List.getElem_cons_succ, List.getElem_cons_zero])
      go_simp
    (try simp only [List.getElem_toArray, List.getElem_cons_succ, List.getElem_cons_zero, Act.put, List.setIfInBounds_toArray, List.set_cons_zero, List.set_cons_succ])
    refine wpAnyE_take (i := 4) (oi := _) (v := .pointer (some ⟨gt, 0, none⟩)) rfl (by kernel_rfl) (by kernel_rfl) (by kernel_rfl) (by kernel_rfl) (fun _ _ _ h => h) (Or.inl ⟨by rfl, ?_⟩) (Below.refl _ _) ?_
    · intro w' hSw
      (try simp only [List.getElem_toArray, List.getElem_cons_succ, List.getElem_cons_zero])
      go_simp
    (try simp only [List.getElem_toArray, List.getElem_cons_succ, List.getElem_cons_zero, Act.put, List.setIfInBounds_toArray, List.set_cons_zero, List.set_cons_succ])
    refine wpAnyE_take (i := 5) (oi := _) (v := .pointer (some ⟨gt, 2, none⟩)) rfl (by kernel_rfl) (by kernel_rfl) (by kernel_rfl) (by kernel_rfl) (fun _ _ _ h => h) (Or.inl ⟨by rfl, ?_⟩) (Below.refl _ _) ?_
    · intro w' hSw
      (try simp only [List.getElem_toArray, List.getElem_cons_succ, List.getElem_cons_zero])
      go_simp
    (try simp only [List.getElem_toArray, List.getElem_cons_succ, List.getElem_cons_zero, Act.put, List.setIfInBounds_toArray, List.set_cons_zero, List.set_cons_succ])
    refine wpAnyE_take (i := 6) (oi := _) (v := .pointer (some ⟨gt, 2 + who * 4, none⟩)) rfl (by kernel_rfl) (by kernel_rfl) (by kernel_rfl) (by kernel_rfl) (fun _ _ _ h => h) (Or.inl ⟨by rfl, ?_⟩) (Below.refl _ _) ?_
    · intro w' hSw
      have g3 : (who : Int) < 3 := by omega
      (try simp only [List.getElem_toArray, List.getElem_cons_succ, List.getElem_cons_zero])
      go_simp
    (try simp only [List.getElem_toArray, List.getElem_cons_succ, List.getElem_cons_zero, Act.put, List.setIfInBounds_toArray, List.set_cons_zero, List.set_cons_succ])
    refine wpAnyE_take (i := 7) (oi := _) (v := .agg #[.int .i64 ok, .int .i64 oj, .int .i64 oa, .int .i64 ob]) rfl (by kernel_rfl) (by kernel_rfl) (by kernel_rfl) (by kernel_rfl) (fun _ _ _ h => h) (Or.inl ⟨by rfl, ?_⟩) (Below.refl _ _) ?_
    · intro w' hSw
      have s1 := cell_keep hSw o1
      have s2 := cell_keep hSw o2
      have s3 := cell_keep hSw o3
      have s4 := cell_keep hSw o4
      (try simp at s1 s2 s3 s4)
      (try simp only [List.getElem_toArray, List.getElem_cons_succ, List.getElem_cons_zero])
      go_simp
    (try simp only [List.getElem_toArray, List.getElem_cons_succ, List.getElem_cons_zero, Act.put, List.setIfInBounds_toArray, List.set_cons_zero, List.set_cons_succ])
    refine wpAnyE_take (i := 8) (oi := _) (v := .pointer (some ⟨gt, 0, none⟩)) rfl (by kernel_rfl) (by kernel_rfl) (by kernel_rfl) (by kernel_rfl) (fun _ _ _ h => h) (Or.inl ⟨by rfl, ?_⟩) (Below.refl _ _) ?_
    · intro w' hSw
      (try simp only [List.getElem_toArray, List.getElem_cons_succ, List.getElem_cons_zero])
      go_simp
    (try simp only [List.getElem_toArray, List.getElem_cons_succ, List.getElem_cons_zero, Act.put, List.setIfInBounds_toArray, List.set_cons_zero, List.set_cons_succ])
    refine wpAnyE_take (i := 9) (oi := _) (v := .int .i64 (who : Nat)) rfl (by kernel_rfl) (by kernel_rfl) (by kernel_rfl) (by kernel_rfl) (fun _ _ _ h => h) (Or.inl ⟨by rfl, ?_⟩) (Below.refl _ _) ?_
    · intro w' hSw
      (try simp only [List.getElem_toArray, List.getElem_cons_succ, List.getElem_cons_zero])
      go_simp
    (try simp only [List.getElem_toArray, List.getElem_cons_succ, List.getElem_cons_zero, Act.put, List.setIfInBounds_toArray, List.set_cons_zero, List.set_cons_succ])
    refine wpAnyE_take (i := 10) (oi := _) (v := .pointer (some ⟨gt, 0, none⟩)) rfl (by kernel_rfl) (by kernel_rfl) (by kernel_rfl) (by kernel_rfl) (fun _ _ _ h => h) (Or.inl ⟨by rfl, ?_⟩) (Below.refl _ _) ?_
    · intro w' hSw
      (try simp only [List.getElem_toArray, List.getElem_cons_succ, List.getElem_cons_zero])
      go_simp
    (try simp only [List.getElem_toArray, List.getElem_cons_succ, List.getElem_cons_zero, Act.put, List.setIfInBounds_toArray, List.set_cons_zero, List.set_cons_succ])
    refine wpAnyE_take (i := 11) (oi := _) (v := .pointer (some ⟨gt, 14, none⟩)) rfl (by kernel_rfl) (by kernel_rfl) (by kernel_rfl) (by kernel_rfl) (fun _ _ _ h => h) (Or.inl ⟨by rfl, ?_⟩) (Below.refl _ _) ?_
    · intro w' hSw
      (try simp only [List.getElem_toArray, List.getElem_cons_succ, List.getElem_cons_zero])
      go_simp
    (try simp only [List.getElem_toArray, List.getElem_cons_succ, List.getElem_cons_zero, Act.put, List.setIfInBounds_toArray, List.set_cons_zero, List.set_cons_succ])
    refine wpAnyE_take (i := 12) (oi := _) (v := .pointer (some ⟨gt, 14 + who, none⟩)) rfl (by kernel_rfl) (by kernel_rfl) (by kernel_rfl) (by kernel_rfl) (fun _ _ _ h => h) (Or.inl ⟨by rfl, ?_⟩) (Below.refl _ _) ?_
    · intro w' hSw
      have g3 : (who : Int) < 3 := by omega
      (try simp only [List.getElem_toArray, List.getElem_cons_succ, List.getElem_cons_zero])
      go_simp
    (try simp only [List.getElem_toArray, List.getElem_cons_succ, List.getElem_cons_zero, Act.put, List.setIfInBounds_toArray, List.set_cons_zero, List.set_cons_succ])
    refine wpAnyE_take (i := 13) (oi := _) (v := .slice G log.length cp) rfl (by kernel_rfl) (by kernel_rfl) (by kernel_rfl) (by kernel_rfl) (fun _ _ _ h => h) (Or.inl ⟨by rfl, ?_⟩) (Below.refl _ _) ?_
    · intro w' hSw
      have s1 := cell_keep hSw o5
      (try simp at s1)
      (try simp only [List.getElem_toArray, List.getElem_cons_succ, List.getElem_cons_zero])
      go_simp
    (try simp only [List.getElem_toArray, List.getElem_cons_succ, List.getElem_cons_zero, Act.put, List.setIfInBounds_toArray, List.set_cons_zero, List.set_cons_succ])
    clear o1 o2 o3 o4 o5
    refine wpAnyE_dag (U := [14, 15, 16, 17, 18, 19, 20, 21, 22, 23]) (tmp := tuT1) (pre := c3P 14) (T := fun w' => Below w3.heap.size w3 w') (N := fun _ _ => True) (G := c3G 14 w3.heap.size 63 50) (R := c3R 14 w3.heap.size 63 50 accZ outZ (NxX qk qc qo qv val is err pt dn)) (by kernel_rfl) (fun _ _ => rfl) (fun w2 h => h) (Below.refl _ _) (fun i hi w3 w4 h1 h2 => c3T_keep h1 h2) (fun _ _ => trivial) (fun _ _ _ _ _ _ _ _ _ _ => trivial)
      (fun i hi j hj hij vals v u w3 w4 hT hvi hvj hp hr hg => c3R_keep (by decide) (fun _ _ _ _ _ h _ => h) hij hvi hvj hr hg) (fun i hi o ho vals w3 K hvn hT _ hpre hK => ?_) 0 (fun vals w4 hall hT => ?_)
    · simp only [List.mem_cons, List.not_mem_nil, or_false] at hi
      rcases hi with rfl | rfl | rfl | rfl | rfl | rfl | rfl | rfl | rfl | rfl
      · obtain rfl := Option.some.inj ho
        simp only [show c3P 14 14 = [] from rfl, actOf] at hK ⊢
        go_simp
        (with_reducible refine (next_any l who ⟨ok, oj, oa, ob⟩ G cp log _ HF.out HKK.out.1 HKK.out.2 HLIN.out ((HSL.out.below hT).more hT.size) (by omega)).mono ?_)
        intro e w5 hpost
        obtain ⟨rfl, hb⟩ := ansIs_post HAI.out hpost
        exact hK _ _ ⟨_, _, _, rfl, rfl, rfl, rfl⟩ hb
      · obtain rfl := Option.some.inj ho
        obtain ⟨v0, e0, d1, d2, d3, rfl, hX0⟩ := hpre 14 (by simp [c3P])
        simp only [show c3P 14 15 = [14] from rfl, actOf, e0, tuT1] at hK ⊢
        go_simp
        exact hK _ _ ⟨d1, d2, d3, rfl, by simp only [upd]; exact e0⟩ (Below.refl _ _)
      · obtain rfl := Option.some.inj ho
        obtain ⟨v1, e1, d1, d2, d3, rfl, e0⟩ := hpre 15 (by simp [c3P])
        simp only [show c3P 14 16 = [15] from rfl, actOf, e1, tuT1] at hK ⊢
        go_simp
        exact hK _ _ ⟨d1, d2, d3, by simp only [upd]; exact e0, rfl⟩ (Below.refl _ _)
      · obtain rfl := Option.some.inj ho
        obtain ⟨v1, e1, d1, d2, d3, rfl, e0⟩ := hpre 15 (by simp [c3P])
        simp only [show c3P 14 17 = [15] from rfl, actOf, e1, tuT1] at hK ⊢
        go_simp
        exact hK _ _ ⟨d1, d2, d3, by simp only [upd]; exact e0, rfl⟩ (Below.refl _ _)
      · obtain rfl := Option.some.inj ho
        obtain ⟨v1, e1, d1, d2, d3, rfl, e0⟩ := hpre 15 (by simp [c3P])
        simp only [show c3P 14 18 = [15] from rfl, actOf, e1, tuT1] at hK ⊢
        go_simp
        exact hK _ _ ⟨d1, d2, d3, by simp only [upd]; exact e0, rfl⟩ (Below.refl _ _)
      · obtain rfl := Option.some.inj ho
        simp only [show c3P 14 19 = [] from rfl, actOf] at hK ⊢
        go_simp
        exact hK _ _ ⟨_, rfl, hT.size, fun _ => Bk.made _ _ _⟩ (below_al (Below.refl _ _) _)
      · obtain rfl := Option.some.inj ho
        simp only [show c3P 14 20 = [] from rfl, actOf] at hK ⊢
        go_simp
        exact hK _ _ ⟨_, rfl, hT.size, fun _ => Bk.made _ _ _⟩ (below_al (Below.refl _ _) _)
      · obtain rfl := Option.some.inj ho
        obtain ⟨v0, e0, d1, d2, d3, rfl, hX0⟩ := hpre 14 (by simp [c3P])
        obtain ⟨v2, e2, f1, f2, f3, e2', rfl⟩ := hpre 16 (by simp [c3P])
        rw [e0] at e2'
        obtain ⟨rfl, rfl, rfl⟩ := tup3_inj e2'
        obtain ⟨v5, e5, ga, rfl, hga, k5⟩ := hpre 19 (by simp [c3P])
        have ka := k5 hvn
        obtain ⟨rfl, rfl, rfl⟩ := hX0
        simp only [show c3P 14 21 = [14, 16, 19] from rfl, actOf, e0, e2, e5, tuT1] at hK ⊢
        (try simp only [List.getElem_toArray, List.getElem_cons_succ, List.getElem_cons_zero])
        refine wp_store_row 63 (.tmp 8) (.tmp 93) rfl ga _ rfl rfl 63 accZ ka (by kernel_rfl) rfl (by simp [Value.oneCell']) ?_
        exact hK undef _ ⟨ga, _, _, _, by simp only [upd]; exact e0, by simp only [upd]; exact e5, hga, setRow_heap _ _ _ _ _ _ ka⟩ ⟨keptT_row ka, below_setRowB' hga _⟩
      · obtain rfl := Option.some.inj ho
        obtain ⟨v0, e0, d1, d2, d3, rfl, hX0⟩ := hpre 14 (by simp [c3P])
        obtain ⟨v2, e2, f1, f2, f3, e2', rfl⟩ := hpre 17 (by simp [c3P])
        rw [e0] at e2'
        obtain ⟨rfl, rfl, rfl⟩ := tup3_inj e2'
        obtain ⟨v5, e5, ga, rfl, hga, k5⟩ := hpre 20 (by simp [c3P])
        have ka := k5 hvn
        obtain ⟨rfl, rfl, rfl⟩ := hX0
        simp only [show c3P 14 22 = [14, 17, 20] from rfl, actOf, e0, e2, e5, tuT1] at hK ⊢
        (try simp only [List.getElem_toArray, List.getElem_cons_succ, List.getElem_cons_zero])
        refine wp_store_row 50 (.tmp 9) (.tmp 94) rfl ga _ rfl rfl 50 outZ ka (by kernel_rfl) rfl (by simp [Value.oneCell']) ?_
        exact hK undef _ ⟨ga, _, _, _, by simp only [upd]; exact e0, by simp only [upd]; exact e5, hga, setRow_heap _ _ _ _ _ _ ka⟩ ⟨keptT_row ka, below_setRowB' hga _⟩
      · obtain rfl := Option.some.inj ho
        obtain ⟨v4, e4, f1, f2, f3, e4', rfl⟩ := hpre 18 (by simp [c3P])
        simp only [show c3P 14 23 = [18] from rfl, actOf, e4, tuT1] at hK ⊢
        go_simp
        exact hK _ _ ⟨_, _, _, by simp only [upd]; exact e4', rfl⟩ (Below.refl _ _)
    obtain ⟨v0, e0, d1, d2, d3, rfl, hX0⟩ := hall 14 (by simp)
    obtain ⟨v1, e1, f1, f2, f3, rfl, e1'⟩ := hall 15 (by simp)
    rw [e0] at e1'
    obtain ⟨rfl, rfl, rfl⟩ := tup3_inj e1'
    obtain ⟨v2, e2, f1, f2, f3, e2', rfl⟩ := hall 16 (by simp)
    rw [e0] at e2'
    obtain ⟨rfl, rfl, rfl⟩ := tup3_inj e2'
    obtain ⟨v3, e3, f1, f2, f3, e2', rfl⟩ := hall 17 (by simp)
    rw [e0] at e2'
    obtain ⟨rfl, rfl, rfl⟩ := tup3_inj e2'
    obtain ⟨v4, e4, f1, f2, f3, e2', rfl⟩ := hall 18 (by simp)
    rw [e0] at e2'
    obtain ⟨rfl, rfl, rfl⟩ := tup3_inj e2'
    obtain ⟨v5, e5, ga0, rfl, hga0, -⟩ := hall 19 (by simp)
    obtain ⟨v6, e6, ga1, rfl, hga1, -⟩ := hall 20 (by simp)
    obtain ⟨v7, e7, gb0, f1, f2, f3, e2', e3', -, kb0⟩ := hall 21 (by simp)
    rw [e0] at e2'
    obtain ⟨rfl, rfl, rfl⟩ := tup3_inj e2'
    rw [e5] at e3'
    obtain rfl := ptr_inj e3'
    obtain ⟨v8, e8, gb1, f1, f2, f3, e2', e3', -, kb1⟩ := hall 22 (by simp)
    rw [e0] at e2'
    obtain ⟨rfl, rfl, rfl⟩ := tup3_inj e2'
    rw [e6] at e3'
    obtain rfl := ptr_inj e3'
    obtain ⟨v9, e9, f1, f2, f3, e2', rfl⟩ := hall 23 (by simp)
    rw [e0] at e2'
    obtain ⟨rfl, rfl, rfl⟩ := tup3_inj e2'
    clear hall
    refine wpAnyE_done (by simp only [lstOf, e0, e1, e2, e3, e4, e5, e6, e7, e8, e9, Option.isSome_some, if_true]; kernel_rfl) ?_ _
    simp only [actOf, e0, e1, e2, e3, e4, e5, e6, e7, e8, e9, tuT1]
    clear e0 e1 e2 e3 e4 e5 e6 e7 e8 e9
    (try simp only [Act.put, List.setIfInBounds_toArray, List.set_cons_zero, List.set_cons_succ, List.set_nil])
    obtain ⟨rfl, rfl, rfl⟩ := hX0
    have hb34 := hT
    replace hx := hx.keep hb34
    replace hst := hst.trans (.of_below hb34 hbt)
    replace hbt : B ≤ w4.heap.size := by have hh := hb34.size; omega
    have HSL4 := Lib.hid ((HSL.out.below hb34).more hb34.size)
    clear hb34 hT kL2 HSL
    cases dn with
    | true =>
      have hN : nextD l ⟨ok, oj, oa, ob⟩ log = .out val is err pt := by
        have h1 := HAI.out
        cases hr : nextD l ⟨ok, oj, oa, ob⟩ log with
        | ask _ _ _ _ => rw [hr] at h1; obtain ⟨_, _, _, _, _, h1⟩ := h1; cases h1
        | out _ _ _ _ => rw [hr] at h1; obtain ⟨_, rfl, rfl, rfl, rfl, _⟩ := h1; rfl
      have hres : turnD l p who t = { t with seat := upS t.seat who ⟨op0, log, fi, la, nx⟩, done := t.done ++ [⟨who, ⟨ok, oj, oa, ob⟩, fi, la, val, is, err, pt⟩] } := by
        unfold turnD
        rw [HS.out]
        dsimp only
        rw [if_neg HRN.out, hN]
      have HN := Lib.hid hres
      clear hN hres kb0
      go_upto_region 10 with fail
      refine wp_region_E (S := fun w' => KeptT 52 w4.drew w') (E := fun i => i == 30) (by kernel_rfl) ?_
      have hbd := below_drew' (Below.refl w4.heap.size w4)
      replace hx := hx.keep hbd
      replace hst : TStp B w w4.drew := hst.trans (.of_below hbd hbt)
      replace kb1 := kb1.drew
      replace hbt : B ≤ w4.drew.heap.size := hbt
      clear hbd
      generalize w4.drew = w5 at *
      obtain ⟨a1, a2, a3, a4, a5, a6, a7, a8⟩ := tab_at (mv := mv2) (dv := dv2) (lv := lv2) (t := t2) hw
      rw [HT2.out.1] at a1 a2 a3 a4 a6 a7 a8
      dsimp only at a1 a2 a3 a4 a6 a7 a8
      obtain ⟨dA, dc, rfl⟩ := own_slice hx.done
      have hdn : OwnDone w5 B (.slice dA t.done.length dc) t.done := by have h1 := hx.done; rw [HT2.out.2.1.2.2] at h1; exact h1
      have hdl2 : t2.done.length = t.done.length := by rw [HT2.out.2.1.2.2]
      rw [hdl2] at hx a1 a2 a3 a4 a6 a7
      have HA := Lib.hid (And.intro a1 (And.intro a2 (And.intro a3 (And.intro a4 (And.intro a6 a7)))))
      have hsr : KeptT 52 w5 w5 := keptT_below (Below.refl _ _)
      have HDN := Lib.hid hdn
      clear hdn hdl2 a1 a2 a3 a4 a5 a6 a7 a8
      refine wpAnyE_take (i := 0) (oi := _) (v := .pointer (some ⟨gt, 0, none⟩)) rfl (by kernel_rfl) (by kernel_rfl) (by kernel_rfl) (by kernel_rfl) (fun _ _ _ h => h) (Or.inl ⟨by rfl, ?_⟩) hsr ?_
      · intro w' hSw
        (try simp only [List.getElem_toArray, List.getElem_cons_zero])
        go_simp
      (try simp only [List.getElem_toArray, List.getElem_cons_zero, Act.put, List.setIfInBounds_toArray, List.set_cons_zero, List.set_cons_succ])
      refine wpAnyE_take (i := 1) (oi := _) (v := .pointer (some ⟨gt, 0, none⟩)) rfl (by kernel_rfl) (by kernel_rfl) (by kernel_rfl) (by kernel_rfl) (fun _ _ _ h => h) (Or.inl ⟨by rfl, ?_⟩) hsr ?_
      · intro w' hSw
        (try simp only [List.getElem_toArray, List.getElem_cons_succ, List.getElem_cons_zero])
        go_simp
      (try simp only [List.getElem_toArray, List.getElem_cons_succ, List.getElem_cons_zero, Act.put, List.setIfInBounds_toArray, List.set_cons_zero, List.set_cons_succ])
      refine wpAnyE_take (i := 2) (oi := _) (v := .pointer (some ⟨gt, 0, none⟩)) rfl (by kernel_rfl) (by kernel_rfl) (by kernel_rfl) (by kernel_rfl) (fun _ _ _ h => h) (Or.inl ⟨by rfl, ?_⟩) hsr ?_
      · intro w' hSw
        (try simp only [List.getElem_toArray, List.getElem_cons_succ, List.getElem_cons_zero])
        go_simp
      (try simp only [List.getElem_toArray, List.getElem_cons_succ, List.getElem_cons_zero, Act.put, List.setIfInBounds_toArray, List.set_cons_zero, List.set_cons_succ])
      refine wpAnyE_take (i := 3) (oi := _) (v := .pointer (some ⟨gt, 26, none⟩)) rfl (by kernel_rfl) (by kernel_rfl) (by kernel_rfl) (by kernel_rfl) (fun _ _ _ h => h) (Or.inl ⟨by rfl, ?_⟩) hsr ?_
      · intro w' hSw
        (try simp only [List.getElem_toArray, List.getElem_cons_succ, List.getElem_cons_zero])
        go_simp
      (try simp only [List.getElem_toArray, List.getElem_cons_succ, List.getElem_cons_zero, Act.put, List.setIfInBounds_toArray, List.set_cons_zero, List.set_cons_succ])
      refine wpAnyE_take (i := 4) (oi := _) (v := .slice dA t.done.length dc) rfl (by kernel_rfl) (by kernel_rfl) (by kernel_rfl) (by kernel_rfl) (fun _ _ _ h => h) (Or.inl ⟨by rfl, ?_⟩) hsr ?_
      · intro w' hSw
        have s1 := (hx.tab.keptT hSw (by decide)).cell 26
        (try simp at s1)
        (try simp only [List.getElem_toArray, List.getElem_cons_succ, List.getElem_cons_zero])
        go_simp
      (try simp only [List.getElem_toArray, List.getElem_cons_succ, List.getElem_cons_zero, Act.put, List.setIfInBounds_toArray, List.set_cons_zero, List.set_cons_succ])
      refine wpAnyE_take (i := 5) (oi := _) (v := .int .i64 (who : Nat)) rfl (by kernel_rfl) (by kernel_rfl) (by kernel_rfl) (by kernel_rfl) (fun _ _ _ h => h) (Or.inl ⟨by rfl, ?_⟩) hsr ?_
      · intro w' hSw
        (try simp only [List.getElem_toArray, List.getElem_cons_succ, List.getElem_cons_zero])
        go_simp
      (try simp only [List.getElem_toArray, List.getElem_cons_succ, List.getElem_cons_zero, Act.put, List.setIfInBounds_toArray, List.set_cons_zero, List.set_cons_succ])
      refine wpAnyE_take (i := 6) (oi := _) (v := .pointer (some ⟨gt, 0, none⟩)) rfl (by kernel_rfl) (by kernel_rfl) (by kernel_rfl) (by kernel_rfl) (fun _ _ _ h => h) (Or.inl ⟨by rfl, ?_⟩) hsr ?_
      · intro w' hSw
        (try simp only [List.getElem_toArray, List.getElem_cons_succ, List.getElem_cons_zero])
        go_simp
      (try simp only [List.getElem_toArray, List.getElem_cons_succ, List.getElem_cons_zero, Act.put, List.setIfInBounds_toArray, List.set_cons_zero, List.set_cons_succ])
      refine wpAnyE_take (i := 7) (oi := _) (v := .int .i64 (who : Nat)) rfl (by kernel_rfl) (by kernel_rfl) (by kernel_rfl) (by kernel_rfl) (fun _ _ _ h => h) (Or.inl ⟨by rfl, ?_⟩) hsr ?_
      · intro w' hSw
        (try simp only [List.getElem_toArray, List.getElem_cons_succ, List.getElem_cons_zero])
        go_simp
      (try simp only [List.getElem_toArray, List.getElem_cons_succ, List.getElem_cons_zero, Act.put, List.setIfInBounds_toArray, List.set_cons_zero, List.set_cons_succ])
      refine wpAnyE_take (i := 8) (oi := _) (v := .pointer (some ⟨gt, 0, none⟩)) rfl (by kernel_rfl) (by kernel_rfl) (by kernel_rfl) (by kernel_rfl) (fun _ _ _ h => h) (Or.inl ⟨by rfl, ?_⟩) hsr ?_
      · intro w' hSw
        (try simp only [List.getElem_toArray, List.getElem_cons_succ, List.getElem_cons_zero])
        go_simp
      (try simp only [List.getElem_toArray, List.getElem_cons_succ, List.getElem_cons_zero, Act.put, List.setIfInBounds_toArray, List.set_cons_zero, List.set_cons_succ])
      refine wpAnyE_take (i := 9) (oi := _) (v := .pointer (some ⟨gt, 2, none⟩)) rfl (by kernel_rfl) (by kernel_rfl) (by kernel_rfl) (by kernel_rfl) (fun _ _ _ h => h) (Or.inl ⟨by rfl, ?_⟩) hsr ?_
      · intro w' hSw
        (try simp only [List.getElem_toArray, List.getElem_cons_succ, List.getElem_cons_zero])
        go_simp
      (try simp only [List.getElem_toArray, List.getElem_cons_succ, List.getElem_cons_zero, Act.put, List.setIfInBounds_toArray, List.set_cons_zero, List.set_cons_succ])
      refine wpAnyE_take (i := 10) (oi := _) (v := .pointer (some ⟨gt, 2 + who * 4, none⟩)) rfl (by kernel_rfl) (by kernel_rfl) (by kernel_rfl) (by kernel_rfl) (fun _ _ _ h => h) (Or.inl ⟨by rfl, ?_⟩) hsr ?_
      · intro w' hSw
        have g3 : (who : Int) < 3 := by omega
        (try simp only [List.getElem_toArray, List.getElem_cons_succ, List.getElem_cons_zero])
        go_simp
      (try simp only [List.getElem_toArray, List.getElem_cons_succ, List.getElem_cons_zero, Act.put, List.setIfInBounds_toArray, List.set_cons_zero, List.set_cons_succ])
      refine wpAnyE_take (i := 11) (oi := _) (v := .agg #[.int .i64 ok, .int .i64 oj, .int .i64 oa, .int .i64 ob]) rfl (by kernel_rfl) (by kernel_rfl) (by kernel_rfl) (by kernel_rfl) (fun _ _ _ h => h) (Or.inl ⟨by rfl, ?_⟩) hsr ?_
      · intro w' hSw
        have s1 := ((hx.tab.keptT hSw (by decide)).cell (2 + who * 4)).trans HA.out.1
        have s2 := ((hx.tab.keptT hSw (by decide)).cell (2 + who * 4 + 1)).trans HA.out.2.1
        have s3 := ((hx.tab.keptT hSw (by decide)).cell (2 + who * 4 + 2)).trans HA.out.2.2.1
        have s4 := ((hx.tab.keptT hSw (by decide)).cell (2 + who * 4 + 3)).trans HA.out.2.2.2.1
        (try simp at s1 s2 s3 s4)
        (try simp only [List.getElem_toArray, List.getElem_cons_succ, List.getElem_cons_zero])
        go_simp
      (try simp only [List.getElem_toArray, List.getElem_cons_succ, List.getElem_cons_zero, Act.put, List.setIfInBounds_toArray, List.set_cons_zero, List.set_cons_succ])
      refine wpAnyE_take (i := 12) (oi := _) (v := .pointer (some ⟨gt, 0, none⟩)) rfl (by kernel_rfl) (by kernel_rfl) (by kernel_rfl) (by kernel_rfl) (fun _ _ _ h => h) (Or.inl ⟨by rfl, ?_⟩) hsr ?_
      · intro w' hSw
        (try simp only [List.getElem_toArray, List.getElem_cons_succ, List.getElem_cons_zero])
        go_simp
      (try simp only [List.getElem_toArray, List.getElem_cons_succ, List.getElem_cons_zero, Act.put, List.setIfInBounds_toArray, List.set_cons_zero, List.set_cons_succ])
      refine wpAnyE_take (i := 13) (oi := _) (v := .int .i64 (who : Nat)) rfl (by kernel_rfl) (by kernel_rfl) (by kernel_rfl) (by kernel_rfl) (fun _ _ _ h => h) (Or.inl ⟨by rfl, ?_⟩) hsr ?_
      · intro w' hSw
        (try simp only [List.getElem_toArray, List.getElem_cons_succ, List.getElem_cons_zero])
        go_simp
      (try simp only [List.getElem_toArray, List.getElem_cons_succ, List.getElem_cons_zero, Act.put, List.setIfInBounds_toArray, List.set_cons_zero, List.set_cons_succ])
      refine wpAnyE_take (i := 14) (oi := _) (v := .pointer (some ⟨gt, 0, none⟩)) rfl (by kernel_rfl) (by kernel_rfl) (by kernel_rfl) (by kernel_rfl) (fun _ _ _ h => h) (Or.inl ⟨by rfl, ?_⟩) hsr ?_
      · intro w' hSw
        (try simp only [List.getElem_toArray, List.getElem_cons_succ, List.getElem_cons_zero])
        go_simp
      (try simp only [List.getElem_toArray, List.getElem_cons_succ, List.getElem_cons_zero, Act.put, List.setIfInBounds_toArray, List.set_cons_zero, List.set_cons_succ])
      refine wpAnyE_take (i := 15) (oi := _) (v := .pointer (some ⟨gt, 17, none⟩)) rfl (by kernel_rfl) (by kernel_rfl) (by kernel_rfl) (by kernel_rfl) (fun _ _ _ h => h) (Or.inl ⟨by rfl, ?_⟩) hsr ?_
      · intro w' hSw
        (try simp only [List.getElem_toArray, List.getElem_cons_succ, List.getElem_cons_zero])
        go_simp
      (try simp only [List.getElem_toArray, List.getElem_cons_succ, List.getElem_cons_zero, Act.put, List.setIfInBounds_toArray, List.set_cons_zero, List.set_cons_succ])
      refine wpAnyE_take (i := 16) (oi := _) (v := .pointer (some ⟨gt, 17 + who, none⟩)) rfl (by kernel_rfl) (by kernel_rfl) (by kernel_rfl) (by kernel_rfl) (fun _ _ _ h => h) (Or.inl ⟨by rfl, ?_⟩) hsr ?_
      · intro w' hSw
        have g3 : (who : Int) < 3 := by omega
        (try simp only [List.getElem_toArray, List.getElem_cons_succ, List.getElem_cons_zero])
        go_simp
      (try simp only [List.getElem_toArray, List.getElem_cons_succ, List.getElem_cons_zero, Act.put, List.setIfInBounds_toArray, List.set_cons_zero, List.set_cons_succ])
      refine wpAnyE_take (i := 17) (oi := _) (v := .int .i64 (fi : Nat)) rfl (by kernel_rfl) (by kernel_rfl) (by kernel_rfl) (by kernel_rfl) (fun _ _ _ h => h) (Or.inl ⟨by rfl, ?_⟩) hsr ?_
      · intro w' hSw
        have s1 := ((hx.tab.keptT hSw (by decide)).cell (17 + who)).trans HA.out.2.2.2.2.1
        (try simp at s1)
        (try simp only [List.getElem_toArray, List.getElem_cons_succ, List.getElem_cons_zero])
        go_simp
      (try simp only [List.getElem_toArray, List.getElem_cons_succ, List.getElem_cons_zero, Act.put, List.setIfInBounds_toArray, List.set_cons_zero, List.set_cons_succ])
      refine wpAnyE_take (i := 18) (oi := _) (v := .pointer (some ⟨gt, 0, none⟩)) rfl (by kernel_rfl) (by kernel_rfl) (by kernel_rfl) (by kernel_rfl) (fun _ _ _ h => h) (Or.inl ⟨by rfl, ?_⟩) hsr ?_
      · intro w' hSw
        (try simp only [List.getElem_toArray, List.getElem_cons_succ, List.getElem_cons_zero])
        go_simp
      (try simp only [List.getElem_toArray, List.getElem_cons_succ, List.getElem_cons_zero, Act.put, List.setIfInBounds_toArray, List.set_cons_zero, List.set_cons_succ])
      refine wpAnyE_take (i := 19) (oi := _) (v := .int .i64 (who : Nat)) rfl (by kernel_rfl) (by kernel_rfl) (by kernel_rfl) (by kernel_rfl) (fun _ _ _ h => h) (Or.inl ⟨by rfl, ?_⟩) hsr ?_
      · intro w' hSw
        (try simp only [List.getElem_toArray, List.getElem_cons_succ, List.getElem_cons_zero])
        go_simp
      (try simp only [List.getElem_toArray, List.getElem_cons_succ, List.getElem_cons_zero, Act.put, List.setIfInBounds_toArray, List.set_cons_zero, List.set_cons_succ])
      refine wpAnyE_take (i := 20) (oi := _) (v := .pointer (some ⟨gt, 0, none⟩)) rfl (by kernel_rfl) (by kernel_rfl) (by kernel_rfl) (by kernel_rfl) (fun _ _ _ h => h) (Or.inl ⟨by rfl, ?_⟩) hsr ?_
      · intro w' hSw
        (try simp only [List.getElem_toArray, List.getElem_cons_succ, List.getElem_cons_zero])
        go_simp
      (try simp only [List.getElem_toArray, List.getElem_cons_succ, List.getElem_cons_zero, Act.put, List.setIfInBounds_toArray, List.set_cons_zero, List.set_cons_succ])
      refine wpAnyE_take (i := 21) (oi := _) (v := .pointer (some ⟨gt, 20, none⟩)) rfl (by kernel_rfl) (by kernel_rfl) (by kernel_rfl) (by kernel_rfl) (fun _ _ _ h => h) (Or.inl ⟨by rfl, ?_⟩) hsr ?_
      · intro w' hSw
        (try simp only [List.getElem_toArray, List.getElem_cons_succ, List.getElem_cons_zero])
        go_simp
      (try simp only [List.getElem_toArray, List.getElem_cons_succ, List.getElem_cons_zero, Act.put, List.setIfInBounds_toArray, List.set_cons_zero, List.set_cons_succ])
      refine wpAnyE_take (i := 22) (oi := _) (v := .pointer (some ⟨gt, 20 + who, none⟩)) rfl (by kernel_rfl) (by kernel_rfl) (by kernel_rfl) (by kernel_rfl) (fun _ _ _ h => h) (Or.inl ⟨by rfl, ?_⟩) hsr ?_
      · intro w' hSw
        have g3 : (who : Int) < 3 := by omega
        (try simp only [List.getElem_toArray, List.getElem_cons_succ, List.getElem_cons_zero])
        go_simp
      (try simp only [List.getElem_toArray, List.getElem_cons_succ, List.getElem_cons_zero, Act.put, List.setIfInBounds_toArray, List.set_cons_zero, List.set_cons_succ])
      refine wpAnyE_take (i := 23) (oi := _) (v := .int .i64 (la : Nat)) rfl (by kernel_rfl) (by kernel_rfl) (by kernel_rfl) (by kernel_rfl) (fun _ _ _ h => h) (Or.inl ⟨by rfl, ?_⟩) hsr ?_
      · intro w' hSw
        have s1 := ((hx.tab.keptT hSw (by decide)).cell (20 + who)).trans HA.out.2.2.2.2.2
        (try simp at s1)
        (try simp only [List.getElem_toArray, List.getElem_cons_succ, List.getElem_cons_zero])
        go_simp
      (try simp only [List.getElem_toArray, List.getElem_cons_succ, List.getElem_cons_zero, Act.put, List.setIfInBounds_toArray, List.set_cons_zero, List.set_cons_succ])
      refine wpAnyE_take (i := 24) (oi := _) (v := .agg (outC val is err pt)) rfl (by kernel_rfl) (by kernel_rfl) (by kernel_rfl) (by kernel_rfl) (fun _ _ _ h => h) (Or.inl ⟨by rfl, ?_⟩) hsr ?_
      · intro w' hSw
        (try simp only [List.getElem_toArray, List.getElem_cons_succ, List.getElem_cons_zero])
        simp only [execOp, Instr.loadAt, Instr.sureAddr, Sem.run_bind, Sem.run_pure]
        rw [show (Act.eval _ (Operand.tmp 9)) = Value.pointer (some ⟨ga1, 0, none⟩) from rfl]
        simp only [Sem.run_pure, Result.andThen_ok, run_loadVar_row w' ga1 50 50 (outC val is err pt) (0, 0) _ (kb1.keptT hSw (by decide)) Try.underlying50 rfl (by kernel_rfl)]
      (try simp only [List.getElem_toArray, List.getElem_cons_succ, List.getElem_cons_zero, Act.put, List.setIfInBounds_toArray, List.set_cons_zero, List.set_cons_succ])
      refine wpAnyE_take (i := 25) (oi := _) (v := .agg (doneC ⟨who, ⟨ok, oj, oa, ob⟩, fi, la, val, is, err, pt⟩)) rfl (by kernel_rfl) (by kernel_rfl) (by kernel_rfl) (by kernel_rfl) (fun _ _ _ h => h) (Or.inl ⟨by rfl, ?_⟩) hsr ?_
      · intro w' hSw
        (try simp only [List.getElem_toArray, List.getElem_cons_succ, List.getElem_cons_zero])
        go_simp
        (try kernel_rfl)
      (try simp only [List.getElem_toArray, List.getElem_cons_succ, List.getElem_cons_zero, Act.put, List.setIfInBounds_toArray, List.set_cons_zero, List.set_cons_succ])
      have hri : ∃ ri, RowT Try.prog 44 52 ri (.agg (doneC ⟨0, op0, 0, 0, 0, false, 0, 0⟩)) 12 112 := RowT.of Try.underlying44 (by kernel_rfl) (by kernel_rfl) (by decide)
      obtain ⟨ri, hri⟩ := hri
      obtain ⟨dcs, hdcs⟩ : ∃ x, (doneC ⟨who, ⟨ok, oj, oa, ob⟩, fi, la, val, is, err, pt⟩) = x := ⟨_, rfl⟩
      rw [hdcs]
      have hdsz : dcs.size = 12 := by rw [← hdcs]; rfl
      have hd1 : ∀ u ∈ dcs.toList, u.oneCell' = true := by rw [← hdcs]; simp [doneC, Value.oneCell']
      have hbs : ∀ w : World, (Instr.buildSlice 44 1 #[(0, .agg dcs)]).run Try.prog w = .ok (.slice (some ⟨w.heap.size, 0, none⟩) 1 1) (w.alloc (.cells dcs 52)) := by rw [← hdcs]; intro w; kernel_rfl
      refine wpAnyE_one (i := 26) (o := _) (by kernel_rfl) rfl (fun K hK => ?_)
      rw [if_pos (by rfl)]
      refine oper_build1 (.tmp 122) (.agg dcs) dcs hbs rfl rfl ?_
      refine hK.out _ _ (fun _ => keptT_below (below_al (Below.refl _ _) _)) ?_
      clear hK K
      (try simp only [List.getElem_toArray, List.getElem_cons_succ, List.getElem_cons_zero, Act.put, List.setIfInBounds_toArray, List.set_cons_zero, List.set_cons_succ])
      have kd := Bk.made w5 52 dcs
      have hb6 := below_al (Below.refl w5.heap.size w5) (.cells dcs 52)
      have hdn6 := own_keepb' HDN.out hb6
      replace hx := hx.keep hb6
      have hst6 : TStp B w (w5.alloc (.cells dcs 52)) := hst.trans (.of_below hb6 hbt)
      have hbt6 : B ≤ (w5.alloc (.cells dcs 52)).heap.size := by have hh := hb6.size; omega
      have hS6 : KeptT 52 w5 (w5.alloc (.cells dcs 52)) := keptT_below hb6
      clear hst HDN HA hsr
      obtain ⟨gd, hgd⟩ : ∃ g, w5.heap.size = g := ⟨_, rfl⟩
      rw [hgd] at kd ⊢
      clear hgd
      generalize w5.alloc (.cells dcs 52) = w6 at *
      refine wpAnyE_one (i := 27) (o := _) (by kernel_rfl) rfl (fun K hK => ?_)
      rw [if_pos (by rfl)]
      refine oper_append hri (.tmp 101) (.tmp 123) rfl B (.slice dA t.done.length dc) t.done.length (donesC t.done) rfl hdn6 (some ⟨gd, 0, none⟩) 1 1 _ rfl (row_src kd hdsz kd.lt) hd1 (by omega) (by omega) hbt6 (fun v9 w7 hrow hgrow => ?_)
      have hgk := keptT_grown hdn6 hgrow
      have hbg := below_grow (Below.refl B w6) hdn6 hgrow hbt6 (Nat.le_refl _)
      replace hx := hx
      have hx7 : TabX w7 B gt mv2 (.slice dA t.done.length dc) lv2 t2 → True := fun _ => trivial
      clear hx7
      refine hK.out _ _ (fun _ => hS6.trans hgk) ?_
      clear hK K
      (try simp only [List.getElem_toArray, List.getElem_cons_succ, List.getElem_cons_zero, Act.put, List.setIfInBounds_toArray, List.set_cons_zero, List.set_cons_succ])
      refine wpAnyE_takeW (i := 28) (oi := _) (v := .pointer (some ⟨gt, 0, none⟩)) rfl (by kernel_rfl) (by kernel_rfl) (by kernel_rfl) (fun _ _ _ h => h) (Or.inl ⟨by rfl, ?_⟩) ?_
      · intro w' hSw
        clear hSw
        (try simp only [List.getElem_toArray, List.getElem_cons_succ, List.getElem_cons_zero])
        go_simp
      (try simp only [List.getElem_toArray, List.getElem_cons_succ, List.getElem_cons_zero, Act.put, List.setIfInBounds_toArray, List.set_cons_zero, List.set_cons_succ])
      refine wpAnyE_take (i := 29) (oi := _) (v := .pointer (some ⟨gt, 26, none⟩)) rfl (by kernel_rfl) (by kernel_rfl) (by kernel_rfl) (by kernel_rfl) (fun _ _ _ h => h) (Or.inl ⟨by rfl, ?_⟩) (hS6.trans hgk) ?_
      · intro w' hSw
        (try simp only [List.getElem_toArray, List.getElem_cons_succ, List.getElem_cons_zero])
        go_simp
      (try simp only [List.getElem_toArray, List.getElem_cons_succ, List.getElem_cons_zero, Act.put, List.setIfInBounds_toArray, List.set_cons_zero, List.set_cons_succ])
      have kt7 := hx.tab.keptT hgk (by decide)
      obtain ⟨gM, cM, e1, hmo⟩ := hx.mem
      have hmo7 := own_keptT hmo hgk (by decide)
      have hlg7 : ∀ k, k < 3 → ∃ G c, lv2 k = .slice G (t2.seat k).log.length c ∧ OwnRes w7 0 (lv2 k) (t2.seat k).log := fun k hk => by
        obtain ⟨G, c, e, ho⟩ := hx.logs k hk
        exact ⟨G, c, e, own_keptT ho hgk (by decide)⟩
      have hst7 : TStp B w w7 := hst6.trans (.of_done hbg hgk)
      obtain ⟨dA2, dc2, rfl⟩ := own_slice hrow
      have hdn7 : OwnDone w7 B (.slice dA2 (t.done.length + 1) dc2) (t.done ++ [⟨who, ⟨ok, oj, oa, ob⟩, fi, la, val, is, err, pt⟩]) := by
        unfold OwnDone
        rw [donesC_snoc, List.length_append, hdcs]
        exact hrow
      have q26 := kt7.cell 26
      have f26 := kt7.free 26
      have l26 := kt7.lt
      have kt8 := kt7.stored 26 (.slice dA2 (t.done.length + 1) dc2)
      have hk8 := keptT_set kt7 26 (.slice dA2 (t.done.length + 1) dc2)
      have hst8 : TStp B w (w7.setCell ⟨gt, 26, none⟩ (.slice dA2 (t.done.length + 1) dc2)) := hst7.trans (.set hBg kt7 26 (.slice dA2 (t.done.length + 1) dc2))
      have hx8 : TabX (w7.setCell ⟨gt, 26, none⟩ (.slice dA2 (t.done.length + 1) dc2)) B gt mv2 (.slice dA2 (t.done.length + 1) dc2) lv2 { t2 with done := t.done ++ [⟨who, ⟨ok, oj, oa, ob⟩, fi, la, val, is, err, pt⟩] } :=
        ⟨hBg, kt8, ⟨gM, cM, e1, own_keptT hmo7 hk8 (by decide)⟩, fun k hk => by
          obtain ⟨G, c, e, ho⟩ := hlg7 k hk
          exact ⟨G, c, e, own_keptT ho hk8 (by decide)⟩, own_keptT hdn7 hk8 (by decide)⟩
      have HX8 := Lib.hid (And.intro hx8 hst8)
      simp at q26
      clear hx8 hst8 hk8 kt8 hdn7 hst7 hlg7 hmo7 hmo e1 hx hgk hbg hrow hgrow kt7 hdn6 hst6 hbt6 hS6 kd hb6
      refine wpAnyE_one (i := 30) (o := _) (by kernel_rfl) rfl (fun K hK => ?_)
      (try simp only [List.getElem_toArray, List.getElem_cons_succ, List.getElem_cons_zero])
      go_simp
      clear q26 f26 l26
      refine hK.out _ (w7.setCell ⟨gt, 26, none⟩ (.slice dA2 (t.done.length + 1) dc2)) (fun h => absurd h (by decide)) ?_
      clear hK K
      refine wpAnyE_done (by kernel_rfl) ?_ _
      obtain ⟨hx8, hst8⟩ := HX8.out
      clear HX8
      generalize w7.setCell ⟨gt, 26, none⟩ (.slice dA2 (t.done.length + 1) dc2) = w8 at *
      -- the seat is idle
      obtain ⟨a1, a2, a3, a4, a5, a6, a7, a8⟩ := tab_at (mv := mv2) (dv := (.slice dA2 (t.done.length + 1) dc2)) (lv := lv2) (t := { t2 with done := t.done ++ [⟨who, ⟨ok, oj, oa, ob⟩, fi, la, val, is, err, pt⟩] }) hw
      have o1 := (hx8.tab.cell (2 + who * 4)).trans a1
      have o2 := (hx8.tab.cell (2 + who * 4 + 1)).trans a2
      have o3 := (hx8.tab.cell (2 + who * 4 + 2)).trans a3
      have o4 := (hx8.tab.cell (2 + who * 4 + 3)).trans a4
      have y1 := hx8.tab.free (2 + who * 4)
      have y2 := hx8.tab.free (2 + who * 4 + 1)
      have y3 := hx8.tab.free (2 + who * 4 + 2)
      have y4 := hx8.tab.free (2 + who * 4 + 3)
      have lo := hx8.tab.lt
      have hx9 := hx8.op hw op0
      have hst9 : TStp B w (setOpW w8 gt who op0) := hst8.trans (.setOp hBg hx8.tab _)
      have hfin : ({ ({ t2 with done := t.done ++ [⟨who, ⟨ok, oj, oa, ob⟩, fi, la, val, is, err, pt⟩] } : TabD) with seat := upS t2.seat who { t2.seat who with op := op0 } } : TabD) = turnD l p who t := by
        rw [HN.out, ← HT2.out.2.2]
        simp only [upS_up, upS_same]
      dsimp only at hx9 hfin
      rw [hfin] at hx9
      have HXF := Lib.hid (And.intro hx9 hst9)
      clear hx8 hst8 hx9 hst9 hfin a1 a2 a3 a4 a5 a6 a7 a8
      go_wp2_with fail
      refine bodyPost_ret (v := .tuple #[]) (results_none rfl _ _ _) rfl ?_
      exact ⟨rfl, ⟨_, _, _, HXF.out.1⟩, HXF.out.2⟩
    | false =>
      have hN : nextD l ⟨ok, oj, oa, ob⟩ log = .ask qk qc qo qv := by
        have h1 := HAI.out
        cases hr : nextD l ⟨ok, oj, oa, ob⟩ log with
        | ask _ _ _ _ => rw [hr] at h1; obtain ⟨⟨rfl, rfl, rfl, rfl⟩, _⟩ := h1; rfl
        | out _ _ _ _ => rw [hr] at h1; obtain ⟨_, _, _, _, _, h1⟩ := h1; cases h1
      have he : (⟨qk, qc, qo, qv⟩ : Acc).err t.m.length = 0 := HE.out _ _ _ _ (by rw [HS.out]; exact hN) (by rw [HS.out]; exact HRN.out)
      have hres : turnD l p who t = { t with m := (⟨qk, qc, qo, qv⟩ : Acc).make t.m, step := t.step + 1, seat := upS t.seat who ⟨⟨ok, oj, oa, ob⟩, log ++ [((⟨qk, qc, qo, qv⟩ : Acc).had t.m, (⟨qk, qc, qo, qv⟩ : Acc).ok ((⟨qk, qc, qo, qv⟩ : Acc).had t.m))], fi, t.step, nx⟩ } := by
        unfold turnD
        rw [HS.out]
        dsimp only
        rw [if_neg HRN.out, hN]
      have HN := Lib.hid (And.intro hres he)
      clear hN hres he kb1
      go_upto_region 12 with fail
      refine wp_region_E (S := fun w' => Below w4.drew.heap.size w4.drew w') (E := fun _ => false) (by kernel_rfl) ?_
      have hbd := below_drew' (Below.refl w4.heap.size w4)
      replace hx := hx.keep hbd
      replace hst : TStp B w w4.drew := hst.trans (.of_below hbd hbt)
      have kA5 := kb0.drew
      clear kb0
      replace hbt : B ≤ w4.drew.heap.size := hbt
      clear hbd
      generalize w4.drew = w5 at *
      obtain ⟨gM, cM, hmv, hmo⟩ := hx.mem
      rw [HT2.out.2.1.1] at hmv hmo
      subst hmv
      have HMO := Lib.hid hmo
      clear hmo
      refine wpAnyE_take (i := 0) (oi := _) (v := .pointer (some ⟨gt, 0, none⟩)) rfl (by kernel_rfl) (by kernel_rfl) (by kernel_rfl) (by kernel_rfl) (fun _ _ _ h => h) (Or.inl ⟨by rfl, ?_⟩) (Below.refl _ _) ?_
      · intro w' hSw
        (try simp only [List.getElem_toArray, List.getElem_cons_zero])
        go_simp
      (try simp only [List.getElem_toArray, List.getElem_cons_zero, Act.put, List.setIfInBounds_toArray, List.set_cons_zero, List.set_cons_succ])
      refine wpAnyE_take (i := 1) (oi := _) (v := .pointer (some ⟨gt, 0, none⟩)) rfl (by kernel_rfl) (by kernel_rfl) (by kernel_rfl) (by kernel_rfl) (fun _ _ _ h => h) (Or.inl ⟨by rfl, ?_⟩) (Below.refl _ _) ?_
      · intro w' hSw
        (try simp only [List.getElem_toArray, List.getElem_cons_succ, List.getElem_cons_zero])
        go_simp
      (try simp only [List.getElem_toArray, List.getElem_cons_succ, List.getElem_cons_zero, Act.put, List.setIfInBounds_toArray, List.set_cons_zero, List.set_cons_succ])
      refine wpAnyE_take (i := 2) (oi := _) (v := .pointer (some ⟨gt, 0, none⟩)) rfl (by kernel_rfl) (by kernel_rfl) (by kernel_rfl) (by kernel_rfl) (fun _ _ _ h => h) (Or.inl ⟨by rfl, ?_⟩) (Below.refl _ _) ?_
      · intro w' hSw
        (try simp only [List.getElem_toArray, List.getElem_cons_succ, List.getElem_cons_zero])
        go_simp
      (try simp only [List.getElem_toArray, List.getElem_cons_succ, List.getElem_cons_zero, Act.put, List.setIfInBounds_toArray, List.set_cons_zero, List.set_cons_succ])
      refine wpAnyE_take (i := 3) (oi := _) (v := .agg #[.slice (some ⟨gM, 0, none⟩) t.m.length cM]) rfl (by kernel_rfl) (by kernel_rfl) (by kernel_rfl) (by kernel_rfl) (fun _ _ _ h => h) (Or.inl ⟨by rfl, ?_⟩) (Below.refl _ _) ?_
      · intro w' hSw
        have s1 := (hx.tab.keep hSw).cell 0
        (try simp at s1)
        (try simp only [List.getElem_toArray, List.getElem_cons_succ, List.getElem_cons_zero])
        go_simp
      (try simp only [List.getElem_toArray, List.getElem_cons_succ, List.getElem_cons_zero, Act.put, List.setIfInBounds_toArray, List.set_cons_zero, List.set_cons_succ])
      refine wpAnyE_take (i := 4) (oi := _) (v := .agg (accC qk qc qo qv)) rfl (by kernel_rfl) (by kernel_rfl) (by kernel_rfl) (by kernel_rfl) (fun _ _ _ h => h) (Or.inl ⟨by rfl, ?_⟩) (Below.refl _ _) ?_
      · intro w' hSw
        (try simp only [List.getElem_toArray, List.getElem_cons_succ, List.getElem_cons_zero])
        simp only [execOp, Instr.loadAt, Instr.sureAddr, Sem.run_bind, Sem.run_pure]
        rw [show (Act.eval _ (Operand.tmp 8)) = Value.pointer (some ⟨ga0, 0, none⟩) from rfl]
        simp only [Sem.run_pure, Result.andThen_ok, run_loadVar_row w' ga0 63 63 (accC qk qc qo qv) (0, 0) _ (kA5.keep hSw) Try.underlying63 rfl (by kernel_rfl)]
      (try simp only [List.getElem_toArray, List.getElem_cons_succ, List.getElem_cons_zero, Act.put, List.setIfInBounds_toArray, List.set_cons_zero, List.set_cons_succ])
      refine wpAnyE_dag (U := [5, 6, 7, 8, 9, 10, 11, 12, 13, 14]) (tmp := tuT2) (pre := c3P 5) (T := fun w' => Below w5.heap.size w5 w') (N := fun _ _ => True) (G := c3G 5 w5.heap.size 37 76) (R := c3R 5 w5.heap.size 37 76 #[.slice none 0 0] #[.int .i64 0, .bool false] (DoX ⟨qk, qc, qo, qv⟩ t.m)) (by kernel_rfl) (fun _ _ => rfl) (fun w2 h => h) (Below.refl _ _) (fun i hi w3 w4 h1 h2 => c3T_keep h1 h2) (fun _ _ => trivial) (fun _ _ _ _ _ _ _ _ _ _ => trivial)
        (fun i hi j hj hij vals v u w3 w4 hT hvi hvj hp hr hg => c3R_keep (by decide) doX_keep hij hvi hvj hr hg) (fun i hi o ho vals w3 K hvn hT _ hpre hK => ?_) 0 (fun vals w6 hall hT => ?_)
      · simp only [List.mem_cons, List.not_mem_nil, or_false] at hi
        rcases hi with rfl | rfl | rfl | rfl | rfl | rfl | rfl | rfl | rfl | rfl
        · obtain rfl := Option.some.inj ho
          simp only [show c3P 5 5 = [] from rfl, actOf] at hK ⊢
          go_simp
          (with_reducible refine (do_ok (some ⟨gM, 0, none⟩) cM t.m ⟨qk, qc, qo, qv⟩ _ ((sl_of_own (ownI_keep HMO.out hT) rfl)) (by omega) HN.out.2).mono ?_)
          rintro e w6 ⟨g6, c6, rfl, ho6, hb⟩
          exact hK _ _ ⟨_, _, _, rfl, g6, c6, ⟨rfl, rfl, rfl⟩, own_low' ho6 (Nat.zero_le _)⟩ hb
        · obtain rfl := Option.some.inj ho
          obtain ⟨v0, e0, d1, d2, d3, rfl, hX0⟩ := hpre 5 (by simp [c3P])
          simp only [show c3P 5 6 = [5] from rfl, actOf, e0, tuT2] at hK ⊢
          go_simp
          exact hK _ _ ⟨d1, d2, d3, rfl, by simp only [upd]; exact e0⟩ (Below.refl _ _)
        · obtain rfl := Option.some.inj ho
          obtain ⟨v1, e1, d1, d2, d3, rfl, e0⟩ := hpre 6 (by simp [c3P])
          simp only [show c3P 5 7 = [6] from rfl, actOf, e1, tuT2] at hK ⊢
          go_simp
          exact hK _ _ ⟨d1, d2, d3, by simp only [upd]; exact e0, rfl⟩ (Below.refl _ _)
        · obtain rfl := Option.some.inj ho
          obtain ⟨v1, e1, d1, d2, d3, rfl, e0⟩ := hpre 6 (by simp [c3P])
          simp only [show c3P 5 8 = [6] from rfl, actOf, e1, tuT2] at hK ⊢
          go_simp
          exact hK _ _ ⟨d1, d2, d3, by simp only [upd]; exact e0, rfl⟩ (Below.refl _ _)
        · obtain rfl := Option.some.inj ho
          obtain ⟨v1, e1, d1, d2, d3, rfl, e0⟩ := hpre 6 (by simp [c3P])
          simp only [show c3P 5 9 = [6] from rfl, actOf, e1, tuT2] at hK ⊢
          go_simp
          exact hK _ _ ⟨d1, d2, d3, by simp only [upd]; exact e0, rfl⟩ (Below.refl _ _)
        · obtain rfl := Option.some.inj ho
          simp only [show c3P 5 10 = [] from rfl, actOf] at hK ⊢
          go_simp
          exact hK _ _ ⟨_, rfl, hT.size, fun _ => Bk.made _ _ _⟩ (below_al (Below.refl _ _) _)
        · obtain rfl := Option.some.inj ho
          simp only [show c3P 5 11 = [] from rfl, actOf] at hK ⊢
          go_simp
          exact hK _ _ ⟨_, rfl, hT.size, fun _ => Bk.made _ _ _⟩ (below_al (Below.refl _ _) _)
        · obtain rfl := Option.some.inj ho
          obtain ⟨v0, e0, d1, d2, d3, rfl, hX0⟩ := hpre 5 (by simp [c3P])
          obtain ⟨v2, e2, f1, f2, f3, e2', rfl⟩ := hpre 7 (by simp [c3P])
          rw [e0] at e2'
          obtain ⟨rfl, rfl, rfl⟩ := tup3_inj e2'
          obtain ⟨v5, e5, ga, rfl, hga, k5⟩ := hpre 10 (by simp [c3P])
          have ka := k5 hvn
          obtain ⟨g6, c6, ⟨rfl, rfl, rfl⟩, ho6⟩ := hX0
          simp only [show c3P 5 12 = [5, 7, 10] from rfl, actOf, e0, e2, e5, tuT2] at hK ⊢
          (try simp only [List.getElem_toArray, List.getElem_cons_succ, List.getElem_cons_zero])
          refine wp_store_row 37 (.tmp 11) (.tmp 140) rfl ga _ rfl rfl 37 #[.slice none 0 0] ka (by kernel_rfl) rfl (by simp [Value.oneCell']) ?_
          exact hK undef _ ⟨ga, _, _, _, by simp only [upd]; exact e0, by simp only [upd]; exact e5, hga, setRow_heap _ _ _ _ _ _ ka⟩ ⟨keptT_row ka, below_setRowB' hga _⟩
        · obtain rfl := Option.some.inj ho
          obtain ⟨v0, e0, d1, d2, d3, rfl, hX0⟩ := hpre 5 (by simp [c3P])
          obtain ⟨v2, e2, f1, f2, f3, e2', rfl⟩ := hpre 8 (by simp [c3P])
          rw [e0] at e2'
          obtain ⟨rfl, rfl, rfl⟩ := tup3_inj e2'
          obtain ⟨v5, e5, ga, rfl, hga, k5⟩ := hpre 11 (by simp [c3P])
          have ka := k5 hvn
          obtain ⟨g6, c6, ⟨rfl, rfl, rfl⟩, ho6⟩ := hX0
          simp only [show c3P 5 13 = [5, 8, 11] from rfl, actOf, e0, e2, e5, tuT2] at hK ⊢
          (try simp only [List.getElem_toArray, List.getElem_cons_succ, List.getElem_cons_zero])
          refine wp_store_row 76 (.tmp 12) (.tmp 141) rfl ga _ rfl rfl 76 #[.int .i64 0, .bool false] ka (by kernel_rfl) rfl (by simp [Value.oneCell']) ?_
          exact hK undef _ ⟨ga, _, _, _, by simp only [upd]; exact e0, by simp only [upd]; exact e5, hga, setRow_heap _ _ _ _ _ _ ka⟩ ⟨keptT_row ka, below_setRowB' hga _⟩
        · obtain rfl := Option.some.inj ho
          obtain ⟨v4, e4, f1, f2, f3, e4', rfl⟩ := hpre 9 (by simp [c3P])
          simp only [show c3P 5 14 = [9] from rfl, actOf, e4, tuT2] at hK ⊢
          go_simp
          exact hK _ _ ⟨_, _, _, by simp only [upd]; exact e4', rfl⟩ (Below.refl _ _)
      obtain ⟨v0, e0, d1, d2, d3, rfl, hX0⟩ := hall 5 (by simp)
      obtain ⟨v1, e1, f1, f2, f3, rfl, e1'⟩ := hall 6 (by simp)
      rw [e0] at e1'
      obtain ⟨rfl, rfl, rfl⟩ := tup3_inj e1'
      obtain ⟨v2, e2, f1, f2, f3, e2', rfl⟩ := hall 7 (by simp)
      rw [e0] at e2'
      obtain ⟨rfl, rfl, rfl⟩ := tup3_inj e2'
      obtain ⟨v3, e3, f1, f2, f3, e2', rfl⟩ := hall 8 (by simp)
      rw [e0] at e2'
      obtain ⟨rfl, rfl, rfl⟩ := tup3_inj e2'
      obtain ⟨v4, e4, f1, f2, f3, e2', rfl⟩ := hall 9 (by simp)
      rw [e0] at e2'
      obtain ⟨rfl, rfl, rfl⟩ := tup3_inj e2'
      obtain ⟨v5, e5, ga0, rfl, hga0, -⟩ := hall 10 (by simp)
      obtain ⟨v6, e6, ga1, rfl, hga1, -⟩ := hall 11 (by simp)
      obtain ⟨v7, e7, gb0, f1, f2, f3, e2', e3', -, kb0⟩ := hall 12 (by simp)
      rw [e0] at e2'
      obtain ⟨rfl, rfl, rfl⟩ := tup3_inj e2'
      rw [e5] at e3'
      obtain rfl := ptr_inj e3'
      obtain ⟨v8, e8, gb1, f1, f2, f3, e2', e3', -, kb1⟩ := hall 13 (by simp)
      rw [e0] at e2'
      obtain ⟨rfl, rfl, rfl⟩ := tup3_inj e2'
      rw [e6] at e3'
      obtain rfl := ptr_inj e3'
      obtain ⟨v9, e9, f1, f2, f3, e2', rfl⟩ := hall 14 (by simp)
      rw [e0] at e2'
      obtain ⟨rfl, rfl, rfl⟩ := tup3_inj e2'
      clear hall
      refine wpAnyE_done (by simp only [lstOf, e0, e1, e2, e3, e4, e5, e6, e7, e8, e9, Option.isSome_some, if_true]; kernel_rfl) ?_ _
      simp only [actOf, e0, e1, e2, e3, e4, e5, e6, e7, e8, e9, tuT2]
      clear e0 e1 e2 e3 e4 e5 e6 e7 e8 e9
      (try simp only [Act.put, List.setIfInBounds_toArray, List.set_cons_zero, List.set_cons_succ, List.set_nil])
      obtain ⟨g6, c6, ⟨rfl, rfl, rfl⟩, ho6⟩ := hX0
      replace hx := hx.keep hT
      replace hst := hst.trans (.of_below hT hbt)
      replace hbt : B ≤ w6.heap.size := by have hh := hT.size; omega
      clear hT kA5 HMO
      obtain ⟨had, hhad⟩ : ∃ z, (⟨qk, qc, qo, qv⟩ : Acc).had t.m = z := ⟨_, rfl⟩
      obtain ⟨gok, hgok⟩ : ∃ z, (⟨qk, qc, qo, qv⟩ : Acc).ok had = z := ⟨_, rfl⟩
      obtain ⟨mm, hmm⟩ : ∃ z, (⟨qk, qc, qo, qv⟩ : Acc).make t.m = z := ⟨_, rfl⟩
      have hml2 : mm.length = t.m.length := by rw [← hmm]; exact Acc.make_length _ _
      have hres := HN.out.1
      rw [hhad, hgok, hmm] at hres
      rw [hhad, hgok] at kb1
      rw [hmm] at ho6
      rw [← hml2] at kb0 ho6
      have HN2 := Lib.hid (And.intro hres hml2)
      clear hres hhad hgok hmm hml2 HN HE
      have q0 := kb0.cell 0
      have lq := kb0.lt
      have p0 := hx.tab.cell 0
      have pf := hx.tab.free 0
      have pl := hx.tab.lt
      simp at q0 p0
      have hx7 := hx.setMem mm ho6
      have hst7 := hst.trans (.set hBg hx.tab 0 (.slice (some ⟨g6, 0, none⟩) mm.length c6))
      have kR7 := kb1.keptT (keptT_set hx.tab 0 (.slice (some ⟨g6, 0, none⟩) mm.length c6)) (by decide)
      have HX7 := Lib.hid (And.intro hx7 (And.intro hst7 kR7))
      clear hx7 hst7 kR7 hx hst kb1 kb0 ho6
      go_upto_region 16 with fail
      clear q0 lq p0 pf pl
      show Code.wp Try.prog _ _ _ (w6.setCell ⟨gt, 0, none⟩ (.slice (some ⟨g6, 0, none⟩) mm.length c6))
      obtain ⟨hx7, hst7, kR7⟩ := HX7.out
      clear HX7
      replace hbt : B ≤ (w6.setCell ⟨gt, 0, none⟩ (.slice (some ⟨g6, 0, none⟩) mm.length c6)).heap.size := by simpa using hbt
      replace hx7 : TabX (w6.setCell ⟨gt, 0, none⟩ (.slice (some ⟨g6, 0, none⟩) mm.length c6)) B gt _ dv2 lv2 { t2 with m := mm } := hx7
      generalize w6.setCell ⟨gt, 0, none⟩ (.slice (some ⟨g6, 0, none⟩) mm.length c6) = w7 at *
      obtain ⟨t7, ht7⟩ : ∃ x, ({ t2 with m := mm } : TabD) = x := ⟨_, rfl⟩
      rw [ht7] at hx7
      have hs7 : t7.seat who = ⟨⟨ok, oj, oa, ob⟩, log, fi, la, nx⟩ := by rw [← ht7]; exact HT2.out.1
      have hstep7 : t7.step = t.step := by rw [← ht7]; exact HT2.out.2.1.2.1
      have HS7 := Lib.hid (And.intro hs7 (And.intro hstep7 ht7))
      clear hs7 hstep7 ht7
      generalize Value.slice (some ⟨g6, 0, none⟩) mm.length c6 = mv7 at *
      refine wp_region_E (S := fun w' => Below w7.drew.heap.size w7.drew w') (E := fun i => i == 16) (by kernel_rfl) ?_
      have hbd := below_drew' (Below.refl w7.heap.size w7)
      replace hx7 := hx7.keep hbd
      replace hst7 : TStp B w w7.drew := hst7.trans (.of_below hbd hbt)
      replace kR7 := kR7.drew
      replace hbt : B ≤ w7.drew.heap.size := hbt
      clear hbd
      generalize w7.drew = w8 at *
      obtain ⟨G7, cp7, hlv, hown⟩ := hx7.logs who hw
      rw [HS7.out.1] at hlv hown
      dsimp only at hlv hown
      rw [hlv] at hown
      obtain ⟨a1, a2, a3, a4, a5, a6, a7, a8⟩ := tab_at (mv := mv7) (dv := dv2) (lv := lv2) (t := t7) hw
      rw [hlv] at a5
      have o5 := (hx7.tab.cell (14 + who)).trans a5
      have hnn : log.length ≤ 900 := hlen
      clear a1 a2 a3 a4 a5 a6 a7 a8 hlv
      obtain ⟨ri, hri⟩ := res_rowT
      refine wpAnyE_take (i := 0) (oi := _) (v := .pointer (some ⟨gt, 0, none⟩)) rfl (by kernel_rfl) (by kernel_rfl) (by kernel_rfl) (by kernel_rfl) (fun _ _ _ h => h) (Or.inl ⟨by rfl, ?_⟩) (Below.refl _ _) ?_
      · intro w' hSw
        (try simp only [List.getElem_toArray, List.getElem_cons_zero])
        go_simp
      (try simp only [List.getElem_toArray, List.getElem_cons_zero, Act.put, List.setIfInBounds_toArray, List.set_cons_zero, List.set_cons_succ])
      refine wpAnyE_take (i := 1) (oi := _) (v := .int .i64 (who : Nat)) rfl (by kernel_rfl) (by kernel_rfl) (by kernel_rfl) (by kernel_rfl) (fun _ _ _ h => h) (Or.inl ⟨by rfl, ?_⟩) (Below.refl _ _) ?_
      · intro w' hSw
        (try simp only [List.getElem_toArray, List.getElem_cons_succ, List.getElem_cons_zero])
        go_simp
      (try simp only [List.getElem_toArray, List.getElem_cons_succ, List.getElem_cons_zero, Act.put, List.setIfInBounds_toArray, List.set_cons_zero, List.set_cons_succ])
      refine wpAnyE_take (i := 3) (oi := _) (v := .pointer (some ⟨gt, 0, none⟩)) rfl (by kernel_rfl) (by kernel_rfl) (by kernel_rfl) (by kernel_rfl) (fun _ _ _ h => h) (Or.inl ⟨by rfl, ?_⟩) (Below.refl _ _) ?_
      · intro w' hSw
        (try simp only [List.getElem_toArray, List.getElem_cons_succ, List.getElem_cons_zero])
        go_simp
      (try simp only [List.getElem_toArray, List.getElem_cons_succ, List.getElem_cons_zero, Act.put, List.setIfInBounds_toArray, List.set_cons_zero, List.set_cons_succ])
      refine wpAnyE_take (i := 4) (oi := _) (v := .int .i64 (who : Nat)) rfl (by kernel_rfl) (by kernel_rfl) (by kernel_rfl) (by kernel_rfl) (fun _ _ _ h => h) (Or.inl ⟨by rfl, ?_⟩) (Below.refl _ _) ?_
      · intro w' hSw
        (try simp only [List.getElem_toArray, List.getElem_cons_succ, List.getElem_cons_zero])
        go_simp
      (try simp only [List.getElem_toArray, List.getElem_cons_succ, List.getElem_cons_zero, Act.put, List.setIfInBounds_toArray, List.set_cons_zero, List.set_cons_succ])
      refine wpAnyE_take (i := 5) (oi := _) (v := .pointer (some ⟨gt, 0, none⟩)) rfl (by kernel_rfl) (by kernel_rfl) (by kernel_rfl) (by kernel_rfl) (fun _ _ _ h => h) (Or.inl ⟨by rfl, ?_⟩) (Below.refl _ _) ?_
      · intro w' hSw
        (try simp only [List.getElem_toArray, List.getElem_cons_succ, List.getElem_cons_zero])
        go_simp
      (try simp only [List.getElem_toArray, List.getElem_cons_succ, List.getElem_cons_zero, Act.put, List.setIfInBounds_toArray, List.set_cons_zero, List.set_cons_succ])
      refine wpAnyE_take (i := 6) (oi := _) (v := .pointer (some ⟨gt, 14, none⟩)) rfl (by kernel_rfl) (by kernel_rfl) (by kernel_rfl) (by kernel_rfl) (fun _ _ _ h => h) (Or.inl ⟨by rfl, ?_⟩) (Below.refl _ _) ?_
      · intro w' hSw
        (try simp only [List.getElem_toArray, List.getElem_cons_succ, List.getElem_cons_zero])
        go_simp
      (try simp only [List.getElem_toArray, List.getElem_cons_succ, List.getElem_cons_zero, Act.put, List.setIfInBounds_toArray, List.set_cons_zero, List.set_cons_succ])
      refine wpAnyE_take (i := 7) (oi := _) (v := .pointer (some ⟨gt, 14 + who, none⟩)) rfl (by kernel_rfl) (by kernel_rfl) (by kernel_rfl) (by kernel_rfl) (fun _ _ _ h => h) (Or.inl ⟨by rfl, ?_⟩) (Below.refl _ _) ?_
      · intro w' hSw
        have g3 : (who : Int) < 3 := by omega
        (try simp only [List.getElem_toArray, List.getElem_cons_succ, List.getElem_cons_zero])
        go_simp
      (try simp only [List.getElem_toArray, List.getElem_cons_succ, List.getElem_cons_zero, Act.put, List.setIfInBounds_toArray, List.set_cons_zero, List.set_cons_succ])
      refine wpAnyE_take (i := 8) (oi := _) (v := .slice G7 log.length cp7) rfl (by kernel_rfl) (by kernel_rfl) (by kernel_rfl) (by kernel_rfl) (fun _ _ _ h => h) (Or.inl ⟨by rfl, ?_⟩) (Below.refl _ _) ?_
      · intro w' hSw
        have s1 := cell_keep hSw o5
        (try simp at s1)
        (try simp only [List.getElem_toArray, List.getElem_cons_succ, List.getElem_cons_zero])
        go_simp
      (try simp only [List.getElem_toArray, List.getElem_cons_succ, List.getElem_cons_zero, Act.put, List.setIfInBounds_toArray, List.set_cons_zero, List.set_cons_succ])
      refine wpAnyE_take (i := 10) (oi := _) (v := .agg #[.int .i64 had, .bool gok]) rfl (by kernel_rfl) (by kernel_rfl) (by kernel_rfl) (by kernel_rfl) (fun _ _ _ h => h) (Or.inl ⟨by rfl, ?_⟩) (Below.refl _ _) ?_
      · intro w' hSw
        have s1 := (kR7.keep hSw).cell 0
        have s2 := (kR7.keep hSw).cell 1
        (try simp at s1 s2)
        (try simp only [List.getElem_toArray, List.getElem_cons_succ, List.getElem_cons_zero])
        go_simp
      (try simp only [List.getElem_toArray, List.getElem_cons_succ, List.getElem_cons_zero, Act.put, List.setIfInBounds_toArray, List.set_cons_zero, List.set_cons_succ])
      refine wpAnyE_takeW (i := 13) (oi := _) (v := .pointer (some ⟨gt, 0, none⟩)) rfl (by kernel_rfl) (by kernel_rfl) (by kernel_rfl) (fun _ _ _ h => h) (Or.inl ⟨by rfl, ?_⟩) ?_
      · intro w' hSw
        clear hSw
        (try simp only [List.getElem_toArray, List.getElem_cons_succ, List.getElem_cons_zero])
        go_simp
      (try simp only [List.getElem_toArray, List.getElem_cons_succ, List.getElem_cons_zero, Act.put, List.setIfInBounds_toArray, List.set_cons_zero, List.set_cons_succ])
      refine wpAnyE_takeW (i := 14) (oi := _) (v := .pointer (some ⟨gt, 14, none⟩)) rfl (by kernel_rfl) (by kernel_rfl) (by kernel_rfl) (fun _ _ _ h => h) (Or.inl ⟨by rfl, ?_⟩) ?_
      · intro w' hSw
        clear hSw
        (try simp only [List.getElem_toArray, List.getElem_cons_succ, List.getElem_cons_zero])
        go_simp
      (try simp only [List.getElem_toArray, List.getElem_cons_succ, List.getElem_cons_zero, Act.put, List.setIfInBounds_toArray, List.set_cons_zero, List.set_cons_succ])
      refine wpAnyE_app2 hri 2 9 11 12 154 161 163 164 (.tmp 160) (.tmp 162) rfl rfl rfl rfl ⟨rfl, rfl, rfl⟩ ⟨rfl, rfl, rfl⟩ ⟨rfl, rfl, rfl⟩ ⟨rfl, rfl, rfl⟩ (by kernel_rfl) (by kernel_rfl) (by kernel_rfl) (by kernel_rfl) (by kernel_rfl) (by kernel_rfl) (by simp) ⟨of_decide_eq_true (by kernel_rfl), of_decide_eq_true (by kernel_rfl), of_decide_eq_true (by kernel_rfl)⟩ w8.heap.size (Nat.le_refl _) (Below.refl _ _) (fun w1 w2 h12 h1 => h1.trans h12) G7 log.length cp7 (resCells log) rfl (Src.own hown (Nat.le_refl _)) (resCells_one log) (.agg #[.int .i64 had, .bool gok]) #[.int .i64 had, .bool gok] rfl (fun w => by kernel_rfl) rfl (by simp [Value.oneCell']) (by omega) (by omega) ?_
      intro vA vB vC vD w9 hown9 hb9 hS9
      (try simp only [Act.put, List.setIfInBounds_toArray, List.set_cons_zero, List.set_cons_succ])
      obtain ⟨GD, cD, rfl⟩ := own_slice hown9
      refine wpAnyE_take (i := 15) (oi := _) (v := .pointer (some ⟨gt, 14 + who, none⟩)) rfl (by kernel_rfl) (by kernel_rfl) (by kernel_rfl) (by kernel_rfl) (fun _ _ _ h => h) (Or.inl ⟨by rfl, ?_⟩) hS9 ?_
      · intro w' hSw
        have g3 : (who : Int) < 3 := by omega
        (try simp only [List.getElem_toArray, List.getElem_cons_succ, List.getElem_cons_zero])
        go_simp
      (try simp only [List.getElem_toArray, List.getElem_cons_succ, List.getElem_cons_zero, Act.put, List.setIfInBounds_toArray, List.set_cons_zero, List.set_cons_succ])
      have hlog9 : OwnRes w9 0 (.slice GD (log ++ [(had, gok)]).length cD) (log ++ [(had, gok)]) := by
        unfold OwnRes
        rw [resCells_snoc, List.length_append]
        exact own_lower hown9 (Nat.zero_le _)
      replace hx7 := hx7.keep hb9
      have hst9 := hst7.trans (.of_below hb9 hbt)
      have hbt9 : B ≤ w9.heap.size := by have hh := hb9.size; omega
      have x1 := cell_keep hb9 o5
      have xf := hx7.tab.free (14 + who)
      have xl := hx7.tab.lt
      have hx10 := hx7.log hw (log ++ [(had, gok)]) hlog9
      have hst10 := hst9.trans (.set hBg hx7.tab (14 + who) (.slice GD (log ++ [(had, gok)]).length cD))
      rw [show (log ++ [(had, gok)]).length = log.length + 1 from by simp] at hx10 hst10
      have HX10 := Lib.hid (And.intro hx10 hst10)
      clear hx10 hst10 hx7 hst9 hst7 hlog9 hown9 hown hb9 hS9 o5 kR7
      refine wpAnyE_one (i := 16) (o := _) (by kernel_rfl) rfl (fun K hK => ?_)
      (try simp only [List.getElem_toArray, List.getElem_cons_succ, List.getElem_cons_zero])
      go_simp
      clear x1 xf xl
      refine hK.out _ (w9.setCell ⟨gt, 14 + who, none⟩ (.slice GD (log.length + 1) cD)) (fun h => absurd h (by decide)) ?_
      clear hK K
      refine wpAnyE_done (by kernel_rfl) ?_ _
      obtain ⟨hx10, hst10⟩ := HX10.out
      clear HX10
      replace hbt9 : B ≤ (w9.setCell ⟨gt, 14 + who, none⟩ (.slice GD (log.length + 1) cD)).heap.size := by simpa using hbt9
      generalize w9.setCell ⟨gt, 14 + who, none⟩ (.slice GD (log.length + 1) cD) = w10 at *
      generalize upV lv2 who (.slice GD (log.length + 1) cD) = lv10 at *
      rw [HS7.out.1] at hx10
      obtain ⟨t10, ht10⟩ : ∃ x, ({ t7 with seat := upS t7.seat who { (⟨⟨ok, oj, oa, ob⟩, log, fi, la, nx⟩ : SeatD) with log := log ++ [(had, gok)] } } : TabD) = x := ⟨_, rfl⟩
      rw [ht10] at hx10
      have hs10 : t10.seat who = ⟨⟨ok, oj, oa, ob⟩, log ++ [(had, gok)], fi, la, nx⟩ := by rw [← ht10]; exact upS_same _ _ _
      have hstep10 : t10.step = t.step := by rw [← ht10]; exact HS7.out.2.1
      have HS10 := Lib.hid (And.intro hs10 (And.intro hstep10 ht10))
      clear hs10 ht10
      go_upto_region 17 with fail
      refine wp_region_E (S := fun w' => Below w10.drew.heap.size w10.drew w') (E := fun i => i == 9) (by kernel_rfl) ?_
      have hbd := below_drew' (Below.refl w10.heap.size w10)
      replace hx10 := hx10.keep hbd
      replace hst10 : TStp B w w10.drew := hst10.trans (.of_below hbd hbt9)
      clear hbd
      generalize w10.drew = w11 at *
      have os := hx10.tab.cell 1
      have oc := (hx10.tab.cell (20 + who)).trans (tab_at (mv := mv7) (dv := dv2) (lv := lv10) (t := t10) hw).2.2.2.2.2.2.1
      simp at os
      rw [hstep10] at os
      refine wpAnyE_take (i := 0) (oi := _) (v := .pointer (some ⟨gt, 0, none⟩)) rfl (by kernel_rfl) (by kernel_rfl) (by kernel_rfl) (by kernel_rfl) (fun _ _ _ h => h) (Or.inl ⟨by rfl, ?_⟩) (Below.refl _ _) ?_
      · intro w' hSw
        (try simp only [List.getElem_toArray, List.getElem_cons_zero])
        go_simp
      (try simp only [List.getElem_toArray, List.getElem_cons_zero, Act.put, List.setIfInBounds_toArray, List.set_cons_zero, List.set_cons_succ])
      refine wpAnyE_take (i := 1) (oi := _) (v := .int .i64 (who : Nat)) rfl (by kernel_rfl) (by kernel_rfl) (by kernel_rfl) (by kernel_rfl) (fun _ _ _ h => h) (Or.inl ⟨by rfl, ?_⟩) (Below.refl _ _) ?_
      · intro w' hSw
        (try simp only [List.getElem_toArray, List.getElem_cons_succ, List.getElem_cons_zero])
        go_simp
      (try simp only [List.getElem_toArray, List.getElem_cons_succ, List.getElem_cons_zero, Act.put, List.setIfInBounds_toArray, List.set_cons_zero, List.set_cons_succ])
      refine wpAnyE_take (i := 2) (oi := _) (v := .pointer (some ⟨gt, 0, none⟩)) rfl (by kernel_rfl) (by kernel_rfl) (by kernel_rfl) (by kernel_rfl) (fun _ _ _ h => h) (Or.inl ⟨by rfl, ?_⟩) (Below.refl _ _) ?_
      · intro w' hSw
        (try simp only [List.getElem_toArray, List.getElem_cons_succ, List.getElem_cons_zero])
        go_simp
      (try simp only [List.getElem_toArray, List.getElem_cons_succ, List.getElem_cons_zero, Act.put, List.setIfInBounds_toArray, List.set_cons_zero, List.set_cons_succ])
      refine wpAnyE_take (i := 3) (oi := _) (v := .pointer (some ⟨gt, 0, none⟩)) rfl (by kernel_rfl) (by kernel_rfl) (by kernel_rfl) (by kernel_rfl) (fun _ _ _ h => h) (Or.inl ⟨by rfl, ?_⟩) (Below.refl _ _) ?_
      · intro w' hSw
        (try simp only [List.getElem_toArray, List.getElem_cons_succ, List.getElem_cons_zero])
        go_simp
      (try simp only [List.getElem_toArray, List.getElem_cons_succ, List.getElem_cons_zero, Act.put, List.setIfInBounds_toArray, List.set_cons_zero, List.set_cons_succ])
      refine wpAnyE_take (i := 4) (oi := _) (v := .pointer (some ⟨gt, 1, none⟩)) rfl (by kernel_rfl) (by kernel_rfl) (by kernel_rfl) (by kernel_rfl) (fun _ _ _ h => h) (Or.inl ⟨by rfl, ?_⟩) (Below.refl _ _) ?_
      · intro w' hSw
        (try simp only [List.getElem_toArray, List.getElem_cons_succ, List.getElem_cons_zero])
        go_simp
      (try simp only [List.getElem_toArray, List.getElem_cons_succ, List.getElem_cons_zero, Act.put, List.setIfInBounds_toArray, List.set_cons_zero, List.set_cons_succ])
      refine wpAnyE_take (i := 5) (oi := _) (v := .int .i64 (t.step : Nat)) rfl (by kernel_rfl) (by kernel_rfl) (by kernel_rfl) (by kernel_rfl) (fun _ _ _ h => h) (Or.inl ⟨by rfl, ?_⟩) (Below.refl _ _) ?_
      · intro w' hSw
        have s1 := cell_keep hSw os
        (try simp at s1)
        (try simp only [List.getElem_toArray, List.getElem_cons_succ, List.getElem_cons_zero])
        go_simp
      (try simp only [List.getElem_toArray, List.getElem_cons_succ, List.getElem_cons_zero, Act.put, List.setIfInBounds_toArray, List.set_cons_zero, List.set_cons_succ])
      refine wpAnyE_takeW (i := 6) (oi := _) (v := .pointer (some ⟨gt, 0, none⟩)) rfl (by kernel_rfl) (by kernel_rfl) (by kernel_rfl) (fun _ _ _ h => h) (Or.inl ⟨by rfl, ?_⟩) ?_
      · intro w' hSw
        clear hSw
        (try simp only [List.getElem_toArray, List.getElem_cons_succ, List.getElem_cons_zero])
        go_simp
      (try simp only [List.getElem_toArray, List.getElem_cons_succ, List.getElem_cons_zero, Act.put, List.setIfInBounds_toArray, List.set_cons_zero, List.set_cons_succ])
      refine wpAnyE_takeW (i := 7) (oi := _) (v := .pointer (some ⟨gt, 20, none⟩)) rfl (by kernel_rfl) (by kernel_rfl) (by kernel_rfl) (fun _ _ _ h => h) (Or.inl ⟨by rfl, ?_⟩) ?_
      · intro w' hSw
        clear hSw
        (try simp only [List.getElem_toArray, List.getElem_cons_succ, List.getElem_cons_zero])
        go_simp
      (try simp only [List.getElem_toArray, List.getElem_cons_succ, List.getElem_cons_zero, Act.put, List.setIfInBounds_toArray, List.set_cons_zero, List.set_cons_succ])
      refine wpAnyE_take (i := 8) (oi := _) (v := .pointer (some ⟨gt, 20 + who, none⟩)) rfl (by kernel_rfl) (by kernel_rfl) (by kernel_rfl) (by kernel_rfl) (fun _ _ _ h => h) (Or.inl ⟨by rfl, ?_⟩) (Below.refl _ _) ?_
      · intro w' hSw
        have g3 : (who : Int) < 3 := by omega
        (try simp only [List.getElem_toArray, List.getElem_cons_succ, List.getElem_cons_zero])
        go_simp
      (try simp only [List.getElem_toArray, List.getElem_cons_succ, List.getElem_cons_zero, Act.put, List.setIfInBounds_toArray, List.set_cons_zero, List.set_cons_succ])
      have yf := hx10.tab.free (20 + who)
      have yl := hx10.tab.lt
      have hx11 := hx10.last hw t.step
      have hst11 := hst10.trans (.set hBg hx10.tab (20 + who) (.int .i64 (t.step : Nat)))
      have HX11 := Lib.hid (And.intro hx11 hst11)
      clear hx11 hst11 hx10 hst10 os
      refine wpAnyE_one (i := 9) (o := _) (by kernel_rfl) rfl (fun K hK => ?_)
      (try simp only [List.getElem_toArray, List.getElem_cons_succ, List.getElem_cons_zero])
      go_simp
      clear yf yl oc
      refine hK.out _ (w11.setCell ⟨gt, 20 + who, none⟩ (.int .i64 (t.step : Nat))) (fun h => absurd h (by decide)) ?_
      clear hK K
      refine wpAnyE_done (by kernel_rfl) ?_ _
      obtain ⟨hx11, hst11⟩ := HX11.out
      clear HX11
      generalize w11.setCell ⟨gt, 20 + who, none⟩ (.int .i64 (t.step : Nat)) = w12 at *
      rw [HS10.out.1] at hx11
      have os : w12.cell? ⟨gt, 1, none⟩ = some (.int .i64 (t.step : Nat)) := by
        have h1 := hx11.tab.cell 1
        simp at h1
        rw [h1, HS10.out.2.1]
      have of := hx11.tab.free 1
      have ol := hx11.tab.lt
      have hx12 := hx11.step (t.step + 1)
      have hst12 := hst11.trans (.set hBg hx11.tab 1 (.int .i64 ((t.step + 1 : Nat) : Int)))
      have hfin : ({ ({ t10 with seat := upS t10.seat who { (⟨⟨ok, oj, oa, ob⟩, log ++ [(had, gok)], fi, la, nx⟩ : SeatD) with last := t.step } } : TabD) with step := t.step + 1 } : TabD) = turnD l p who t := by
        rw [HN2.out.1, ← HS10.out.2.2, ← HS7.out.2.2, ← HT2.out.2.2]
        simp only [upS_up]
      dsimp only at hx12 hfin
      rw [hfin] at hx12
      have HXF := Lib.hid (And.intro hx12 hst12)
      clear hx11 hst11 hx12 hst12 hfin hstep10
      have hw1 : IntKind.i64.wrap ((t.step : Int) + 1) = (t.step : Int) + 1 := IntWalk.i64_in _ (by omega)
      go_wp2_with fail
      refine bodyPost_ret (v := .tuple #[]) (results_none rfl _ _ _) rfl ?_
      exact ⟨rfl, ⟨_, _, _, HXF.out.1⟩, HXF.out.2⟩
end Go.Proofs.Ytdjglkpcdhkodaa
