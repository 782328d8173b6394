/- The table's program. Printed by prog_gen.py. -/
import Derived.Test.YtgjdjgainjedhaaEAcc
namespace Go.Proofs.Ytgjdjgainjedhaa
open Go.RowKit
set_option linter.unusedVariables false
attribute [local go_sem ↓] Go.wp_at_zero Go.wp_at_succ

def pgT : Nat → Nat | 14 => 37 | 15 => 22 | 16 => 38 | 17 => 39 | 18 => 40 | 19 => 11 | 20 => 12 | 21 => 90 | 22 => 91 | 23 => 13 | _ => 92

def AnsI (r : AnsE) (k c o v val : Int) (is : Bool) (err pt : Int) (dn : Bool) (g : Gone) : Prop :=
  match r with
  | .ask k' c' o' v' => (k = k' ∧ c = c' ∧ o = o' ∧ v = v') ∧ val = 0 ∧ is = false ∧ err = 0 ∧ pt = 0 ∧ dn = false ∧ g = []
  | .out val' is' err' pt' g' => (k = 0 ∧ c = 0 ∧ o = 0 ∧ v = 0) ∧ val = val' ∧ is = is' ∧ err = err' ∧ pt = pt' ∧ dn = true ∧ g = g'
theorem ansI_of (r : AnsE) : ∃ k c o v val is err pt dn g, AnsI r k c o v val is err pt dn g := by
  cases r with
  | ask k c o v => exact ⟨k, c, o, v, 0, false, 0, 0, false, [], ⟨rfl, rfl, rfl, rfl⟩, rfl, rfl, rfl, rfl, rfl, rfl⟩
  | out val is err pt g => exact ⟨0, 0, 0, 0, val, is, err, pt, true, g, ⟨rfl, rfl, rfl, rfl⟩, rfl, rfl, rfl, rfl, rfl, rfl⟩
theorem ansI_post {r : AnsE} {k c o v val : Int} {is : Bool} {err pt : Int} {dn : Bool} {g : Gone} (h : AnsI r k c o v val is err pt dn g) {w : World} {e : Ending} {w' : World} (hp : ENextPost r w e w') : ∃ G n c', e = .returned (.tuple #[.agg (accC k c o v), .agg (outG val is err pt (.slice G n c')), .bool dn]) ∧ (dn = true → GoneOk w' (.slice G n c') g) ∧ Below w.heap.size w w' := by
  cases r with
  | ask k' c' o' v' => obtain ⟨⟨rfl, rfl, rfl, rfl⟩, rfl, rfl, rfl, rfl, rfl, rfl⟩ := h; exact ⟨none, 0, 0, hp.1, (fun h => absurd h Bool.false_ne_true), hp.2⟩
  | out val' is' err' pt' g' => obtain ⟨⟨rfl, rfl, rfl, rfl⟩, rfl, rfl, rfl, rfl, rfl, rfl⟩ := h; obtain ⟨G, n, c, h1, h2, h3, h4, h5⟩ := hp; exact ⟨_, _, _, h4, fun _ => ⟨G, n, c, rfl, h1, h2, h3⟩, h5⟩
theorem ansI_postA {r : Ans} {gg : Gone} {k c o v val : Int} {is : Bool} {err pt : Int} {dn : Bool} {g : Gone} (h : AnsI (liftA gg r) k c o v val is err pt dn g) {w : World} {e : Ending} {w' : World} (hp : NextPost r gg w e w') : ∃ G n c', e = .returned (.tuple #[.agg (accC k c o v), .agg (outG val is err pt (.slice G n c')), .bool dn]) ∧ Below w.heap.size w w' := by
  cases r with
  | ask k' c' o' v' => obtain ⟨⟨rfl, rfl, rfl, rfl⟩, rfl, rfl, rfl, rfl, rfl, rfl⟩ := h; exact ⟨none, 0, 0, hp.1, hp.2⟩
  | out val' is' err' pt' => obtain ⟨⟨rfl, rfl, rfl, rfl⟩, rfl, rfl, rfl, rfl, rfl, rfl⟩ := h; obtain ⟨G, n, c, h1, h2, h3, h4, h5⟩ := hp; exact ⟨_, _, _, h4, h5⟩
theorem ansI_dn {r : AnsE} {k c o v val : Int} {is : Bool} {err pt : Int} {dn : Bool} {g : Gone} (h : AnsI r k c o v val is err pt dn g) : (dn = true ∧ r = .out val is err pt g) ∨ (dn = false ∧ r = .ask k c o v ∧ val = 0 ∧ is = false ∧ err = 0 ∧ pt = 0) := by
  cases r with
  | ask k' c' o' v' => obtain ⟨⟨rfl, rfl, rfl, rfl⟩, rfl, rfl, rfl, rfl, rfl, rfl⟩ := h; exact .inr ⟨rfl, rfl, rfl, rfl, rfl, rfl⟩
  | out val' is' err' pt' g' => obtain ⟨⟨rfl, rfl, rfl, rfl⟩, rfl, rfl, rfl, rfl, rfl, rfl⟩ := h; exact .inl ⟨rfl, rfl⟩
def EX (k c o v val : Int) (is : Bool) (err pt : Int) (dn : Bool) (g : Gone) (c1 c2 : Array Value) (v3 : Value) (w : World) : Prop :=
  ∃ G n c', (c1 = accC k c o v ∧ c2 = outG val is err pt (.slice G n c') ∧ v3 = .bool dn) ∧ (dn = true → GoneOk w (.slice G n c') g)
theorem eX_keep {k c o v val : Int} {is : Bool} {err pt : Int} {dn : Bool} {g : Gone} : ∀ (c1 c2 : Array Value) (v3 : Value) (w1 w2 : World), EX k c o v val is err pt dn g c1 c2 v3 w1 → (KeptT 61 w1 w2 ∨ KeptT 63 w1 w2 ∨ Below w1.heap.size w1 w2) → EX k c o v val is err pt dn g c1 c2 v3 w2 := by
  rintro c1 c2 v3 w1 w2 ⟨G, n, c', h1, h2⟩ hd
  refine ⟨G, n, c', h1, fun e => (h2 e).mv fun b cs kb => ?_⟩
  rcases hd with h | h | h
  · exact kb.keptT h (by decide)
  · exact kb.keptT h (by decide)
  · exact kb.keep h
/-- The answer that a step of a program has. -/
def ansP (l : Ly) (own : Bool) (who : Nat) (s : SeatE) : AnsE := if own then eraR l who s.op s.gone s.log else liftA s.gone (nextR l s.op s.log)
def ProgPost (gt gs who : Nat) (own : Bool) (t : TabE) (y : Stp3 × Option (Int × Bool × Gone)) (w : World) (e : Ending) (w' : World) : Prop :=
  (match y.2 with
  | some (val, is, g) => ∃ err pt G n c, e = .returned (.tuple #[.agg (outG val is err pt (.slice G n c)), .bool true]) ∧ (own = true → GoneOk w' (.slice G n c) g)
  | none => e = .returned (.tuple #[.agg outZ, .bool false])) ∧ TRep w' w'.heap.size gt gs ⟨y.1.m, t.seats.set who y.1.s, y.1.bad⟩ ∧ Stw gt gs w w'
theorem stw_row {gt gs : Nat} {w0 w : World} {g : Nat} {cs : Array Value} (h : Stw gt gs w0 w) (hg : w0.heap.size ≤ g) : Stw gt gs w0 (w.setRow g cs) :=
  ⟨h.os, h.tape, h.output, by have := h.size; simpa [World.setRow] using this, fun b hb hn hm => (setRow_other _ g b _ (by omega)).trans (h.block b hb hn hm)⟩
set_option maxRecDepth 1000000 in
set_option maxHeartbeats 16000000 in
theorem tprog_any {w : World} {B gt gs : Nat} {t : TabE} {who : Nat} {s : SeatE} (own : Bool) (l : Ly) (h : TRep w B gt gs t) (hs : t.seats[who]? = some s) (f : LyFull l) (hse : 1 ≤ l.c.seats ∧ l.c.seats ≤ 8) (hno : l.c.nodes ≤ 1000) (hw3 : t.seats.length ≤ 3) (hml : t.m.length ≤ 1000) (hll : s.log.length ≤ 1000) (hgl : s.gone.length ≤ 900) (hgb : ∀ x ∈ s.gone, x.1 ≤ 1000000) (hoa : s.op.a ≤ 1000000)
    (hbad : (progM l own who ⟨t.m, s, t.bad⟩).1.bad = false) :
    Calls Try.prog 56 #[ptr gt, lyV l, .int .i64 (who : Nat), .bool own] w (ProgPost gt gs who own t (progM l own who ⟨t.m, s, t.bad⟩) w) := by
  have hwl : who < t.seats.length := (List.getElem?_eq_some_iff.1 hs).1
  obtain ⟨y, hy⟩ : ∃ y, progM l own who ⟨t.m, s, t.bad⟩ = y := ⟨_, rfl⟩
  rw [hy] at hbad ⊢
  have HY := Lib.hid (And.intro hy hbad)
  have HF := Lib.hid (And.intro f (And.intro hse (And.intro hno (And.intro hgb hs))))
  have hba := below_al (below_al (Below.refl w.heap.size w) (.cells (lyC l) 40)) (.cells outZ 63)
  have hx := h.top.keep hba
  have hst : Stw gt gs w _ := Stw.of_below hba
  have kL := (Bk.made w 40 (lyC l)).alloc (.cells outZ 63)
  have k8 := Bk.new (w.alloc (.cells (lyC l) 40)) (g := w.heap.size + 1) (by simp) 63 outZ
  have hgt : gt < w.heap.size ∧ gs < w.heap.size := by
    obtain ⟨_, _, _, k, _⟩ := h.mem
    obtain ⟨_, k2, _⟩ := h.sts
    exact ⟨k.lt, k2.lt⟩
  clear h f hse hno hgb hs hy hbad hba
  go_enter Try.func56, Try.ntmps56
  go_upto_region 1 with fail
  generalize (w.alloc (.cells (lyC l) 40)).alloc (.cells outZ 63) = w4 at *
  obtain ⟨bL, hbL⟩ : ∃ g, w.heap.size = g := ⟨_, rfl⟩
  obtain ⟨b8, hb8⟩ : ∃ g, w.heap.size + 1 = g := ⟨_, rfl⟩
  have HB := Lib.hid (And.intro hbL hb8)
  rw [hb8] at k8 ⊢
  rw [hbL] at kL ⊢
  have hbb : gt < bL ∧ gs < bL ∧ bL < b8 := by omega
  clear hbL hb8
  obtain ⟨gM, cM, cc, kT, hmo⟩ := hx.mem
  have c1 := kT.cell 1
  have lT := kT.lt
  simp at c1
  have hwi : (who : Int) < t.seats.length := by omega
  clear hmo
  go_upto_region 2 with fail
  clear c1 lT kT
  refine wp_region_E (S := fun w' => Below w4.drew.heap.size w4.drew w') (E := fun _ => false) (by kernel_rfl) ?_
  have hbd := below_drew' (Below.refl w4.heap.size w4)
  replace hx := hx.keep hbd
  replace hst := hst.trans (Stw.of_below hbd)
  replace kL := kL.keep hbd
  replace k8 := k8.keep hbd
  clear hbd
  generalize w4.drew = w5 at *
  obtain ⟨lv, gv0, sv⟩ := hx.seat HF.out.2.2.2.2
  obtain ⟨GL, cL, rfl, hlo, -⟩ := sv.log
  obtain ⟨GG, nG, cG, rfl, hgn, hgi, hgp⟩ := sv.gone
  have o3 := sv.cells 3 _ rfl
  have o4 := sv.cells 4 _ rfl
  have o5 := sv.cells 5 _ rfl
  have o6 := sv.cells 6 _ rfl
  have o7 := sv.cells 7 _ rfl
  have o10 := sv.cells 10 _ rfl
  have HG := Lib.hid (And.intro hlo (And.intro hgn (And.intro hgi hgp)))
  clear hlo hgn hgi hgp sv
  obtain ⟨ek, ec, eo, ev, eval, eis, eerr, ept, edn, eg, hEI⟩ := ansI_of (eraR l who s.op s.gone s.log)
  have HEI := Lib.hid hEI
  clear hEI
  refine wpAnyE_take (i := 0) (oi := _) (v := .agg (lyC l)) rfl (by kernel_rfl) (by kernel_rfl) (by kernel_rfl) (by kernel_rfl) (fun _ _ _ h => h) (Or.inl ⟨by rfl, ?_⟩) (Below.refl _ _) ?_
  · intro w' hSw
    (try simp only [List.getElem_toArray, List.getElem_cons_zero])
    simp only [execOp, Instr.loadAt, Instr.sureAddr, Sem.run_bind, Sem.run_pure]
    rw [show (Act.eval _ (Operand.tmp 5)) = Value.pointer (some ⟨bL, 0, none⟩) from rfl]
    simp only [Sem.run_pure, Result.andThen_ok, run_loadVar_row w' bL 40 40 (lyC l) (0, 0) _ (kL.keep hSw) Try.underlying40 rfl (by kernel_rfl)]
  (try simp only [List.getElem_toArray, List.getElem_cons_zero, Act.put, List.setIfInBounds_toArray, List.set_cons_zero, List.set_cons_succ])
  refine wpAnyE_take (i := 1) (oi := _) (v := .int .i64 (who : Nat)) rfl (by kernel_rfl) (by kernel_rfl) (by kernel_rfl) (by kernel_rfl) (fun _ _ _ h => h) (Or.inl ⟨by rfl, ?_⟩) (Below.refl _ _) ?_
  · intro w' hSw
    (try simp only [List.getElem_toArray, List.getElem_cons_succ, List.getElem_cons_zero])
    go_simp
  (try simp only [List.getElem_toArray, List.getElem_cons_succ, List.getElem_cons_zero, Act.put, List.setIfInBounds_toArray, List.set_cons_zero, List.set_cons_succ])
  refine wpAnyE_take (i := 2) (oi := _) (v := .pointer (some ⟨gs, who * 11, none⟩)) rfl (by kernel_rfl) (by kernel_rfl) (by kernel_rfl) (by kernel_rfl) (fun _ _ _ h => h) (Or.inl ⟨by rfl, ?_⟩) (Below.refl _ _) ?_
  · intro w' hSw
    (try simp only [List.getElem_toArray, List.getElem_cons_succ, List.getElem_cons_zero])
    go_simp
  (try simp only [List.getElem_toArray, List.getElem_cons_succ, List.getElem_cons_zero, Act.put, List.setIfInBounds_toArray, List.set_cons_zero, List.set_cons_succ])
  refine wpAnyE_take (i := 3) (oi := _) (v := .pointer (some ⟨gs, who * 11, none⟩)) rfl (by kernel_rfl) (by kernel_rfl) (by kernel_rfl) (by kernel_rfl) (fun _ _ _ h => h) (Or.inl ⟨by rfl, ?_⟩) (Below.refl _ _) ?_
  · intro w' hSw
    (try simp only [List.getElem_toArray, List.getElem_cons_succ, List.getElem_cons_zero])
    go_simp
  (try simp only [List.getElem_toArray, List.getElem_cons_succ, List.getElem_cons_zero, Act.put, List.setIfInBounds_toArray, List.set_cons_zero, List.set_cons_succ])
  refine wpAnyE_take (i := 4) (oi := _) (v := .pointer (some ⟨gs, who * 11 + 10, none⟩)) rfl (by kernel_rfl) (by kernel_rfl) (by kernel_rfl) (by kernel_rfl) (fun _ _ _ h => h) (Or.inl ⟨by rfl, ?_⟩) (Below.refl _ _) ?_
  · intro w' hSw
    (try simp only [List.getElem_toArray, List.getElem_cons_succ, List.getElem_cons_zero])
    go_simp
  (try simp only [List.getElem_toArray, List.getElem_cons_succ, List.getElem_cons_zero, Act.put, List.setIfInBounds_toArray, List.set_cons_zero, List.set_cons_succ])
  refine wpAnyE_take (i := 5) (oi := _) (v := .slice GG nG cG) rfl (by kernel_rfl) (by kernel_rfl) (by kernel_rfl) (by kernel_rfl) (fun _ _ _ h => h) (Or.inl ⟨by rfl, ?_⟩) (Below.refl _ _) ?_
  · intro w' hSw
    have s10 := cell_keep hSw o10
    (try simp at s10)
    (try simp only [List.getElem_toArray, List.getElem_cons_succ, List.getElem_cons_zero])
    go_simp
  (try simp only [List.getElem_toArray, List.getElem_cons_succ, List.getElem_cons_zero, Act.put, List.setIfInBounds_toArray, List.set_cons_zero, List.set_cons_succ])
  refine wpAnyE_take (i := 6) (oi := _) (v := .pointer (some ⟨gs, who * 11, none⟩)) rfl (by kernel_rfl) (by kernel_rfl) (by kernel_rfl) (by kernel_rfl) (fun _ _ _ h => h) (Or.inl ⟨by rfl, ?_⟩) (Below.refl _ _) ?_
  · intro w' hSw
    (try simp only [List.getElem_toArray, List.getElem_cons_succ, List.getElem_cons_zero])
    go_simp
  (try simp only [List.getElem_toArray, List.getElem_cons_succ, List.getElem_cons_zero, Act.put, List.setIfInBounds_toArray, List.set_cons_zero, List.set_cons_succ])
  refine wpAnyE_take (i := 7) (oi := _) (v := .pointer (some ⟨gs, who * 11, none⟩)) rfl (by kernel_rfl) (by kernel_rfl) (by kernel_rfl) (by kernel_rfl) (fun _ _ _ h => h) (Or.inl ⟨by rfl, ?_⟩) (Below.refl _ _) ?_
  · intro w' hSw
    (try simp only [List.getElem_toArray, List.getElem_cons_succ, List.getElem_cons_zero])
    go_simp
  (try simp only [List.getElem_toArray, List.getElem_cons_succ, List.getElem_cons_zero, Act.put, List.setIfInBounds_toArray, List.set_cons_zero, List.set_cons_succ])
  refine wpAnyE_take (i := 8) (oi := _) (v := .pointer (some ⟨gs, who * 11 + 3, none⟩)) rfl (by kernel_rfl) (by kernel_rfl) (by kernel_rfl) (by kernel_rfl) (fun _ _ _ h => h) (Or.inl ⟨by rfl, ?_⟩) (Below.refl _ _) ?_
  · intro w' hSw
    (try simp only [List.getElem_toArray, List.getElem_cons_succ, List.getElem_cons_zero])
    go_simp
  (try simp only [List.getElem_toArray, List.getElem_cons_succ, List.getElem_cons_zero, Act.put, List.setIfInBounds_toArray, List.set_cons_zero, List.set_cons_succ])
  refine wpAnyE_take (i := 9) (oi := _) (v := .agg #[.int .i64 s.op.kind, .int .i64 s.op.obj, .int .i64 s.op.a, .int .i64 s.op.b]) rfl (by kernel_rfl) (by kernel_rfl) (by kernel_rfl) (by kernel_rfl) (fun _ _ _ h => h) (Or.inl ⟨by rfl, ?_⟩) (Below.refl _ _) ?_
  · intro w' hSw
    have s3 := cell_keep hSw o3
    have s4 := cell_keep hSw o4
    have s5 := cell_keep hSw o5
    have s6 := cell_keep hSw o6
    (try simp at s3 s4 s5 s6)
    (try simp only [List.getElem_toArray, List.getElem_cons_succ, List.getElem_cons_zero])
    go_simp
  (try simp only [List.getElem_toArray, List.getElem_cons_succ, List.getElem_cons_zero, Act.put, List.setIfInBounds_toArray, List.set_cons_zero, List.set_cons_succ])
  refine wpAnyE_take (i := 10) (oi := _) (v := .pointer (some ⟨gs, who * 11, none⟩)) rfl (by kernel_rfl) (by kernel_rfl) (by kernel_rfl) (by kernel_rfl) (fun _ _ _ h => h) (Or.inl ⟨by rfl, ?_⟩) (Below.refl _ _) ?_
  · intro w' hSw
    (try simp only [List.getElem_toArray, List.getElem_cons_succ, List.getElem_cons_zero])
    go_simp
  (try simp only [List.getElem_toArray, List.getElem_cons_succ, List.getElem_cons_zero, Act.put, List.setIfInBounds_toArray, List.set_cons_zero, List.set_cons_succ])
  refine wpAnyE_take (i := 11) (oi := _) (v := .pointer (some ⟨gs, who * 11, none⟩)) rfl (by kernel_rfl) (by kernel_rfl) (by kernel_rfl) (by kernel_rfl) (fun _ _ _ h => h) (Or.inl ⟨by rfl, ?_⟩) (Below.refl _ _) ?_
  · intro w' hSw
    (try simp only [List.getElem_toArray, List.getElem_cons_succ, List.getElem_cons_zero])
    go_simp
  (try simp only [List.getElem_toArray, List.getElem_cons_succ, List.getElem_cons_zero, Act.put, List.setIfInBounds_toArray, List.set_cons_zero, List.set_cons_succ])
  refine wpAnyE_take (i := 12) (oi := _) (v := .pointer (some ⟨gs, who * 11 + 7, none⟩)) rfl (by kernel_rfl) (by kernel_rfl) (by kernel_rfl) (by kernel_rfl) (fun _ _ _ h => h) (Or.inl ⟨by rfl, ?_⟩) (Below.refl _ _) ?_
  · intro w' hSw
    (try simp only [List.getElem_toArray, List.getElem_cons_succ, List.getElem_cons_zero])
    go_simp
  (try simp only [List.getElem_toArray, List.getElem_cons_succ, List.getElem_cons_zero, Act.put, List.setIfInBounds_toArray, List.set_cons_zero, List.set_cons_succ])
  refine wpAnyE_take (i := 13) (oi := _) (v := .slice GL s.log.length cL) rfl (by kernel_rfl) (by kernel_rfl) (by kernel_rfl) (by kernel_rfl) (fun _ _ _ h => h) (Or.inl ⟨by rfl, ?_⟩) (Below.refl _ _) ?_
  · intro w' hSw
    have s7 := cell_keep hSw o7
    (try simp at s7)
    (try simp only [List.getElem_toArray, List.getElem_cons_succ, List.getElem_cons_zero])
    go_simp
  (try simp only [List.getElem_toArray, List.getElem_cons_succ, List.getElem_cons_zero, Act.put, List.setIfInBounds_toArray, List.set_cons_zero, List.set_cons_succ])
  refine wpAnyE_dag (U := [14, 15, 16, 17, 18, 19, 20, 21, 22, 23]) (tmp := pgT) (pre := c3P 14) (T := fun w' => Below w5.heap.size w5 w') (N := fun _ _ => True) (G := c3G 14 w5.heap.size 61 63) (R := c3R 14 w5.heap.size 61 63 accZ outZ (EX ek ec eo ev eval eis eerr ept edn eg)) (by kernel_rfl) (fun _ _ => rfl) (fun w2 h => h) (Below.refl _ _) (fun i hi w3 w4 h1 h2 => c3T_keep h1 h2) (fun _ _ => trivial) (fun _ _ _ _ _ _ _ _ _ _ => trivial)
    (fun i hi j hj hij vals v u w3 w4 hT hvi hvj hp hr hg => c3R_keep (by decide) eX_keep hij hvi hvj hr hg) (fun i hi o ho vals w3 K hvn hT _ hpre hK => ?_) 0 (fun vals w6 hall hT => ?_)
  · simp only [List.mem_cons, List.not_mem_nil, or_false] at hi
    rcases hi with rfl | rfl | rfl | rfl | rfl | rfl | rfl | rfl | rfl | rfl
    · obtain rfl := Option.some.inj ho
      simp only [show c3P 14 14 = [] from rfl, actOf] at hK ⊢
      go_simp
      (with_reducible refine (enext_any l who s.op GG nG cG s.gone GL cL s.log _ HF.out.1 HF.out.2.1 HF.out.2.2.1 HG.out.2.1 HG.out.2.2.1 ((HG.out.2.2.2.sl.below hT).more hT.size) hgl HF.out.2.2.2.1 (((own_slRes HG.out.1).below hT).more hT.size) hll).mono ?_)
      intro e w6 hpost
      obtain ⟨GV, nV, cV, rfl, hgo, hb⟩ := ansI_post HEI.out hpost
      exact hK _ _ ⟨_, _, _, rfl, GV, nV, cV, ⟨rfl, rfl, rfl⟩, hgo⟩ hb
    · obtain rfl := Option.some.inj ho
      obtain ⟨v0, e0, d1, d2, d3, rfl, hX0⟩ := hpre 14 (by simp [c3P])
      simp only [show c3P 14 15 = [14] from rfl, actOf, e0, pgT] at hK ⊢
      go_simp
      exact hK _ _ ⟨d1, d2, d3, rfl, by simp only [upd]; exact e0⟩ (Below.refl _ _)
    · obtain rfl := Option.some.inj ho
      obtain ⟨v1, e1, d1, d2, d3, rfl, e0⟩ := hpre 15 (by simp [c3P])
      simp only [show c3P 14 16 = [15] from rfl, actOf, e1, pgT] at hK ⊢
      go_simp
      exact hK _ _ ⟨d1, d2, d3, by simp only [upd]; exact e0, rfl⟩ (Below.refl _ _)
    · obtain rfl := Option.some.inj ho
      obtain ⟨v1, e1, d1, d2, d3, rfl, e0⟩ := hpre 15 (by simp [c3P])
      simp only [show c3P 14 17 = [15] from rfl, actOf, e1, pgT] at hK ⊢
      go_simp
      exact hK _ _ ⟨d1, d2, d3, by simp only [upd]; exact e0, rfl⟩ (Below.refl _ _)
    · obtain rfl := Option.some.inj ho
      obtain ⟨v1, e1, d1, d2, d3, rfl, e0⟩ := hpre 15 (by simp [c3P])
      simp only [show c3P 14 18 = [15] from rfl, actOf, e1, pgT] at hK ⊢
      go_simp
      exact hK _ _ ⟨d1, d2, d3, by simp only [upd]; exact e0, rfl⟩ (Below.refl _ _)
    · obtain rfl := Option.some.inj ho
      simp only [show c3P 14 19 = [] from rfl, actOf] at hK ⊢
      go_simp
      exact hK _ _ ⟨_, rfl, hT.size, fun _ => Bk.made _ _ _⟩ (below_al (Below.refl _ _) _)
    · obtain rfl := Option.some.inj ho
      simp only [show c3P 14 20 = [] from rfl, actOf] at hK ⊢
      go_simp
      exact hK _ _ ⟨_, rfl, hT.size, fun _ => Bk.made _ _ _⟩ (below_al (Below.refl _ _) _)
    · obtain rfl := Option.some.inj ho
      obtain ⟨v0, e0, d1, d2, d3, rfl, hX0⟩ := hpre 14 (by simp [c3P])
      obtain ⟨v2, e2, f1, f2, f3, e2', rfl⟩ := hpre 16 (by simp [c3P])
      rw [e0] at e2'
      obtain ⟨rfl, rfl, rfl⟩ := tup3_inj e2'
      obtain ⟨v5, e5, ga, rfl, hga, k5⟩ := hpre 19 (by simp [c3P])
      have ka := k5 hvn
      obtain ⟨GV, nV, cV, ⟨rfl, rfl, rfl⟩, hgo⟩ := hX0
      simp only [show c3P 14 21 = [14, 16, 19] from rfl, actOf, e0, e2, e5, pgT] at hK ⊢
      (try simp only [List.getElem_toArray, List.getElem_cons_succ, List.getElem_cons_zero])
      refine wp_store_row 61 (.tmp 11) (.tmp 38) rfl ga _ rfl rfl 61 accZ ka (by kernel_rfl) rfl (by simp [Value.oneCell']) ?_
      exact hK undef _ ⟨ga, _, _, _, by simp only [upd]; exact e0, by simp only [upd]; exact e5, hga, setRow_heap _ _ _ _ _ _ ka⟩ ⟨keptT_row ka, below_setRowB' hga _⟩
    · obtain rfl := Option.some.inj ho
      obtain ⟨v0, e0, d1, d2, d3, rfl, hX0⟩ := hpre 14 (by simp [c3P])
      obtain ⟨v2, e2, f1, f2, f3, e2', rfl⟩ := hpre 17 (by simp [c3P])
      rw [e0] at e2'
      obtain ⟨rfl, rfl, rfl⟩ := tup3_inj e2'
      obtain ⟨v5, e5, ga, rfl, hga, k5⟩ := hpre 20 (by simp [c3P])
      have ka := k5 hvn
      obtain ⟨GV, nV, cV, ⟨rfl, rfl, rfl⟩, hgo⟩ := hX0
      simp only [show c3P 14 22 = [14, 17, 20] from rfl, actOf, e0, e2, e5, pgT] at hK ⊢
      (try simp only [List.getElem_toArray, List.getElem_cons_succ, List.getElem_cons_zero])
      refine wp_store_row 63 (.tmp 12) (.tmp 39) rfl ga _ rfl rfl 63 outZ ka (by kernel_rfl) rfl (by simp [Value.oneCell']) ?_
      exact hK undef _ ⟨ga, _, _, _, by simp only [upd]; exact e0, by simp only [upd]; exact e5, hga, setRow_heap _ _ _ _ _ _ ka⟩ ⟨keptT_row ka, below_setRowB' hga _⟩
    · obtain rfl := Option.some.inj ho
      obtain ⟨v4, e4, f1, f2, f3, e4', rfl⟩ := hpre 18 (by simp [c3P])
      simp only [show c3P 14 23 = [18] from rfl, actOf, e4, pgT] at hK ⊢
      go_simp
      exact hK _ _ ⟨_, _, _, by simp only [upd]; exact e4', rfl⟩ (Below.refl _ _)
  obtain ⟨v0, e0, d1, d2, d3, rfl, hX0⟩ := hall 14 (by simp)
  obtain ⟨v1, e1, f1, f2, f3, rfl, e1'⟩ := hall 15 (by simp)
  rw [e0] at e1'
  obtain ⟨rfl, rfl, rfl⟩ := tup3_inj e1'
  obtain ⟨v2, e2, f1, f2, f3, e2', rfl⟩ := hall 16 (by simp)
  rw [e0] at e2'
  obtain ⟨rfl, rfl, rfl⟩ := tup3_inj e2'
  obtain ⟨v3, e3, f1, f2, f3, e2', rfl⟩ := hall 17 (by simp)
  rw [e0] at e2'
  obtain ⟨rfl, rfl, rfl⟩ := tup3_inj e2'
  obtain ⟨v4, e4, f1, f2, f3, e2', rfl⟩ := hall 18 (by simp)
  rw [e0] at e2'
  obtain ⟨rfl, rfl, rfl⟩ := tup3_inj e2'
  obtain ⟨v5, e5, ga0, rfl, hga0, -⟩ := hall 19 (by simp)
  obtain ⟨v6, e6, ga1, rfl, hga1, -⟩ := hall 20 (by simp)
  obtain ⟨v7, e7, gb0, f1, f2, f3, e2', e3', -, kb0⟩ := hall 21 (by simp)
  rw [e0] at e2'
  obtain ⟨rfl, rfl, rfl⟩ := tup3_inj e2'
  rw [e5] at e3'
  obtain rfl := ptr_inj e3'
  obtain ⟨v8, e8, gb1, f1, f2, f3, e2', e3', -, kb1⟩ := hall 22 (by simp)
  rw [e0] at e2'
  obtain ⟨rfl, rfl, rfl⟩ := tup3_inj e2'
  rw [e6] at e3'
  obtain rfl := ptr_inj e3'
  obtain ⟨v9, e9, f1, f2, f3, e2', rfl⟩ := hall 23 (by simp)
  rw [e0] at e2'
  obtain ⟨rfl, rfl, rfl⟩ := tup3_inj e2'
  clear hall
  refine wpAnyE_done (by simp only [lstOf, e0, e1, e2, e3, e4, e5, e6, e7, e8, e9, Option.isSome_some, if_true]; kernel_rfl) ?_ _
  simp only [actOf, e0, e1, e2, e3, e4, e5, e6, e7, e8, e9, pgT]
  clear e0 e1 e2 e3 e4 e5 e6 e7 e8 e9
  (try simp only [Act.put, List.setIfInBounds_toArray, List.set_cons_zero, List.set_cons_succ, List.set_nil])
  obtain ⟨GV, nV, cV, ⟨rfl, rfl, rfl⟩, hgo⟩ := hX0
  have hz5 : w.heap.size ≤ ga0 ∧ w.heap.size ≤ ga1 := ⟨Nat.le_trans hst.size hga0, Nat.le_trans hst.size hga1⟩
  have hne8 : b8 ≠ ga1 := by have := k8.lt; omega
  replace hx := hx.keep hT
  replace hst := hst.trans (Stw.of_below hT)
  replace kL := kL.keep hT
  replace k8 := k8.keep hT
  have HG6 := Lib.hid (And.intro (show OwnRes w6 0 (.slice GL s.log.length cL) s.log from own_keepb' (show World.ownsRow w5 0 67 2 (.slice GL s.log.length cL) s.log.length (resCells s.log) from HG.out.1) hT) (And.intro HG.out.2.1 (And.intro HG.out.2.2.1 (HG.out.2.2.2.keep hT))))
  replace o3 := cell_keep hT o3
  replace o4 := cell_keep hT o4
  replace o5 := cell_keep hT o5
  replace o6 := cell_keep hT o6
  replace o7 := cell_keep hT o7
  replace o10 := cell_keep hT o10
  clear hT HG
  cases own with
  | true =>
    have HA := Lib.hid (show AnsI (ansP l true who s) ek ec eo ev eval eis eerr ept edn eg from HEI.out)
    have HGV := Lib.hid (show (edn = true → true = true → GoneOk w6 (.slice GV nV cV) eg) from fun h _ => hgo h)
    clear HEI hgo
    have hgl9 := hx.seat HF.out.2.2.2.2
    have f7 : w6.frozen? ⟨gs, who * 11 + 7, none⟩ = false := by obtain ⟨_, _, sv⟩ := hgl9; exact sv.free 7
    have lS : gs < w6.heap.size := by obtain ⟨_, _, sv⟩ := hgl9; exact sv.lt
    clear hgl9
    cases edn with
    | true =>
      have hr : ansP l true who s = .out eval eis eerr ept eg := by
        rcases ansI_dn HA.out with h1 | h1
        · exact h1.2
        · cases h1.1
      have hyy : y = (⟨t.m, { s with log := [] }, t.bad⟩, some (eval, eis, eg)) := by
        rw [← HY.out.1]
        unfold progM
        dsimp only
        unfold ansP at hr
        rw [hr]
      have HYY := Lib.hid hyy
      clear hr hyy HA
      have hx1 := hx.upd HF.out.2.2.2.2 (j := 7) (s' := { s with log := [] }) (v := (.slice none 0 0)) (by decide) (fun lv gv h1 h2 => ⟨.slice none 0 0, gv, rfl, ⟨none, 0, rfl, World.ownsRow_nil _ _ _ _, fun a h => by cases h⟩, h2⟩)
      have hst1 := hst.trans (Stw.setS w6 (who * 11 + 7) (.slice none 0 0))
      have kb11 := kb1.other (p := ⟨gs, who * 11 + 7, none⟩) (by dsimp only; omega) (.slice none 0 0)
      have k81 := k8.other (p := ⟨gs, who * 11 + 7, none⟩) (by dsimp only; omega) (.slice none 0 0)
      have hg1 : true = true → GoneOk (w6.setCell ⟨gs, who * 11 + 7, none⟩ (.slice none 0 0)) (.slice GV nV cV) eg := fun h => (HGV.out rfl h).mv fun b cs kb => kb.other (p := ⟨gs, who * 11 + 7, none⟩) (by
        obtain ⟨_, k2, _⟩ := hx.sts
        exact bk_neT kb k2 (by decide)) _
      have HX := Lib.hid (And.intro hx1 (And.intro hst1 (And.intro kb11 (And.intro k81 hg1))))
      clear hx1 hst1 kb11 k81 hg1 hx hst kb0 kb1 k8 HGV
      go_upto_region 7 with fail
      clear o7 f7 lS
      show Code.wp Try.prog _ _ _ (w6.setCell ⟨gs, who * 11 + 7, none⟩ (.slice none 0 0))
      obtain ⟨hx, hst, kb1, k8, hgv⟩ := HX.out
      clear HX
      generalize w6.setCell ⟨gs, who * 11 + 7, none⟩ (.slice none 0 0) = wa at *
      have hxf := (hx.row (cs := (outG eval eis eerr ept (.slice GV nV cV))) k8 (.inl (by unfold OurT; decide))).top
      have hstf := stw_row (cs := (outG eval eis eerr ept (.slice GV nV cV))) hst (g := b8) (by have := HB.out; omega)
      have hgf : true = true → GoneOk (wa.setRow b8 (outG eval eis eerr ept (.slice GV nV cV))) (.slice GV nV cV) eg := fun h => (hgv h).mv fun b cs kb => (setRow_other _ b8 b _ (bk_neT kb k8 (by decide))).trans kb
      have kf := setRow_heap _ _ outZ (outG eval eis eerr ept (.slice GV nV cV)) 63 (0, 0) k8
      clear hx hst hgv
      go_wp2_with (first
        | (refine wpList_load_row rfl 63 (.tmp 12) rfl ga1 rfl 63 (outG eval eis eerr ept (.slice GV nV cV)) (0, 0) _ kb1 Try.underlying63 rfl (by kernel_rfl) ?_)
        | (refine wpList_store_rowTo rfl 63 (.tmp 8) (.tmp 66) rfl rfl b8 (outG eval eis eerr ept (.slice GV nV cV)) rfl rfl 63 outZ k8 (by kernel_rfl) rfl (by simp [Value.oneCell']) ?_))
      refine bodyPost_ret (v := .tuple #[.agg (outG eval eis eerr ept (.slice GV nV cV)), .bool true]) (results_cell_tmp (p := 8) (t := 9) (ty := 63) rfl _ _ b8 63 (outG eval eis eerr ept (.slice GV nV cV)) (0, 0) _ (.bool true) rfl rfl kf Try.underlying63 rfl (by kernel_rfl)) rfl ?_
      rw [HYY.out]
      exact ⟨⟨eerr, ept, GV, nV, cV, rfl, fun h => by first | exact hgf h | exact hgf trivial | cases h⟩, hxf, hstf⟩
    | false =>
      have hr : ansP l true who s = .ask ek ec eo ev := by
        rcases ansI_dn HA.out with h1 | h1
        · cases h1.1
        · exact h1.2.1
      have he : (⟨ek, ec, eo, ev⟩ : Acc).err t.m.length = 0 := by
        by_cases he : (⟨ek, ec, eo, ev⟩ : Acc).err t.m.length = 0
        · exact he
        · have h1 := HY.out.2
          rw [← HY.out.1] at h1
          unfold progM at h1
          dsimp only at h1
          unfold ansP at hr
          rw [hr] at h1
          dsimp only at h1
          unfold accM at h1
          rw [if_neg he] at h1
          cases h1
      have hyy : y = (⟨(⟨ek, ec, eo, ev⟩ : Acc).make t.m, { s with log := s.log ++ [((⟨ek, ec, eo, ev⟩ : Acc).had t.m, (⟨ek, ec, eo, ev⟩ : Acc).ok ((⟨ek, ec, eo, ev⟩ : Acc).had t.m))] }, t.bad⟩, none) := by
        rw [← HY.out.1]
        unfold progM
        dsimp only
        unfold ansP at hr
        rw [hr]
        dsimp only
        unfold accM
        rw [if_pos he]
        rfl
      have HYY := Lib.hid hyy
      clear hr hyy HA HGV f7 lS o7
      go_wp2_with (refine wpList_load_row rfl 61 (.tmp 11) rfl ga0 rfl 61 (accC ek ec eo ev) (0, 0) _ kb0 Try.underlying61 rfl (by kernel_rfl) ?_)
      (with_reducible refine (access_any hx (by have := HB.out; have := k8.lt; omega) ek ec eo ev hml he).mono ?_)
      rintro e wb ⟨rfl, hx, hst2⟩
      replace hst := hst.trans hst2.weak
      replace k8 := hst2.keep k8 (by omega) (by omega)
      clear kb0 kb1 hst2 he
      obtain ⟨had, hhad⟩ : ∃ z, (⟨ek, ec, eo, ev⟩ : Acc).had t.m = z := ⟨_, rfl⟩
      obtain ⟨gok, hgok⟩ : ∃ z, (⟨ek, ec, eo, ev⟩ : Acc).ok had = z := ⟨_, rfl⟩
      obtain ⟨mm, hmm⟩ : ∃ z, (⟨ek, ec, eo, ev⟩ : Acc).make t.m = z := ⟨_, rfl⟩
      have hyy := HYY.out
      rw [hhad, hgok, hmm] at hyy
      rw [hmm] at hx
      rw [hhad, hgok]
      have HYZ := Lib.hid hyy
      clear HYY hyy hhad hgok hmm
      go_upto_region 10 with (refine wpList_store_new rfl 67 (.tmp 14) (.tmp 71) rfl rfl wb.heap.size _ _ #[.int .i64 had, .bool gok] rfl rfl rfl rfl (by kernel_rfl) rfl (by simp [Value.oneCell']) ?_)
      have kR := Bk.made wb 67 #[.int .i64 had, .bool gok]
      have hba := below_al (Below.refl wb.heap.size wb) (.cells #[.int .i64 had, .bool gok] 67)
      have hzb : b8 < wb.heap.size := k8.lt
      replace hx := hx.keep hba
      replace hst := hst.trans (Stw.of_below hba)
      replace k8 := k8.keep hba
      clear hba
      generalize wb.alloc (.cells #[.int .i64 had, .bool gok] 67) = wc at *
      generalize wb.heap.size = b14 at *
      refine wp_region_E (S := fun w' => Below wc.drew.heap.size wc.drew w') (E := fun i => i == 12) (by kernel_rfl) ?_
      have hbd := below_drew' (Below.refl wc.heap.size wc)
      replace hx := hx.keep hbd
      replace hst := hst.trans (Stw.of_below hbd)
      replace k8 := k8.keep hbd
      replace kR := kR.keep hbd
      clear hbd
      generalize wc.drew = wd at *
      obtain ⟨lv2, gv2, sv⟩ := hx.seat HF.out.2.2.2.2
      obtain ⟨G7, c7, rfl, hown, -⟩ := sv.log
      have o7 := sv.cells 7 _ rfl
      have f7 := sv.free 7
      have lS := sv.lt
      clear sv
      obtain ⟨ri, hri⟩ := res_rowT
      refine wpAnyE_take (i := 0) (oi := _) (v := .pointer (some ⟨gs, who * 11, none⟩)) rfl (by kernel_rfl) (by kernel_rfl) (by kernel_rfl) (by kernel_rfl) (fun _ _ _ h => h) (Or.inl ⟨by rfl, ?_⟩) (Below.refl _ _) ?_
      · intro w' hSw
        (try simp only [List.getElem_toArray, List.getElem_cons_zero])
        go_simp
      (try simp only [List.getElem_toArray, List.getElem_cons_zero, Act.put, List.setIfInBounds_toArray, List.set_cons_zero, List.set_cons_succ])
      refine wpAnyE_take (i := 2) (oi := _) (v := .pointer (some ⟨gs, who * 11, none⟩)) rfl (by kernel_rfl) (by kernel_rfl) (by kernel_rfl) (by kernel_rfl) (fun _ _ _ h => h) (Or.inl ⟨by rfl, ?_⟩) (Below.refl _ _) ?_
      · intro w' hSw
        (try simp only [List.getElem_toArray, List.getElem_cons_succ, List.getElem_cons_zero])
        go_simp
      (try simp only [List.getElem_toArray, List.getElem_cons_succ, List.getElem_cons_zero, Act.put, List.setIfInBounds_toArray, List.set_cons_zero, List.set_cons_succ])
      refine wpAnyE_take (i := 3) (oi := _) (v := .pointer (some ⟨gs, who * 11, none⟩)) rfl (by kernel_rfl) (by kernel_rfl) (by kernel_rfl) (by kernel_rfl) (fun _ _ _ h => h) (Or.inl ⟨by rfl, ?_⟩) (Below.refl _ _) ?_
      · intro w' hSw
        (try simp only [List.getElem_toArray, List.getElem_cons_succ, List.getElem_cons_zero])
        go_simp
      (try simp only [List.getElem_toArray, List.getElem_cons_succ, List.getElem_cons_zero, Act.put, List.setIfInBounds_toArray, List.set_cons_zero, List.set_cons_succ])
      refine wpAnyE_take (i := 4) (oi := _) (v := .pointer (some ⟨gs, who * 11 + 7, none⟩)) rfl (by kernel_rfl) (by kernel_rfl) (by kernel_rfl) (by kernel_rfl) (fun _ _ _ h => h) (Or.inl ⟨by rfl, ?_⟩) (Below.refl _ _) ?_
      · intro w' hSw
        (try simp only [List.getElem_toArray, List.getElem_cons_succ, List.getElem_cons_zero])
        go_simp
      (try simp only [List.getElem_toArray, List.getElem_cons_succ, List.getElem_cons_zero, Act.put, List.setIfInBounds_toArray, List.set_cons_zero, List.set_cons_succ])
      refine wpAnyE_take (i := 5) (oi := _) (v := .slice G7 s.log.length c7) rfl (by kernel_rfl) (by kernel_rfl) (by kernel_rfl) (by kernel_rfl) (fun _ _ _ h => h) (Or.inl ⟨by rfl, ?_⟩) (Below.refl _ _) ?_
      · intro w' hSw
        have s1 := cell_keep hSw o7
        (try simp at s1)
        (try simp only [List.getElem_toArray, List.getElem_cons_succ, List.getElem_cons_zero])
        go_simp
      (try simp only [List.getElem_toArray, List.getElem_cons_succ, List.getElem_cons_zero, Act.put, List.setIfInBounds_toArray, List.set_cons_zero, List.set_cons_succ])
      refine wpAnyE_take (i := 7) (oi := _) (v := .agg #[.int .i64 had, .bool gok]) rfl (by kernel_rfl) (by kernel_rfl) (by kernel_rfl) (by kernel_rfl) (fun _ _ _ h => h) (Or.inl ⟨by rfl, ?_⟩) (Below.refl _ _) ?_
      · intro w' hSw
        have s1 := (kR.keep hSw).cell 0
        have s2 := (kR.keep hSw).cell 1
        (try simp at s1 s2)
        (try simp only [List.getElem_toArray, List.getElem_cons_succ, List.getElem_cons_zero])
        go_simp
      (try simp only [List.getElem_toArray, List.getElem_cons_succ, List.getElem_cons_zero, Act.put, List.setIfInBounds_toArray, List.set_cons_zero, List.set_cons_succ])
      refine wpAnyE_app2 hri 1 6 8 9 75 80 82 83 (.tmp 79) (.tmp 81) rfl rfl rfl rfl ⟨rfl, rfl, rfl⟩ ⟨rfl, rfl, rfl⟩ ⟨rfl, rfl, rfl⟩ ⟨rfl, rfl, rfl⟩ (by kernel_rfl) (by kernel_rfl) (by kernel_rfl) (by kernel_rfl) (by kernel_rfl) (by kernel_rfl) (by simp) ⟨of_decide_eq_true (by kernel_rfl), of_decide_eq_true (by kernel_rfl), of_decide_eq_true (by kernel_rfl)⟩ wd.heap.size (Nat.le_refl _) (Below.refl _ _) (fun w1 w2 h12 h1 => h1.trans h12) G7 s.log.length c7 (resCells s.log) rfl (Src.own hown (Nat.le_refl _)) (resCells_one s.log) (.agg #[.int .i64 had, .bool gok]) #[.int .i64 had, .bool gok] rfl (fun w => by kernel_rfl) rfl (by simp [Value.oneCell']) (by omega) (by omega) ?_
      intro vA vB vC vD we hown9 hb9 hS9
      (try simp only [Act.put, List.setIfInBounds_toArray, List.set_cons_zero, List.set_cons_succ])
      obtain ⟨GD, cD, rfl⟩ := own_slice hown9
      refine wpAnyE_takeW (i := 10) (oi := _) (v := .pointer (some ⟨gs, who * 11, none⟩)) rfl (by kernel_rfl) (by kernel_rfl) (by kernel_rfl) (fun _ _ _ h => h) (Or.inl ⟨by rfl, ?_⟩) ?_
      · intro w' hSw
        clear hSw
        (try simp only [List.getElem_toArray, List.getElem_cons_succ, List.getElem_cons_zero])
        go_simp
      (try simp only [List.getElem_toArray, List.getElem_cons_succ, List.getElem_cons_zero, Act.put, List.setIfInBounds_toArray, List.set_cons_zero, List.set_cons_succ])
      refine wpAnyE_takeW (i := 11) (oi := _) (v := .pointer (some ⟨gs, who * 11 + 7, none⟩)) rfl (by kernel_rfl) (by kernel_rfl) (by kernel_rfl) (fun _ _ _ h => h) (Or.inl ⟨by rfl, ?_⟩) ?_
      · intro w' hSw
        clear hSw
        (try simp only [List.getElem_toArray, List.getElem_cons_succ, List.getElem_cons_zero])
        go_simp
      (try simp only [List.getElem_toArray, List.getElem_cons_succ, List.getElem_cons_zero, Act.put, List.setIfInBounds_toArray, List.set_cons_zero, List.set_cons_succ])
      have hlog9 : OwnRes we 0 (.slice GD (s.log ++ [(had, gok)]).length cD) (s.log ++ [(had, gok)]) := by
        unfold OwnRes
        rw [resCells_snoc, List.length_append]
        exact own_lower hown9 (Nat.zero_le _)
      replace hx := (hx.keep hb9).top
      replace hst := hst.trans (Stw.of_below hb9)
      replace k8 := k8.keep hb9
      replace o7 := cell_keep hb9 o7
      have f7 : we.frozen? ⟨gs, who * 11 + 7, none⟩ = false := by obtain ⟨_, _, sv⟩ := hx.seat HF.out.2.2.2.2; exact sv.free 7
      have lS : gs < we.heap.size := by obtain ⟨_, _, sv⟩ := hx.seat HF.out.2.2.2.2; exact sv.lt
      have hx1 := hx.upd HF.out.2.2.2.2 (j := 7) (s' := { s with log := s.log ++ [(had, gok)] }) (v := (.slice GD (s.log.length + 1) cD)) (by decide) (fun lv gv h1 h2 => ⟨.slice GD (s.log.length + 1) cD, gv, rfl, by
        have hl : (s.log ++ [(had, gok)]).length = s.log.length + 1 := by simp
        have h9 : LogOk we 0 (.slice GD (s.log.length + 1) cD) (s.log ++ [(had, gok)]) ∨ True := .inr trivial
        refine ⟨GD, cD, by rw [hl], by have := hlog9; rw [hl] at this; exact this, fun a ha => ?_⟩
        rcases hown9.2 with ⟨h5, _⟩ | ⟨g5, cap5, cur5, h5, _, h6, _⟩
        · rw [ha] at h5; cases h5
        · rw [ha] at h5
          injection h5 with h5 _ _
          injection h5 with h5
          subst h5
          exact (Array.getElem?_eq_some_iff.1 h6).1, h2⟩)
      have hst1 := hst.trans (Stw.setS we (who * 11 + 7) (.slice GD (s.log.length + 1) cD))
      have k81 := k8.other (p := ⟨gs, who * 11 + 7, none⟩) (by dsimp only; omega) (.slice GD (s.log.length + 1) cD)
      have HX := Lib.hid (And.intro hx1 (And.intro hst1 k81))
      clear hx1 hst1 k81 hx hst k8 hlog9 hown9 hown hb9 hS9 kR
      refine wpAnyE_one (i := 12) (o := _) (by kernel_rfl) rfl (fun K hK => ?_)
      (try simp only [List.getElem_toArray, List.getElem_cons_succ, List.getElem_cons_zero])
      go_simp
      clear o7 f7 lS
      refine hK.out _ (we.setCell ⟨gs, who * 11 + 7, none⟩ (.slice GD (s.log.length + 1) cD)) (fun h => absurd h (by decide)) ?_
      clear hK K
      refine wpAnyE_done (by kernel_rfl) ?_ _
      obtain ⟨hx, hst, k8⟩ := HX.out
      clear HX
      generalize we.setCell ⟨gs, who * 11 + 7, none⟩ (.slice GD (s.log.length + 1) cD) = wf at *
      have hxf := (hx.row (cs := outZ) k8 (.inl (by unfold OurT; decide))).top
      have hstf := stw_row (cs := outZ) hst (g := b8) (by have := HB.out; omega)
      have kf := setRow_heap _ _ outZ outZ 63 (0, 0) k8
      clear hx hst
      go_wp2_with (refine wpList_store_rowTo rfl 63 (.tmp 8) (.tmp 86) rfl rfl b8 outZ rfl rfl 63 outZ k8 (by kernel_rfl) rfl (by simp [Value.oneCell']) ?_)
      refine bodyPost_ret (v := .tuple #[.agg outZ, .bool false]) (results_cell_tmp (p := 8) (t := 9) (ty := 63) rfl _ _ b8 63 outZ (0, 0) _ (.bool false) rfl rfl kf Try.underlying63 rfl (by kernel_rfl)) rfl ?_
      rw [HYZ.out]
      exact ⟨rfl, hxf, hstf⟩
  | false =>
    clear hgo
    obtain ⟨ak, ac, ao, av, aval, ais, aerr, apt, adn, ag, hAI⟩ := ansI_of (liftA s.gone (nextR l s.op s.log))
    have HA := Lib.hid (show AnsI (ansP l false who s) ak ac ao av aval ais aerr apt adn ag from hAI)
    clear hAI HEI
    go_upto_region 4 with fail
    refine wp_region_E (S := fun w' => Below w6.drew.heap.size w6.drew w') (E := fun i => i == 19 || i == 20 || i == 21) (by kernel_rfl) ?_
    have hbd := below_drew' (Below.refl w6.heap.size w6)
    replace hx := hx.keep hbd
    replace hst := hst.trans (Stw.of_below hbd)
    replace kL := kL.keep hbd
    replace k8 := k8.keep hbd
    replace kb0 := kb0.keep hbd
    replace kb1 := kb1.keep hbd
    have HG7 := Lib.hid (And.intro (show OwnRes w6.drew 0 (.slice GL s.log.length cL) s.log from own_keepb' (show World.ownsRow w6 0 67 2 (.slice GL s.log.length cL) s.log.length (resCells s.log) from HG6.out.1) hbd) (And.intro HG6.out.2.1 (And.intro HG6.out.2.2.1 (HG6.out.2.2.2.keep hbd))))
    replace o3 := cell_keep hbd o3
    replace o4 := cell_keep hbd o4
    replace o5 := cell_keep hbd o5
    replace o6 := cell_keep hbd o6
    replace o7 := cell_keep hbd o7
    replace o10 := cell_keep hbd o10
    clear hbd HG6
    generalize w6.drew = w7 at *
    refine wpAnyE_take (i := 0) (oi := _) (v := .agg (lyC l)) rfl (by kernel_rfl) (by kernel_rfl) (by kernel_rfl) (by kernel_rfl) (fun _ _ _ h => h) (Or.inl ⟨by rfl, ?_⟩) (Below.refl _ _) ?_
    · intro w' hSw
      (try simp only [List.getElem_toArray, List.getElem_cons_zero])
      simp only [execOp, Instr.loadAt, Instr.sureAddr, Sem.run_bind, Sem.run_pure]
      rw [show (Act.eval _ (Operand.tmp 5)) = Value.pointer (some ⟨bL, 0, none⟩) from rfl]
      simp only [Sem.run_pure, Result.andThen_ok, run_loadVar_row w' bL 40 40 (lyC l) (0, 0) _ (kL.keep hSw) Try.underlying40 rfl (by kernel_rfl)]
    (try simp only [List.getElem_toArray, List.getElem_cons_zero, Act.put, List.setIfInBounds_toArray, List.set_cons_zero, List.set_cons_succ])
    refine wpAnyE_take (i := 1) (oi := _) (v := .int .i64 (who : Nat)) rfl (by kernel_rfl) (by kernel_rfl) (by kernel_rfl) (by kernel_rfl) (fun _ _ _ h => h) (Or.inl ⟨by rfl, ?_⟩) (Below.refl _ _) ?_
    · intro w' hSw
      (try simp only [List.getElem_toArray, List.getElem_cons_succ, List.getElem_cons_zero])
      go_simp
    (try simp only [List.getElem_toArray, List.getElem_cons_succ, List.getElem_cons_zero, Act.put, List.setIfInBounds_toArray, List.set_cons_zero, List.set_cons_succ])
    refine wpAnyE_take (i := 2) (oi := _) (v := .pointer (some ⟨gs, who * 11, none⟩)) rfl (by kernel_rfl) (by kernel_rfl) (by kernel_rfl) (by kernel_rfl) (fun _ _ _ h => h) (Or.inl ⟨by rfl, ?_⟩) (Below.refl _ _) ?_
    · intro w' hSw
      (try simp only [List.getElem_toArray, List.getElem_cons_succ, List.getElem_cons_zero])
      go_simp
    (try simp only [List.getElem_toArray, List.getElem_cons_succ, List.getElem_cons_zero, Act.put, List.setIfInBounds_toArray, List.set_cons_zero, List.set_cons_succ])
    refine wpAnyE_take (i := 3) (oi := _) (v := .pointer (some ⟨gs, who * 11, none⟩)) rfl (by kernel_rfl) (by kernel_rfl) (by kernel_rfl) (by kernel_rfl) (fun _ _ _ h => h) (Or.inl ⟨by rfl, ?_⟩) (Below.refl _ _) ?_
    · intro w' hSw
      (try simp only [List.getElem_toArray, List.getElem_cons_succ, List.getElem_cons_zero])
      go_simp
    (try simp only [List.getElem_toArray, List.getElem_cons_succ, List.getElem_cons_zero, Act.put, List.setIfInBounds_toArray, List.set_cons_zero, List.set_cons_succ])
    refine wpAnyE_take (i := 4) (oi := _) (v := .pointer (some ⟨gs, who * 11 + 10, none⟩)) rfl (by kernel_rfl) (by kernel_rfl) (by kernel_rfl) (by kernel_rfl) (fun _ _ _ h => h) (Or.inl ⟨by rfl, ?_⟩) (Below.refl _ _) ?_
    · intro w' hSw
      (try simp only [List.getElem_toArray, List.getElem_cons_succ, List.getElem_cons_zero])
      go_simp
    (try simp only [List.getElem_toArray, List.getElem_cons_succ, List.getElem_cons_zero, Act.put, List.setIfInBounds_toArray, List.set_cons_zero, List.set_cons_succ])
    refine wpAnyE_take (i := 5) (oi := _) (v := .slice GG nG cG) rfl (by kernel_rfl) (by kernel_rfl) (by kernel_rfl) (by kernel_rfl) (fun _ _ _ h => h) (Or.inl ⟨by rfl, ?_⟩) (Below.refl _ _) ?_
    · intro w' hSw
      have s10 := cell_keep hSw o10
      (try simp at s10)
      (try simp only [List.getElem_toArray, List.getElem_cons_succ, List.getElem_cons_zero])
      go_simp
    (try simp only [List.getElem_toArray, List.getElem_cons_succ, List.getElem_cons_zero, Act.put, List.setIfInBounds_toArray, List.set_cons_zero, List.set_cons_succ])
    refine wpAnyE_take (i := 6) (oi := _) (v := .pointer (some ⟨gs, who * 11, none⟩)) rfl (by kernel_rfl) (by kernel_rfl) (by kernel_rfl) (by kernel_rfl) (fun _ _ _ h => h) (Or.inl ⟨by rfl, ?_⟩) (Below.refl _ _) ?_
    · intro w' hSw
      (try simp only [List.getElem_toArray, List.getElem_cons_succ, List.getElem_cons_zero])
      go_simp
    (try simp only [List.getElem_toArray, List.getElem_cons_succ, List.getElem_cons_zero, Act.put, List.setIfInBounds_toArray, List.set_cons_zero, List.set_cons_succ])
    refine wpAnyE_take (i := 7) (oi := _) (v := .pointer (some ⟨gs, who * 11, none⟩)) rfl (by kernel_rfl) (by kernel_rfl) (by kernel_rfl) (by kernel_rfl) (fun _ _ _ h => h) (Or.inl ⟨by rfl, ?_⟩) (Below.refl _ _) ?_
    · intro w' hSw
      (try simp only [List.getElem_toArray, List.getElem_cons_succ, List.getElem_cons_zero])
      go_simp
    (try simp only [List.getElem_toArray, List.getElem_cons_succ, List.getElem_cons_zero, Act.put, List.setIfInBounds_toArray, List.set_cons_zero, List.set_cons_succ])
    refine wpAnyE_take (i := 8) (oi := _) (v := .pointer (some ⟨gs, who * 11 + 3, none⟩)) rfl (by kernel_rfl) (by kernel_rfl) (by kernel_rfl) (by kernel_rfl) (fun _ _ _ h => h) (Or.inl ⟨by rfl, ?_⟩) (Below.refl _ _) ?_
    · intro w' hSw
      (try simp only [List.getElem_toArray, List.getElem_cons_succ, List.getElem_cons_zero])
      go_simp
    (try simp only [List.getElem_toArray, List.getElem_cons_succ, List.getElem_cons_zero, Act.put, List.setIfInBounds_toArray, List.set_cons_zero, List.set_cons_succ])
    refine wpAnyE_take (i := 9) (oi := _) (v := .agg #[.int .i64 s.op.kind, .int .i64 s.op.obj, .int .i64 s.op.a, .int .i64 s.op.b]) rfl (by kernel_rfl) (by kernel_rfl) (by kernel_rfl) (by kernel_rfl) (fun _ _ _ h => h) (Or.inl ⟨by rfl, ?_⟩) (Below.refl _ _) ?_
    · intro w' hSw
      have s3 := cell_keep hSw o3
      have s4 := cell_keep hSw o4
      have s5 := cell_keep hSw o5
      have s6 := cell_keep hSw o6
      (try simp at s3 s4 s5 s6)
      (try simp only [List.getElem_toArray, List.getElem_cons_succ, List.getElem_cons_zero])
      go_simp
    (try simp only [List.getElem_toArray, List.getElem_cons_succ, List.getElem_cons_zero, Act.put, List.setIfInBounds_toArray, List.set_cons_zero, List.set_cons_succ])
    refine wpAnyE_take (i := 10) (oi := _) (v := .pointer (some ⟨gs, who * 11, none⟩)) rfl (by kernel_rfl) (by kernel_rfl) (by kernel_rfl) (by kernel_rfl) (fun _ _ _ h => h) (Or.inl ⟨by rfl, ?_⟩) (Below.refl _ _) ?_
    · intro w' hSw
      (try simp only [List.getElem_toArray, List.getElem_cons_succ, List.getElem_cons_zero])
      go_simp
    (try simp only [List.getElem_toArray, List.getElem_cons_succ, List.getElem_cons_zero, Act.put, List.setIfInBounds_toArray, List.set_cons_zero, List.set_cons_succ])
    refine wpAnyE_take (i := 11) (oi := _) (v := .pointer (some ⟨gs, who * 11, none⟩)) rfl (by kernel_rfl) (by kernel_rfl) (by kernel_rfl) (by kernel_rfl) (fun _ _ _ h => h) (Or.inl ⟨by rfl, ?_⟩) (Below.refl _ _) ?_
    · intro w' hSw
      (try simp only [List.getElem_toArray, List.getElem_cons_succ, List.getElem_cons_zero])
      go_simp
    (try simp only [List.getElem_toArray, List.getElem_cons_succ, List.getElem_cons_zero, Act.put, List.setIfInBounds_toArray, List.set_cons_zero, List.set_cons_succ])
    refine wpAnyE_take (i := 12) (oi := _) (v := .pointer (some ⟨gs, who * 11 + 7, none⟩)) rfl (by kernel_rfl) (by kernel_rfl) (by kernel_rfl) (by kernel_rfl) (fun _ _ _ h => h) (Or.inl ⟨by rfl, ?_⟩) (Below.refl _ _) ?_
    · intro w' hSw
      (try simp only [List.getElem_toArray, List.getElem_cons_succ, List.getElem_cons_zero])
      go_simp
    (try simp only [List.getElem_toArray, List.getElem_cons_succ, List.getElem_cons_zero, Act.put, List.setIfInBounds_toArray, List.set_cons_zero, List.set_cons_succ])
    refine wpAnyE_take (i := 13) (oi := _) (v := .slice GL s.log.length cL) rfl (by kernel_rfl) (by kernel_rfl) (by kernel_rfl) (by kernel_rfl) (fun _ _ _ h => h) (Or.inl ⟨by rfl, ?_⟩) (Below.refl _ _) ?_
    · intro w' hSw
      have s7 := cell_keep hSw o7
      (try simp at s7)
      (try simp only [List.getElem_toArray, List.getElem_cons_succ, List.getElem_cons_zero])
      go_simp
    (try simp only [List.getElem_toArray, List.getElem_cons_succ, List.getElem_cons_zero, Act.put, List.setIfInBounds_toArray, List.set_cons_zero, List.set_cons_succ])
    refine wpAnyE_one (i := 14) (o := _) (by kernel_rfl) rfl (fun K hK => ?_)
    (try simp only [List.getElem_toArray, List.getElem_cons_succ, List.getElem_cons_zero])
    go_simp
    (with_reducible refine (next_any l who s.op GG nG cG s.gone GL cL s.log _ HF.out.1 HG7.out.2.1 HG7.out.2.2.1 HG7.out.2.2.2.sl (by omega) (by omega) (own_slRes (show OwnRes w7 0 (.slice GL s.log.length cL) s.log from HG7.out.1)) hll).mono ?_)
    intro e w8 hpost
    obtain ⟨GV2, nV2, cV2, rfl, hb⟩ := ansI_postA HA.out hpost
    clear hpost
    replace hx := hx.keep hb
    replace hst := hst.trans (Stw.of_below hb)
    replace k8 := k8.keep hb
    replace kb0 := kb0.keep hb
    replace kb1 := kb1.keep hb
    replace o7 := cell_keep hb o7
    have hSb := hb
    clear hb o3 o4 o5 o6 o10 kL HG7
    refine hK.out _ _ (fun _ => hSb) ?_
    clear hK K
    (try simp only [List.getElem_toArray, List.getElem_cons_succ, List.getElem_cons_zero, Act.put, List.setIfInBounds_toArray, List.set_cons_zero, List.set_cons_succ])
    refine wpAnyE_takeW (i := 15) (oi := _) (v := .tuple #[.agg (accC ak ac ao av), .agg (outG aval ais aerr apt (.slice GV2 nV2 cV2)), .bool adn]) rfl (by kernel_rfl) (by kernel_rfl) (by kernel_rfl) (fun _ _ _ h => h) (Or.inl ⟨by rfl, ?_⟩) ?_
    · intro w' hSw
      clear hSw
      (try simp only [List.getElem_toArray, List.getElem_cons_succ, List.getElem_cons_zero])
      go_simp
    (try simp only [List.getElem_toArray, List.getElem_cons_succ, List.getElem_cons_zero, Act.put, List.setIfInBounds_toArray, List.set_cons_zero, List.set_cons_succ])
    refine wpAnyE_takeW (i := 16) (oi := _) (v := .agg (accC ak ac ao av)) rfl (by kernel_rfl) (by kernel_rfl) (by kernel_rfl) (fun _ _ _ h => h) (Or.inl ⟨by rfl, ?_⟩) ?_
    · intro w' hSw
      clear hSw
      (try simp only [List.getElem_toArray, List.getElem_cons_succ, List.getElem_cons_zero])
      go_simp
    (try simp only [List.getElem_toArray, List.getElem_cons_succ, List.getElem_cons_zero, Act.put, List.setIfInBounds_toArray, List.set_cons_zero, List.set_cons_succ])
    refine wpAnyE_takeW (i := 17) (oi := _) (v := .agg (outG aval ais aerr apt (.slice GV2 nV2 cV2))) rfl (by kernel_rfl) (by kernel_rfl) (by kernel_rfl) (fun _ _ _ h => h) (Or.inl ⟨by rfl, ?_⟩) ?_
    · intro w' hSw
      clear hSw
      (try simp only [List.getElem_toArray, List.getElem_cons_succ, List.getElem_cons_zero])
      go_simp
    (try simp only [List.getElem_toArray, List.getElem_cons_succ, List.getElem_cons_zero, Act.put, List.setIfInBounds_toArray, List.set_cons_zero, List.set_cons_succ])
    refine wpAnyE_takeW (i := 18) (oi := _) (v := .bool adn) rfl (by kernel_rfl) (by kernel_rfl) (by kernel_rfl) (fun _ _ _ h => h) (Or.inl ⟨by rfl, ?_⟩) ?_
    · intro w' hSw
      clear hSw
      (try simp only [List.getElem_toArray, List.getElem_cons_succ, List.getElem_cons_zero])
      go_simp
    (try simp only [List.getElem_toArray, List.getElem_cons_succ, List.getElem_cons_zero, Act.put, List.setIfInBounds_toArray, List.set_cons_zero, List.set_cons_succ])
    refine wpAnyE_one (i := 19) (o := _) (by kernel_rfl) rfl (fun K hK => ?_)
    rw [if_pos (by rfl)]
    refine wp_store_row 61 (.tmp 11) (.tmp 59) rfl ga0 (accC ak ac ao av) rfl rfl 61 (accC ek ec eo ev) kb0 (by kernel_rfl) rfl (by simp [Value.oneCell']) ?_
    have hz6 : ga0 ≠ gs ∧ ga1 ≠ gs ∧ gs < w8.heap.size := by
      obtain ⟨_, k2, _⟩ := hx.sts
      exact ⟨bk_neT kb0 k2 (by decide), bk_neT kb1 k2 (by decide), k2.lt⟩
    replace hx := hx.row (cs := (accC ak ac ao av)) kb0 (.inl (by unfold OurT; decide))
    replace hst := stw_row (cs := (accC ak ac ao av)) hst hz5.1
    replace k8 : Bk (w8.setRow ga0 (accC ak ac ao av)) b8 63 outZ := (setRow_other _ _ _ _ (bk_neT k8 kb0 (by decide))).trans k8
    replace kb1 : Bk (w8.setRow ga0 (accC ak ac ao av)) ga1 63 (outG eval eis eerr ept (.slice GV nV cV)) := (setRow_other _ _ _ _ (bk_neT kb1 kb0 (by decide))).trans kb1
    replace o7 : (w8.setRow ga0 (accC ak ac ao av)).cell? ⟨gs, who * 11 + 7, none⟩ = some (.slice GL s.log.length cL) := by
      rw [← show w8.cell? ⟨gs, who * 11 + 7, none⟩ = some (.slice GL s.log.length cL) from o7]
      unfold World.cell?
      rw [setRow_other _ _ _ _ (Ne.symm hz6.1)]
    replace kb0 : Bk (w8.setRow ga0 (accC ak ac ao av)) ga0 61 (accC ak ac ao av) := setRow_heap _ _ (accC ek ec eo ev) (accC ak ac ao av) 61 (0, 0) kb0
    refine hK.out _ _ (fun h => absurd h (by decide)) ?_
    clear hK K hSb
    (try simp only [List.getElem_toArray, List.getElem_cons_succ, List.getElem_cons_zero, Act.put])
    generalize w8.setRow ga0 (accC ak ac ao av) = w9 at *
    refine wpAnyE_one (i := 20) (o := _) (by kernel_rfl) rfl (fun K hK => ?_)
    rw [if_pos (by rfl)]
    refine wp_store_row 63 (.tmp 12) (.tmp 60) rfl ga1 (outG aval ais aerr apt (.slice GV2 nV2 cV2)) rfl rfl 63 (outG eval eis eerr ept (.slice GV nV cV)) kb1 (by kernel_rfl) rfl (by simp [Value.oneCell']) ?_
    replace hx := hx.row (cs := (outG aval ais aerr apt (.slice GV2 nV2 cV2))) kb1 (.inl (by unfold OurT; decide))
    replace hst := stw_row (cs := (outG aval ais aerr apt (.slice GV2 nV2 cV2))) hst hz5.2
    replace k8 : Bk (w9.setRow ga1 (outG aval ais aerr apt (.slice GV2 nV2 cV2))) b8 63 outZ := (setRow_other _ _ _ _ hne8).trans k8
    replace kb0 : Bk (w9.setRow ga1 (outG aval ais aerr apt (.slice GV2 nV2 cV2))) ga0 61 (accC ak ac ao av) := (setRow_other _ _ _ _ (bk_neT kb0 kb1 (by decide))).trans kb0
    replace o7 : (w9.setRow ga1 (outG aval ais aerr apt (.slice GV2 nV2 cV2))).cell? ⟨gs, who * 11 + 7, none⟩ = some (.slice GL s.log.length cL) := by
      rw [← o7]
      unfold World.cell?
      rw [setRow_other _ _ _ _ (Ne.symm hz6.2.1)]
    replace kb1 : Bk (w9.setRow ga1 (outG aval ais aerr apt (.slice GV2 nV2 cV2))) ga1 63 (outG aval ais aerr apt (.slice GV2 nV2 cV2)) := setRow_heap _ _ (outG eval eis eerr ept (.slice GV nV cV)) (outG aval ais aerr apt (.slice GV2 nV2 cV2)) 63 (0, 0) kb1
    refine hK.out _ _ (fun h => absurd h (by decide)) ?_
    clear hK K
    (try simp only [List.getElem_toArray, List.getElem_cons_succ, List.getElem_cons_zero, Act.put])
    generalize w9.setRow ga1 (outG aval ais aerr apt (.slice GV2 nV2 cV2)) = wg at *
    refine wpAnyE_one (i := 21) (o := _) (by kernel_rfl) rfl (fun K hK => ?_)
    (try simp only [List.getElem_toArray, List.getElem_cons_succ, List.getElem_cons_zero])
    go_simp
    refine hK.out _ _ (fun h => absurd h (by decide)) ?_
    clear hK K
    (try simp only [List.getElem_toArray, List.getElem_cons_succ, List.getElem_cons_zero, Act.put, List.setIfInBounds_toArray, List.set_cons_zero, List.set_cons_succ])
    refine wpAnyE_done (by kernel_rfl) ?_ _
    clear hne8 hz6
    obtain ⟨GV3, nV3, cV3, hV⟩ : ∃ G n c, (Value.slice GV2 nV2 cV2) = .slice G n c := ⟨_, _, _, rfl⟩
    have HGV := Lib.hid (show (adn = true → false = true → GoneOk wg (.slice GV2 nV2 cV2) ag) from fun _ h => by cases h)
    clear hV
    have hgl9 := hx.seat HF.out.2.2.2.2
    have f7 : wg.frozen? ⟨gs, who * 11 + 7, none⟩ = false := by obtain ⟨_, _, sv⟩ := hgl9; exact sv.free 7
    have lS : gs < wg.heap.size := by obtain ⟨_, _, sv⟩ := hgl9; exact sv.lt
    clear hgl9
    cases adn with
    | true =>
      have hr : ansP l false who s = .out aval ais aerr apt ag := by
        rcases ansI_dn HA.out with h1 | h1
        · exact h1.2
        · cases h1.1
      have hyy : y = (⟨t.m, { s with log := [] }, t.bad⟩, some (aval, ais, ag)) := by
        rw [← HY.out.1]
        unfold progM
        dsimp only
        unfold ansP at hr
        rw [hr]
      have HYY := Lib.hid hyy
      clear hr hyy HA
      have hx1 := hx.upd HF.out.2.2.2.2 (j := 7) (s' := { s with log := [] }) (v := (.slice none 0 0)) (by decide) (fun lv gv h1 h2 => ⟨.slice none 0 0, gv, rfl, ⟨none, 0, rfl, World.ownsRow_nil _ _ _ _, fun a h => by cases h⟩, h2⟩)
      have hst1 := hst.trans (Stw.setS wg (who * 11 + 7) (.slice none 0 0))
      have kb11 := kb1.other (p := ⟨gs, who * 11 + 7, none⟩) (by dsimp only; omega) (.slice none 0 0)
      have k81 := k8.other (p := ⟨gs, who * 11 + 7, none⟩) (by dsimp only; omega) (.slice none 0 0)
      have hg1 : false = true → GoneOk (wg.setCell ⟨gs, who * 11 + 7, none⟩ (.slice none 0 0)) (.slice GV2 nV2 cV2) ag := fun h => (HGV.out rfl h).mv fun b cs kb => kb.other (p := ⟨gs, who * 11 + 7, none⟩) (by
        obtain ⟨_, k2, _⟩ := hx.sts
        exact bk_neT kb k2 (by decide)) _
      have HX := Lib.hid (And.intro hx1 (And.intro hst1 (And.intro kb11 (And.intro k81 hg1))))
      clear hx1 hst1 kb11 k81 hg1 hx hst kb0 kb1 k8 HGV
      go_upto_region 7 with fail
      clear o7 f7 lS
      show Code.wp Try.prog _ _ _ (wg.setCell ⟨gs, who * 11 + 7, none⟩ (.slice none 0 0))
      obtain ⟨hx, hst, kb1, k8, hgv⟩ := HX.out
      clear HX
      generalize wg.setCell ⟨gs, who * 11 + 7, none⟩ (.slice none 0 0) = wa at *
      have hxf := (hx.row (cs := (outG aval ais aerr apt (.slice GV2 nV2 cV2))) k8 (.inl (by unfold OurT; decide))).top
      have hstf := stw_row (cs := (outG aval ais aerr apt (.slice GV2 nV2 cV2))) hst (g := b8) (by have := HB.out; omega)
      have hgf : false = true → GoneOk (wa.setRow b8 (outG aval ais aerr apt (.slice GV2 nV2 cV2))) (.slice GV2 nV2 cV2) ag := fun h => (hgv h).mv fun b cs kb => (setRow_other _ b8 b _ (bk_neT kb k8 (by decide))).trans kb
      have kf := setRow_heap _ _ outZ (outG aval ais aerr apt (.slice GV2 nV2 cV2)) 63 (0, 0) k8
      clear hx hst hgv
      go_wp2_with (first
        | (refine wpList_load_row rfl 63 (.tmp 12) rfl ga1 rfl 63 (outG aval ais aerr apt (.slice GV2 nV2 cV2)) (0, 0) _ kb1 Try.underlying63 rfl (by kernel_rfl) ?_)
        | (refine wpList_store_rowTo rfl 63 (.tmp 8) (.tmp 66) rfl rfl b8 (outG aval ais aerr apt (.slice GV2 nV2 cV2)) rfl rfl 63 outZ k8 (by kernel_rfl) rfl (by simp [Value.oneCell']) ?_))
      refine bodyPost_ret (v := .tuple #[.agg (outG aval ais aerr apt (.slice GV2 nV2 cV2)), .bool true]) (results_cell_tmp (p := 8) (t := 9) (ty := 63) rfl _ _ b8 63 (outG aval ais aerr apt (.slice GV2 nV2 cV2)) (0, 0) _ (.bool true) rfl rfl kf Try.underlying63 rfl (by kernel_rfl)) rfl ?_
      rw [HYY.out]
      exact ⟨⟨aerr, apt, GV2, nV2, cV2, rfl, fun h => by first | exact hgf h | exact hgf trivial | cases h⟩, hxf, hstf⟩
    | false =>
      have hr : ansP l false who s = .ask ak ac ao av := by
        rcases ansI_dn HA.out with h1 | h1
        · cases h1.1
        · exact h1.2.1
      have he : (⟨ak, ac, ao, av⟩ : Acc).err t.m.length = 0 := by
        by_cases he : (⟨ak, ac, ao, av⟩ : Acc).err t.m.length = 0
        · exact he
        · have h1 := HY.out.2
          rw [← HY.out.1] at h1
          unfold progM at h1
          dsimp only at h1
          unfold ansP at hr
          rw [hr] at h1
          dsimp only at h1
          unfold accM at h1
          rw [if_neg he] at h1
          cases h1
      have hyy : y = (⟨(⟨ak, ac, ao, av⟩ : Acc).make t.m, { s with log := s.log ++ [((⟨ak, ac, ao, av⟩ : Acc).had t.m, (⟨ak, ac, ao, av⟩ : Acc).ok ((⟨ak, ac, ao, av⟩ : Acc).had t.m))] }, t.bad⟩, none) := by
        rw [← HY.out.1]
        unfold progM
        dsimp only
        unfold ansP at hr
        rw [hr]
        dsimp only
        unfold accM
        rw [if_pos he]
        rfl
      have HYY := Lib.hid hyy
      clear hr hyy HA HGV f7 lS o7
      go_wp2_with (refine wpList_load_row rfl 61 (.tmp 11) rfl ga0 rfl 61 (accC ak ac ao av) (0, 0) _ kb0 Try.underlying61 rfl (by kernel_rfl) ?_)
      (with_reducible refine (access_any hx (by have := HB.out; have := k8.lt; omega) ak ac ao av hml he).mono ?_)
      rintro e wb ⟨rfl, hx, hst2⟩
      replace hst := hst.trans hst2.weak
      replace k8 := hst2.keep k8 (by omega) (by omega)
      clear kb0 kb1 hst2 he
      obtain ⟨had, hhad⟩ : ∃ z, (⟨ak, ac, ao, av⟩ : Acc).had t.m = z := ⟨_, rfl⟩
      obtain ⟨gok, hgok⟩ : ∃ z, (⟨ak, ac, ao, av⟩ : Acc).ok had = z := ⟨_, rfl⟩
      obtain ⟨mm, hmm⟩ : ∃ z, (⟨ak, ac, ao, av⟩ : Acc).make t.m = z := ⟨_, rfl⟩
      have hyy := HYY.out
      rw [hhad, hgok, hmm] at hyy
      rw [hmm] at hx
      rw [hhad, hgok]
      have HYZ := Lib.hid hyy
      clear HYY hyy hhad hgok hmm
      go_upto_region 10 with (refine wpList_store_new rfl 67 (.tmp 14) (.tmp 71) rfl rfl wb.heap.size _ _ #[.int .i64 had, .bool gok] rfl rfl rfl rfl (by kernel_rfl) rfl (by simp [Value.oneCell']) ?_)
      have kR := Bk.made wb 67 #[.int .i64 had, .bool gok]
      have hba := below_al (Below.refl wb.heap.size wb) (.cells #[.int .i64 had, .bool gok] 67)
      have hzb : b8 < wb.heap.size := k8.lt
      replace hx := hx.keep hba
      replace hst := hst.trans (Stw.of_below hba)
      replace k8 := k8.keep hba
      clear hba
      generalize wb.alloc (.cells #[.int .i64 had, .bool gok] 67) = wc at *
      generalize wb.heap.size = b14 at *
      refine wp_region_E (S := fun w' => Below wc.drew.heap.size wc.drew w') (E := fun i => i == 12) (by kernel_rfl) ?_
      have hbd := below_drew' (Below.refl wc.heap.size wc)
      replace hx := hx.keep hbd
      replace hst := hst.trans (Stw.of_below hbd)
      replace k8 := k8.keep hbd
      replace kR := kR.keep hbd
      clear hbd
      generalize wc.drew = wd at *
      obtain ⟨lv2, gv2, sv⟩ := hx.seat HF.out.2.2.2.2
      obtain ⟨G7, c7, rfl, hown, -⟩ := sv.log
      have o7 := sv.cells 7 _ rfl
      have f7 := sv.free 7
      have lS := sv.lt
      clear sv
      obtain ⟨ri, hri⟩ := res_rowT
      refine wpAnyE_take (i := 0) (oi := _) (v := .pointer (some ⟨gs, who * 11, none⟩)) rfl (by kernel_rfl) (by kernel_rfl) (by kernel_rfl) (by kernel_rfl) (fun _ _ _ h => h) (Or.inl ⟨by rfl, ?_⟩) (Below.refl _ _) ?_
      · intro w' hSw
        (try simp only [List.getElem_toArray, List.getElem_cons_zero])
        go_simp
      (try simp only [List.getElem_toArray, List.getElem_cons_zero, Act.put, List.setIfInBounds_toArray, List.set_cons_zero, List.set_cons_succ])
      refine wpAnyE_take (i := 2) (oi := _) (v := .pointer (some ⟨gs, who * 11, none⟩)) rfl (by kernel_rfl) (by kernel_rfl) (by kernel_rfl) (by kernel_rfl) (fun _ _ _ h => h) (Or.inl ⟨by rfl, ?_⟩) (Below.refl _ _) ?_
      · intro w' hSw
        (try simp only [List.getElem_toArray, List.getElem_cons_succ, List.getElem_cons_zero])
        go_simp
      (try simp only [List.getElem_toArray, List.getElem_cons_succ, List.getElem_cons_zero, Act.put, List.setIfInBounds_toArray, List.set_cons_zero, List.set_cons_succ])
      refine wpAnyE_take (i := 3) (oi := _) (v := .pointer (some ⟨gs, who * 11, none⟩)) rfl (by kernel_rfl) (by kernel_rfl) (by kernel_rfl) (by kernel_rfl) (fun _ _ _ h => h) (Or.inl ⟨by rfl, ?_⟩) (Below.refl _ _) ?_
      · intro w' hSw
        (try simp only [List.getElem_toArray, List.getElem_cons_succ, List.getElem_cons_zero])
        go_simp
      (try simp only [List.getElem_toArray, List.getElem_cons_succ, List.getElem_cons_zero, Act.put, List.setIfInBounds_toArray, List.set_cons_zero, List.set_cons_succ])
      refine wpAnyE_take (i := 4) (oi := _) (v := .pointer (some ⟨gs, who * 11 + 7, none⟩)) rfl (by kernel_rfl) (by kernel_rfl) (by kernel_rfl) (by kernel_rfl) (fun _ _ _ h => h) (Or.inl ⟨by rfl, ?_⟩) (Below.refl _ _) ?_
      · intro w' hSw
        (try simp only [List.getElem_toArray, List.getElem_cons_succ, List.getElem_cons_zero])
        go_simp
      (try simp only [List.getElem_toArray, List.getElem_cons_succ, List.getElem_cons_zero, Act.put, List.setIfInBounds_toArray, List.set_cons_zero, List.set_cons_succ])
      refine wpAnyE_take (i := 5) (oi := _) (v := .slice G7 s.log.length c7) rfl (by kernel_rfl) (by kernel_rfl) (by kernel_rfl) (by kernel_rfl) (fun _ _ _ h => h) (Or.inl ⟨by rfl, ?_⟩) (Below.refl _ _) ?_
      · intro w' hSw
        have s1 := cell_keep hSw o7
        (try simp at s1)
        (try simp only [List.getElem_toArray, List.getElem_cons_succ, List.getElem_cons_zero])
        go_simp
      (try simp only [List.getElem_toArray, List.getElem_cons_succ, List.getElem_cons_zero, Act.put, List.setIfInBounds_toArray, List.set_cons_zero, List.set_cons_succ])
      refine wpAnyE_take (i := 7) (oi := _) (v := .agg #[.int .i64 had, .bool gok]) rfl (by kernel_rfl) (by kernel_rfl) (by kernel_rfl) (by kernel_rfl) (fun _ _ _ h => h) (Or.inl ⟨by rfl, ?_⟩) (Below.refl _ _) ?_
      · intro w' hSw
        have s1 := (kR.keep hSw).cell 0
        have s2 := (kR.keep hSw).cell 1
        (try simp at s1 s2)
        (try simp only [List.getElem_toArray, List.getElem_cons_succ, List.getElem_cons_zero])
        go_simp
      (try simp only [List.getElem_toArray, List.getElem_cons_succ, List.getElem_cons_zero, Act.put, List.setIfInBounds_toArray, List.set_cons_zero, List.set_cons_succ])
      refine wpAnyE_app2 hri 1 6 8 9 75 80 82 83 (.tmp 79) (.tmp 81) rfl rfl rfl rfl ⟨rfl, rfl, rfl⟩ ⟨rfl, rfl, rfl⟩ ⟨rfl, rfl, rfl⟩ ⟨rfl, rfl, rfl⟩ (by kernel_rfl) (by kernel_rfl) (by kernel_rfl) (by kernel_rfl) (by kernel_rfl) (by kernel_rfl) (by simp) ⟨of_decide_eq_true (by kernel_rfl), of_decide_eq_true (by kernel_rfl), of_decide_eq_true (by kernel_rfl)⟩ wd.heap.size (Nat.le_refl _) (Below.refl _ _) (fun w1 w2 h12 h1 => h1.trans h12) G7 s.log.length c7 (resCells s.log) rfl (Src.own hown (Nat.le_refl _)) (resCells_one s.log) (.agg #[.int .i64 had, .bool gok]) #[.int .i64 had, .bool gok] rfl (fun w => by kernel_rfl) rfl (by simp [Value.oneCell']) (by omega) (by omega) ?_
      intro vA vB vC vD we hown9 hb9 hS9
      (try simp only [Act.put, List.setIfInBounds_toArray, List.set_cons_zero, List.set_cons_succ])
      obtain ⟨GD, cD, rfl⟩ := own_slice hown9
      refine wpAnyE_takeW (i := 10) (oi := _) (v := .pointer (some ⟨gs, who * 11, none⟩)) rfl (by kernel_rfl) (by kernel_rfl) (by kernel_rfl) (fun _ _ _ h => h) (Or.inl ⟨by rfl, ?_⟩) ?_
      · intro w' hSw
        clear hSw
        (try simp only [List.getElem_toArray, List.getElem_cons_succ, List.getElem_cons_zero])
        go_simp
      (try simp only [List.getElem_toArray, List.getElem_cons_succ, List.getElem_cons_zero, Act.put, List.setIfInBounds_toArray, List.set_cons_zero, List.set_cons_succ])
      refine wpAnyE_takeW (i := 11) (oi := _) (v := .pointer (some ⟨gs, who * 11 + 7, none⟩)) rfl (by kernel_rfl) (by kernel_rfl) (by kernel_rfl) (fun _ _ _ h => h) (Or.inl ⟨by rfl, ?_⟩) ?_
      · intro w' hSw
        clear hSw
        (try simp only [List.getElem_toArray, List.getElem_cons_succ, List.getElem_cons_zero])
        go_simp
      (try simp only [List.getElem_toArray, List.getElem_cons_succ, List.getElem_cons_zero, Act.put, List.setIfInBounds_toArray, List.set_cons_zero, List.set_cons_succ])
      have hlog9 : OwnRes we 0 (.slice GD (s.log ++ [(had, gok)]).length cD) (s.log ++ [(had, gok)]) := by
        unfold OwnRes
        rw [resCells_snoc, List.length_append]
        exact own_lower hown9 (Nat.zero_le _)
      replace hx := (hx.keep hb9).top
      replace hst := hst.trans (Stw.of_below hb9)
      replace k8 := k8.keep hb9
      replace o7 := cell_keep hb9 o7
      have f7 : we.frozen? ⟨gs, who * 11 + 7, none⟩ = false := by obtain ⟨_, _, sv⟩ := hx.seat HF.out.2.2.2.2; exact sv.free 7
      have lS : gs < we.heap.size := by obtain ⟨_, _, sv⟩ := hx.seat HF.out.2.2.2.2; exact sv.lt
      have hx1 := hx.upd HF.out.2.2.2.2 (j := 7) (s' := { s with log := s.log ++ [(had, gok)] }) (v := (.slice GD (s.log.length + 1) cD)) (by decide) (fun lv gv h1 h2 => ⟨.slice GD (s.log.length + 1) cD, gv, rfl, by
        have hl : (s.log ++ [(had, gok)]).length = s.log.length + 1 := by simp
        have h9 : LogOk we 0 (.slice GD (s.log.length + 1) cD) (s.log ++ [(had, gok)]) ∨ True := .inr trivial
        refine ⟨GD, cD, by rw [hl], by have := hlog9; rw [hl] at this; exact this, fun a ha => ?_⟩
        rcases hown9.2 with ⟨h5, _⟩ | ⟨g5, cap5, cur5, h5, _, h6, _⟩
        · rw [ha] at h5; cases h5
        · rw [ha] at h5
          injection h5 with h5 _ _
          injection h5 with h5
          subst h5
          exact (Array.getElem?_eq_some_iff.1 h6).1, h2⟩)
      have hst1 := hst.trans (Stw.setS we (who * 11 + 7) (.slice GD (s.log.length + 1) cD))
      have k81 := k8.other (p := ⟨gs, who * 11 + 7, none⟩) (by dsimp only; omega) (.slice GD (s.log.length + 1) cD)
      have HX := Lib.hid (And.intro hx1 (And.intro hst1 k81))
      clear hx1 hst1 k81 hx hst k8 hlog9 hown9 hown hb9 hS9 kR
      refine wpAnyE_one (i := 12) (o := _) (by kernel_rfl) rfl (fun K hK => ?_)
      (try simp only [List.getElem_toArray, List.getElem_cons_succ, List.getElem_cons_zero])
      go_simp
      clear o7 f7 lS
      refine hK.out _ (we.setCell ⟨gs, who * 11 + 7, none⟩ (.slice GD (s.log.length + 1) cD)) (fun h => absurd h (by decide)) ?_
      clear hK K
      refine wpAnyE_done (by kernel_rfl) ?_ _
      obtain ⟨hx, hst, k8⟩ := HX.out
      clear HX
      generalize we.setCell ⟨gs, who * 11 + 7, none⟩ (.slice GD (s.log.length + 1) cD) = wf at *
      have hxf := (hx.row (cs := outZ) k8 (.inl (by unfold OurT; decide))).top
      have hstf := stw_row (cs := outZ) hst (g := b8) (by have := HB.out; omega)
      have kf := setRow_heap _ _ outZ outZ 63 (0, 0) k8
      clear hx hst
      go_wp2_with (refine wpList_store_rowTo rfl 63 (.tmp 8) (.tmp 86) rfl rfl b8 outZ rfl rfl 63 outZ k8 (by kernel_rfl) rfl (by simp [Value.oneCell']) ?_)
      refine bodyPost_ret (v := .tuple #[.agg outZ, .bool false]) (results_cell_tmp (p := 8) (t := 9) (ty := 63) rfl _ _ b8 63 outZ (0, 0) _ (.bool false) rfl rfl kf Try.underlying63 rfl (by kernel_rfl)) rfl ?_
      rw [HYZ.out]
      exact ⟨rfl, hxf, hstf⟩
end Go.Proofs.Ytgjdjgainjedhaa
