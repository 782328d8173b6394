/- task.Next. -/
import Derived.Test.YtcjaomiihajjbaaTaskH
namespace Go.Proofs.Ytcjaomiihajjbaa
open Go.RowKit
attribute [local go_sem ↓] Go.wp_at_zero Go.wp_at_succ


theorem run_look (w : World) (r : Nat) (es : Array MapEntry) (ck : Nat) (k : Int) (res : Option (Nat × Value)) (hr : w.heap[r]? = some (.map es ck)) (hn : Instr.findNow (.int .i64) (.int .i64 k) es.toList 0 = some res) :
    (Instr.lookup 86 (.map (some r)) (.int .i64 k) true).run Try.prog w = .ok (.tuple #[(res.map (·.2)).getD .nilFunc, .bool res.isSome]) w := by
  have hg : (getObj r).run Try.prog w = .ok (.map es ck) w := by
    simp only [getObj, Sem.run]
    rw [hr]
  have hck : ∀ b, (Instr.checkKey b 10000 3 (.int .i64 k)).run Try.prog w = .ok () w := fun b => by
    show (Instr.checkKey b (9999 + 1) 3 (.int .i64 k)).run Try.prog _ = _
    unfold Instr.checkKey
    simp only [Sem.run_bind, run_underlying Try.underlying3, Result.andThen_ok, Sem.run_pure]
  have hf : (Instr.findKey 3 (.int .i64 k) es.toList).run Try.prog w = .ok res w := by
    unfold Instr.findKey
    simp only [Sem.run_bind, run_underlying Try.underlying3, Result.andThen_ok, hn, Sem.run_pure]
  have hz : (zeroValue 84).run Try.prog w = .ok .nilFunc w := by kernel_rfl
  unfold Instr.lookup
  simp only [Sem.run_bind, run_underlying Try.underlying86, Result.andThen_ok, hg, hck, Sem.run_pure, hf]
  cases res with
  | none => simp only [Sem.run_bind, hz, Result.andThen_ok, Sem.run_pure]; rfl
  | some x => simp only [Sem.run_bind, Result.andThen_ok, Sem.run_pure]; rfl
theorem results_ccc {P : Program} {fn : Func} {p q t : Tmp} {t1 t2 t3 : TypeId} (h : fn.results = #[.cell p t1, .cell q t2, .cell t t3]) (tmps : Array Value) (w : World) (g1 g2 g3 : Nat) (cs1 cs2 : Array Value) (fr1 fr2 : Nat × Nat) (d1 d2 : TypeDesc) (v : Value)
    (hp : tmps.getD p undef = .pointer (some ⟨g1, 0, none⟩)) (hq : tmps.getD q undef = .pointer (some ⟨g2, 0, none⟩)) (hv : tmps.getD t undef = .pointer (some ⟨g3, 0, none⟩)) (k1 : w.heap[g1]? = some (.cells cs1 t1 fr1)) (k2 : w.heap[g2]? = some (.cells cs2 t2 fr2))
    (hu1 : P.underlying t1 = some d1) (hd1 : (match d1 with | .struct _ | .array _ _ => true | _ => false) = true) (hi1 : (P.info? t1).map (·.size) = some cs1.size)
    (hu2 : P.underlying t2 = some d2) (hd2 : (match d2 with | .struct _ | .array _ _ => true | _ => false) = true) (hi2 : (P.info? t2).map (·.size) = some cs2.size) (hl : (loadVar t3 ⟨g3, 0, none⟩).run P w = .ok v w) :
    (results fn tmps).run P w = .ok (.tuple #[.agg cs1, .agg cs2, v]) w := by
  have hp' : tmps[p]?.getD undef = .pointer (some ⟨g1, 0, none⟩) := by simpa using hp
  have hq' : tmps[q]?.getD undef = .pointer (some ⟨g2, 0, none⟩) := by simpa using hq
  have hv' : tmps[t]?.getD undef = .pointer (some ⟨g3, 0, none⟩) := by simpa using hv
  simp [results, h, hp', hq', hv', asAddr, run_loadVar_row w g1 t1 t1 cs1 fr1 d1 k1 hu1 hd1 hi1, run_loadVar_row w g2 t2 t2 cs2 fr2 d2 k2 hu2 hd2 hi2, hl]
theorem load_bool (w : World) (g : Nat) (b : Bool) (k : Bk w g 4 #[.bool b]) : (loadVar 4 ⟨g, 0, none⟩).run Try.prog w = .ok (.bool b) w := by
  have c := k.cell 0
  simp at c
  simp [go_sem, c]
def nextM (l : Ly) (op : Opr) (log : List (Int × Bool)) : Option Ans :=
  if taskAt l op.a 0 < 0 then none else if op.kind = 11 then some (makeM l op log) else if op.kind = 12 then some (claimM l op log) else if op.kind = 13 then some (syncM l op log) else if op.kind = 14 then some (endM l op log) else if op.kind = 15 then some (fetchM l op log) else none
def NextPost (r : Option Ans) (w : World) (e : Ending) (w' : World) : Prop :=
  match r with
  | none => e = .returned (.tuple #[.agg accZ, .agg (outC 0 false 1 (-1)), .bool true]) ∧ Below w.heap.size w w'
  | some (.ask k c o v) => e = .returned (.tuple #[.agg (accC k c o v), .agg outZ, .bool false]) ∧ Below w.heap.size w w'
  | some (.out val is err point) => e = .returned (.tuple #[.agg accZ, .agg (outC val is err point), .bool true]) ∧ Below w.heap.size w w'
theorem next_none (l : Ly) (op : Opr) (log : List (Int × Bool)) (res : Option (Nat × Value)) {gL gp gd gf gj : Nat} (h : Instr.findNow (.int .i64) (.int .i64 op.kind) (theMap gL gp gd gf gj).toList 0 = some res) (hn : res.isSome = false) : nextM l op log = none := by
  have hne : op.kind ≠ 11 ∧ op.kind ≠ 12 ∧ op.kind ≠ 13 ∧ op.kind ≠ 14 ∧ op.kind ≠ 15 := by
    refine ⟨?_, ?_, ?_, ?_, ?_⟩ <;> (intro e; rw [e] at h; injection h with h; subst h; cases hn)
  unfold nextM
  simp [hne]
theorem find_cases (op : Opr) (res : Option (Nat × Value)) {gL gp gd gf gj : Nat} (h : Instr.findNow (.int .i64) (.int .i64 op.kind) (theMap gL gp gd gf gj).toList 0 = some res) (hn : res.isSome = true) :
    (op.kind = 11 ∧ (res.map (·.2)).getD .nilFunc = mkV gd gL gf gp) ∨ (op.kind = 12 ∧ (res.map (·.2)).getD .nilFunc = clV gd gf gp) ∨ (op.kind = 13 ∧ (res.map (·.2)).getD .nilFunc = syV gj gp) ∨ (op.kind = 14 ∧ (res.map (·.2)).getD .nilFunc = enV gd gf gp gL gj) ∨ (op.kind = 15 ∧ (res.map (·.2)).getD .nilFunc = feV gd gf gp) := by
  by_cases h1 : op.kind = 11
  · rw [h1] at h; injection h with h; subst h; exact .inl ⟨h1, rfl⟩
  by_cases h2 : op.kind = 12
  · rw [h2] at h; injection h with h; subst h; exact .inr (.inl ⟨h2, rfl⟩)
  by_cases h3 : op.kind = 13
  · rw [h3] at h; injection h with h; subst h; exact .inr (.inr (.inl ⟨h3, rfl⟩))
  by_cases h4 : op.kind = 14
  · rw [h4] at h; injection h with h; subst h; exact .inr (.inr (.inr (.inl ⟨h4, rfl⟩)))
  by_cases h5 : op.kind = 15
  · rw [h5] at h; injection h with h; subst h; exact .inr (.inr (.inr (.inr ⟨h5, rfl⟩)))
  exfalso
  have e1 : (op.kind == 11) = false := by simp [h1]
  have e2 : (op.kind == 12) = false := by simp [h2]
  have e3 : (op.kind == 13) = false := by simp [h3]
  have e4 : (op.kind == 14) = false := by simp [h4]
  have e5 : (op.kind == 15) = false := by simp [h5]
  simp [Instr.findNow, Instr.sameNow, e1, e2, e3, e4, e5] at h
  subst h
  cases hn
theorem wpList_load_rowG {P : Program} {ops : Array Oper} {rest : List Oper} {o : Oper} {a : Act} {w : World} {Q : Exit → Act → World → Prop} (hgd : Region.wanted o (yielded ops a.tmps) = true) (ty : TypeId) (x : Operand) (ho : o.op = .load ty x)
    (g : Nat) (hx : a.eval x = .pointer (some ⟨g, 0, none⟩)) (t : TypeId) (cs : Array Value) (fr : Nat × Nat) (d : TypeDesc) (hg : w.heap[g]? = some (.cells cs t fr))
    (hu : P.underlying ty = some d) (hd : (match d with | .struct _ | .array _ _ => true | _ => false) = true) (hi : (P.info? ty).map (·.size) = some cs.size)
    (h : wpList P ops Q rest (a.put o.dst (.agg cs)) w) : wpList P ops Q (o :: rest) a w := by
  simp only [wpList, hgd, if_true]
  exact .inl (wp_load_row ty x ho g hx t cs fr d hg hu hd hi h)
theorem leaves_congr {P : Program} {fn : Func} {t t' : Array Value} {R : Ending → World → Prop} (h : results fn t = results fn t') : ∀ (ds : List Deferred) (u : FrameMode) (w : World), Leaves P fn t R ds u w → Leaves P fn t' R ds u w := by
  intro ds
  induction ds with
  | nil =>
    intro u w hl
    cases u with
    | returning =>
      obtain ⟨v, h1, h2⟩ := hl
      exact ⟨v, by rw [← h]; exact h1, h2⟩
    | panicking c => exact hl
    | run => exact hl.elim
  | cons d ds ih =>
    intro u w hl
    obtain ⟨hu, fv, cap, f, args, h1, h2, h3⟩ := hl
    refine ⟨hu, fv, cap, f, args, h1, h2, h3.mono (fun e u' w' hq => ?_)⟩
    cases e with
    | returned v => exact ih _ _ hq
    | panicked c => exact ih _ _ hq
    | outgrown => exact hq
theorem next_put {R : Ending → World → Prop} {K : Act → World → Prop} {c : List PanicEntry} {a : Act} {w : World} {d : Nat} {v : Value} (hd : d ≠ 10 ∧ d ≠ 11 ∧ d ≠ 12) (h : Exit.then K (bodyPostD Try.prog Try.f14 R) (Exit.panic c) (a.put (some d) v) w) : Exit.then K (bodyPostD Try.prog Try.f14 R) (Exit.panic c) a w := by
  have hres : results Try.f14 (a.put (some d) v).tmps = results Try.f14 a.tmps := by
    have hr : Try.f14.results = #[.cell 10 44, .cell 11 50, .cell 12 4] := Try.results14
    simp [results, Act.put, Array.getElem?_setIfInBounds, hd.1, hd.2.1, hd.2.2]
  exact leaves_congr hres _ _ _ h
set_option maxRecDepth 100000 in
set_option maxHeartbeats 8000000 in
theorem next_any (l : Ly) (me : Int) (op : Opr) (A : Option Addr) (cap : Nat) (log : List (Int × Bool)) (w : World) (f : TkFit l) (ha : op.a ≤ 9223372036854775807) (hs : SlRes w w.heap.size A log) (hl : log.length ≤ 1000) (hlo : ∀ x ∈ log, -9223372036854775808 ≤ x.1 ∧ x.1 ≤ 9223372036854775807) :
    Calls Try.prog 14 #[lyV l, .int .i64 me, .slice none 0 0, .agg (oprC op), .slice A log.length cap] w (NextPost (nextM l op log) w) := by
  have hmf : ∀ (fn : Fn) (first cap : Array Value) (w : World), (Instr.makeFunc fn first cap).run Try.prog w = .ok (.func fn first cap) w := fun _ _ _ _ => rfl
  have k0 := (((((((Bk.made w 34 (lyC l)).alloc (.cells #[.slice none 0 0] 48)).alloc (.cells (oprC op) 30)).alloc (.cells #[.slice A log.length cap] 61)).alloc (.cells accZ 44)).alloc (.cells outZ 50)).alloc (.cells #[.bool false] 4)).alloc (.cells #[.int .i64 0] 3)
  have k1 := ((((((Bk.new (w.alloc (.cells (lyC l) 34)) (g := w.heap.size + 1) (by simp) 48 #[.slice none 0 0]).alloc (.cells (oprC op) 30)).alloc (.cells #[.slice A log.length cap] 61)).alloc (.cells accZ 44)).alloc (.cells outZ 50)).alloc (.cells #[.bool false] 4)).alloc (.cells #[.int .i64 0] 3)
  have k2 := (((((Bk.new ((w.alloc (.cells (lyC l) 34)).alloc (.cells #[.slice none 0 0] 48)) (g := w.heap.size + 1 + 1) (by simp) 30 (oprC op)).alloc (.cells #[.slice A log.length cap] 61)).alloc (.cells accZ 44)).alloc (.cells outZ 50)).alloc (.cells #[.bool false] 4)).alloc (.cells #[.int .i64 0] 3)
  have k3 := ((((Bk.new (((w.alloc (.cells (lyC l) 34)).alloc (.cells #[.slice none 0 0] 48)).alloc (.cells (oprC op) 30)) (g := w.heap.size + 1 + 1 + 1) (by simp) 61 #[.slice A log.length cap]).alloc (.cells accZ 44)).alloc (.cells outZ 50)).alloc (.cells #[.bool false] 4)).alloc (.cells #[.int .i64 0] 3)
  have k4 := (((Bk.new ((((w.alloc (.cells (lyC l) 34)).alloc (.cells #[.slice none 0 0] 48)).alloc (.cells (oprC op) 30)).alloc (.cells #[.slice A log.length cap] 61)) (g := w.heap.size + 1 + 1 + 1 + 1) (by simp) 44 accZ).alloc (.cells outZ 50)).alloc (.cells #[.bool false] 4)).alloc (.cells #[.int .i64 0] 3)
  have k5 := ((Bk.new (((((w.alloc (.cells (lyC l) 34)).alloc (.cells #[.slice none 0 0] 48)).alloc (.cells (oprC op) 30)).alloc (.cells #[.slice A log.length cap] 61)).alloc (.cells accZ 44)) (g := w.heap.size + 1 + 1 + 1 + 1 + 1) (by simp) 50 outZ).alloc (.cells #[.bool false] 4)).alloc (.cells #[.int .i64 0] 3)
  have k6 := (Bk.new ((((((w.alloc (.cells (lyC l) 34)).alloc (.cells #[.slice none 0 0] 48)).alloc (.cells (oprC op) 30)).alloc (.cells #[.slice A log.length cap] 61)).alloc (.cells accZ 44)).alloc (.cells outZ 50)) (g := w.heap.size + 1 + 1 + 1 + 1 + 1 + 1) (by simp) 4 #[.bool false]).alloc (.cells #[.int .i64 0] 3)
  have k7 := Bk.new (((((((w.alloc (.cells (lyC l) 34)).alloc (.cells #[.slice none 0 0] 48)).alloc (.cells (oprC op) 30)).alloc (.cells #[.slice A log.length cap] 61)).alloc (.cells accZ 44)).alloc (.cells outZ 50)).alloc (.cells #[.bool false] 4)) (g := w.heap.size + 1 + 1 + 1 + 1 + 1 + 1 + 1) (by simp) 3 #[.int .i64 0]
  have hbl := below_al (below_al (below_al (below_al (below_al (below_al (below_al (below_al (Below.refl w.heap.size w) (.cells (lyC l) 34)) (.cells #[.slice none 0 0] 48)) (.cells (oprC op) 30)) (.cells #[.slice A log.length cap] 61)) (.cells accZ 44)) (.cells outZ 50)) (.cells #[.bool false] 4)) (.cells #[.int .i64 0] 3)
  go_enter_defers Try.func14, Try.ntmps14
  go_upto_region 3 with fail
  generalize ((((((((w.alloc (.cells (lyC l) 34)).alloc (.cells #[.slice none 0 0] 48)).alloc (.cells (oprC op) 30)).alloc (.cells #[.slice A log.length cap] 61)).alloc (.cells accZ 44)).alloc (.cells outZ 50)).alloc (.cells #[.bool false] 4)).alloc (.cells #[.int .i64 0] 3)) = w8 at *
  obtain ⟨b0, hb0⟩ : ∃ g, w.heap.size = g := ⟨_, rfl⟩
  obtain ⟨b1, hb1⟩ : ∃ g, w.heap.size + 1 = g := ⟨_, rfl⟩
  obtain ⟨b2, hb2⟩ : ∃ g, w.heap.size + 1 + 1 = g := ⟨_, rfl⟩
  obtain ⟨b3, hb3⟩ : ∃ g, w.heap.size + 1 + 1 + 1 = g := ⟨_, rfl⟩
  obtain ⟨b4, hb4⟩ : ∃ g, w.heap.size + 1 + 1 + 1 + 1 = g := ⟨_, rfl⟩
  obtain ⟨b5, hb5⟩ : ∃ g, w.heap.size + 1 + 1 + 1 + 1 + 1 = g := ⟨_, rfl⟩
  obtain ⟨b6, hb6⟩ : ∃ g, w.heap.size + 1 + 1 + 1 + 1 + 1 + 1 = g := ⟨_, rfl⟩
  obtain ⟨b7, hb7⟩ : ∃ g, w.heap.size + 1 + 1 + 1 + 1 + 1 + 1 + 1 = g := ⟨_, rfl⟩
  rw [hb7] at k7 ⊢
  rw [hb6] at k6 ⊢
  rw [hb5] at k5 ⊢
  rw [hb4] at k4 ⊢
  rw [hb3] at k3 ⊢
  rw [hb2] at k2 ⊢
  rw [hb1] at k1 ⊢
  rw [hb0] at k0 ⊢
  have n0 : w.heap.size ≤ b0 := by omega
  have n1 : w.heap.size ≤ b1 := by omega
  have n2 : w.heap.size ≤ b2 := by omega
  have n3 : w.heap.size ≤ b3 := by omega
  have n4 : w.heap.size ≤ b4 := by omega
  have n5 : w.heap.size ≤ b5 := by omega
  have n6 : w.heap.size ≤ b6 := by omega
  have n7 : w.heap.size ≤ b7 := by omega
  have hne7 : b0 ≠ b7 ∧ b1 ≠ b7 ∧ b2 ≠ b7 ∧ b3 ≠ b7 ∧ b4 ≠ b7 ∧ b5 ≠ b7 ∧ b6 ≠ b7 := by omega
  have hch : b0 < b1 ∧ b1 < b2 ∧ b2 < b3 ∧ b3 < b4 ∧ b4 < b5 ∧ b5 < b6 ∧ b6 < b7 := by omega
  clear hb0 hb1 hb2 hb3 hb4 hb5 hb6 hb7
  refine wp_region_held_drew (S := fun w' => Bk w' b0 34 (lyC l) ∧ Bk w' b2 30 (oprC op)) (by kernel_rfl) ⟨k0.drew, k2.drew⟩ (fun hHeld => ?_)
  clear hHeld
  replace k0 := k0.drew
  replace k1 := k1.drew
  replace k2 := k2.drew
  replace k3 := k3.drew
  replace k4 := k4.drew
  replace k5 := k5.drew
  replace k6 := k6.drew
  replace k7 := k7.drew
  replace hbl := hbl.drew
  generalize w8.drew = w9 at *
  refine wpAnyH_take (i := 0) (oi := _) (v := .agg (lyC l)) rfl (by kernel_rfl) (by kernel_rfl) (by kernel_rfl) (fun _ _ _ h => next_put (by omega) h) (Or.inl ⟨by rfl, ?_⟩) ⟨k0, k2⟩ ?_
  · intro w' hSw
    (try simp only [List.getElem_toArray, List.getElem_cons_zero])
    simp only [execOp, Instr.loadAt, Instr.sureAddr, Sem.run_bind, Sem.run_pure]
    rw [show (Act.eval _ (Operand.tmp 5)) = Value.pointer (some ⟨b0, 0, none⟩) from rfl]
    simp only [Sem.run_pure, Result.andThen_ok, run_loadVar_row w' b0 34 34 (lyC l) (0, 0) _ hSw.1 Try.underlying34 rfl (by kernel_rfl)]
  (try simp only [List.getElem_toArray, List.getElem_cons_zero, Act.put, List.setIfInBounds_toArray, List.set_cons_zero, List.set_cons_succ])
  refine wpAnyH_take (i := 1) (oi := _) (v := .agg (oprC op)) rfl (by kernel_rfl) (by kernel_rfl) (by kernel_rfl) (fun _ _ _ h => next_put (by omega) h) (Or.inl ⟨by rfl, ?_⟩) ⟨k0, k2⟩ ?_
  · intro w' hSw
    (try simp only [List.getElem_toArray, List.getElem_cons_succ, List.getElem_cons_zero])
    simp only [execOp, Instr.loadAt, Instr.sureAddr, Sem.run_bind, Sem.run_pure]
    rw [show (Act.eval _ (Operand.tmp 8)) = Value.pointer (some ⟨b2, 0, none⟩) from rfl]
    simp only [Sem.run_pure, Result.andThen_ok, run_loadVar_row w' b2 30 30 (oprC op) (0, 0) _ hSw.2 Try.underlying30 rfl (by kernel_rfl)]
  (try simp only [List.getElem_toArray, List.getElem_cons_succ, List.getElem_cons_zero, Act.put, List.setIfInBounds_toArray, List.set_cons_zero, List.set_cons_succ])
  refine wpAnyH_take (i := 2) (oi := _) (v := doV b7 b3) rfl (by kernel_rfl) (by kernel_rfl) (by kernel_rfl) (fun _ _ _ h => next_put (by omega) h) (Or.inl ⟨by rfl, ?_⟩) ⟨k0, k2⟩ ?_
  · intro w' hSw
    (try simp only [List.getElem_toArray, List.getElem_cons_succ, List.getElem_cons_zero])
    go_simp
  (try simp only [List.getElem_toArray, List.getElem_cons_succ, List.getElem_cons_zero, Act.put, List.setIfInBounds_toArray, List.set_cons_zero, List.set_cons_succ])
  refine wpAnyH_take (i := 4) (oi := _) (v := .pointer (some ⟨b2, 0, none⟩)) rfl (by kernel_rfl) (by kernel_rfl) (by kernel_rfl) (fun _ _ _ h => next_put (by omega) h) (Or.inl ⟨by rfl, ?_⟩) ⟨k0, k2⟩ ?_
  · intro w' hSw
    (try simp only [List.getElem_toArray, List.getElem_cons_succ, List.getElem_cons_zero])
    go_simp
  (try simp only [List.getElem_toArray, List.getElem_cons_succ, List.getElem_cons_zero, Act.put, List.setIfInBounds_toArray, List.set_cons_zero, List.set_cons_succ])
  refine wpAnyH_take (i := 5) (oi := _) (v := .int .i64 op.kind) rfl (by kernel_rfl) (by kernel_rfl) (by kernel_rfl) (fun _ _ _ h => next_put (by omega) h) (Or.inl ⟨by rfl, ?_⟩) ⟨k0, k2⟩ ?_
  · intro w' hSw
    (try simp only [List.getElem_toArray, List.getElem_cons_succ, List.getElem_cons_zero])
    have s0 := hSw.2.cell 0
    simp at s0
    go_simp
  (try simp only [List.getElem_toArray, List.getElem_cons_succ, List.getElem_cons_zero, Act.put, List.setIfInBounds_toArray, List.set_cons_zero, List.set_cons_succ])
  refine wpAnyH_ready (rs := [3]) (by kernel_rfl) (by simp) ?_
  refine AllReadyH.cons (o := _) rfl (fun K hK => ?_) AllReadyH.nil
  (try simp only [List.getElem_toArray, List.getElem_cons_succ, List.getElem_cons_zero])
  go_simp
  (with_reducible refine (programs_any l op b7 b3 _).mono ?_)
  rintro e w10 ⟨gL, gp, gd, gf, gj, r, rfl, m1, m2, m3, m4, m5, j1, j2, j3, j4, j5, hr, hb⟩
  have l0 := k0.lt
  have l1 := k1.lt
  have l2 := k2.lt
  have l3 := k3.lt
  have l4 := k4.lt
  have l5 := k5.lt
  have l6 := k6.lt
  have l7 := k7.lt
  replace k0 := k0.keep hb
  replace k1 := k1.keep hb
  replace k2 := k2.keep hb
  replace k3 := k3.keep hb
  replace k4 := k4.keep hb
  replace k5 := k5.keep hb
  replace k6 := k6.keep hb
  replace k7 := k7.keep hb
  replace hbl := below_tr hbl hb
  clear hb
  refine hK.out _ _ ⟨k0, k2⟩ (fun hS' => ?_)
  clear hS' hK K
  (try simp only [List.getElem_toArray, List.getElem_cons_succ, List.getElem_cons_zero, Act.put, List.setIfInBounds_toArray, List.set_cons_zero, List.set_cons_succ])
  obtain ⟨res, hres⟩ : ∃ res, Instr.findNow (.int .i64) (.int .i64 op.kind) (theMap gL gp gd gf gj).toList 0 = some res := by
    have h : ∀ es : List MapEntry, (∀ e ∈ es, ∃ q, e.key = .int .i64 q) → ∀ n, ∃ res, Instr.findNow (.int .i64) (.int .i64 op.kind) es n = some res := by
      intro es
      induction es with
      | nil => intro _ n; exact ⟨none, rfl⟩
      | cons e es ih =>
        intro he n
        obtain ⟨q, hq⟩ := he e (by simp)
        by_cases hk : op.kind = q
        · exact ⟨some (n, e.val), by simp [Instr.findNow, hq, Instr.sameNow, hk]⟩
        · obtain ⟨res, hr⟩ := ih (fun x hx => he x (by simp [hx])) (n + 1)
          have hb : (op.kind == q) = false := by simp [hk]
          exact ⟨res, by simp [Instr.findNow, hq, Instr.sameNow, hb, hr]⟩
    refine h _ (fun e he => ?_) 0
    simp at he
    rcases he with rfl | rfl | rfl | rfl | rfl <;> exact ⟨_, rfl⟩
  have hlk := run_look w10 r _ 5 op.kind res hr hres
  obtain ⟨pv, hpv⟩ : ∃ v, (res.map (·.2)).getD .nilFunc = v := ⟨_, rfl⟩
  obtain ⟨pk, hpk⟩ : ∃ b, res.isSome = b := ⟨_, rfl⟩
  rw [hpv, hpk] at hlk
  have HP := Lib.hid (And.intro hres (And.intro hpv hpk))
  clear hres hpv hpk
  refine wpAnyH_ready (rs := [6]) (by kernel_rfl) (by simp) ?_
  refine AllReadyH.cons (o := _) rfl (fun K hK => ?_) AllReadyH.nil
  (try simp only [List.getElem_toArray, List.getElem_cons_succ, List.getElem_cons_zero])
  go_simp
  refine hK.out _ _ ⟨k0, k2⟩ (fun hS' => ?_)
  clear hS' hK K hlk
  (try simp only [List.getElem_toArray, List.getElem_cons_succ, List.getElem_cons_zero, Act.put, List.setIfInBounds_toArray, List.set_cons_zero, List.set_cons_succ])
  refine wpAnyH_take (i := 7) (oi := _) (v := .tuple #[pv, .bool pk]) rfl (by kernel_rfl) (by kernel_rfl) (by kernel_rfl) (fun _ _ _ h => next_put (by omega) h) (Or.inl ⟨by rfl, ?_⟩) ⟨k0, k2⟩ ?_
  · intro w' hSw
    (try simp only [List.getElem_toArray, List.getElem_cons_succ, List.getElem_cons_zero])
    go_simp
  (try simp only [List.getElem_toArray, List.getElem_cons_succ, List.getElem_cons_zero, Act.put, List.setIfInBounds_toArray, List.set_cons_zero, List.set_cons_succ])
  refine wpAnyH_take (i := 8) (oi := _) (v := pv) rfl (by kernel_rfl) (by kernel_rfl) (by kernel_rfl) (fun _ _ _ h => next_put (by omega) h) (Or.inl ⟨by rfl, ?_⟩) ⟨k0, k2⟩ ?_
  · intro w' hSw
    (try simp only [List.getElem_toArray, List.getElem_cons_succ, List.getElem_cons_zero])
    go_simp
  (try simp only [List.getElem_toArray, List.getElem_cons_succ, List.getElem_cons_zero, Act.put, List.setIfInBounds_toArray, List.set_cons_zero, List.set_cons_succ])
  refine wpAnyH_take (i := 9) (oi := _) (v := .bool pk) rfl (by kernel_rfl) (by kernel_rfl) (by kernel_rfl) (fun _ _ _ h => next_put (by omega) h) (Or.inl ⟨by rfl, ?_⟩) ⟨k0, k2⟩ ?_
  · intro w' hSw
    (try simp only [List.getElem_toArray, List.getElem_cons_succ, List.getElem_cons_zero])
    go_simp
  (try simp only [List.getElem_toArray, List.getElem_cons_succ, List.getElem_cons_zero, Act.put, List.setIfInBounds_toArray, List.set_cons_zero, List.set_cons_succ])
  refine wpAnyH_take (i := 10) (oi := _) (v := pv) rfl (by kernel_rfl) (by kernel_rfl) (by kernel_rfl) (fun _ _ _ h => next_put (by omega) h) (Or.inl ⟨by rfl, ?_⟩) ⟨k0, k2⟩ ?_
  · intro w' hSw
    (try simp only [List.getElem_toArray, List.getElem_cons_succ, List.getElem_cons_zero])
    go_simp
  (try simp only [List.getElem_toArray, List.getElem_cons_succ, List.getElem_cons_zero, Act.put, List.setIfInBounds_toArray, List.set_cons_zero, List.set_cons_succ])
  refine wpAnyH_take (i := 11) (oi := _) (v := .bool pk) rfl (by kernel_rfl) (by kernel_rfl) (by kernel_rfl) (fun _ _ _ h => next_put (by omega) h) (Or.inl ⟨by rfl, ?_⟩) ⟨k0, k2⟩ ?_
  · intro w' hSw
    (try simp only [List.getElem_toArray, List.getElem_cons_succ, List.getElem_cons_zero])
    go_simp
  (try simp only [List.getElem_toArray, List.getElem_cons_succ, List.getElem_cons_zero, Act.put, List.setIfInBounds_toArray, List.set_cons_zero, List.set_cons_succ])
  refine wpAnyH_done (by kernel_rfl) ?_ _
  cases pk
  · have HNX := Lib.hid (next_none l op log res HP.out.1 HP.out.2.2)
    have q1 := k1.cell 0
    simp at q1
    go_wp2_with fail
    clear q1
    (with_reducible refine (refuse_nil _).mono ?_)
    rintro e w11 ⟨rfl, hb⟩
    replace k4 := k4.keep hb
    replace k5 := k5.keep hb
    replace k6 := k6.keep hb
    replace hbl := below_tr hbl hb
    clear hb
    have a4 := setRow_heap _ _ accZ accZ 44 (0, 0) k4
    have a5 : Bk (w11.setRow b4 accZ) b5 50 outZ := (setRow_other _ _ _ _ (by omega)).trans k5
    have a5' := setRow_heap _ _ outZ (outC 0 false 1 (-1)) 50 (0, 0) a5
    have a6 : Bk ((w11.setRow b4 accZ).setRow b5 (outC 0 false 1 (-1))) b6 4 #[.bool false] := (setRow_other _ _ _ _ (by omega)).trans ((setRow_other _ _ _ _ (by omega)).trans k6)
    have a6' : Bk (((w11.setRow b4 accZ).setRow b5 (outC 0 false 1 (-1))).setRow b6 #[.bool true]) b6 4 #[.bool true] := setRow_heap _ _ #[.bool false] #[.bool true] 4 (0, 0) a6
    have c4 : (((w11.setRow b4 accZ).setRow b5 (outC 0 false 1 (-1))).setRow b6 #[.bool true]).heap[b4]? = some (.cells accZ 44 (0, 0)) := (setRow_other _ _ _ _ (by omega)).trans ((setRow_other _ _ _ _ (by omega)).trans a4)
    have c5 : (((w11.setRow b4 accZ).setRow b5 (outC 0 false 1 (-1))).setRow b6 #[.bool true]).heap[b5]? = some (.cells (outC 0 false 1 (-1)) 50 (0, 0)) := (setRow_other _ _ _ _ (by omega)).trans a5'
    have hfin := below_setRow (below_setRow (below_setRow hbl n4 accZ) n5 (outC 0 false 1 (-1))) n6 #[.bool true]
    go_wp2_with (first
      | (refine wpList_store_rowTo rfl 44 (.tmp 10) (.tmp 39) rfl rfl b4 accZ rfl rfl 44 accZ k4 (by kernel_rfl) rfl (by simp [Value.oneCell']) ?_)
      | (refine wpList_store_rowTo rfl 50 (.tmp 11) (.tmp 40) rfl rfl b5 (outC 0 false 1 (-1)) rfl rfl 50 outZ a5 (by kernel_rfl) rfl (by simp [Value.oneCell']) ?_)
      | (refine wpList_store_oneTo rfl 4 (.tmp 12) (.tmp 41) rfl rfl b6 (.bool true) rfl rfl rfl 4 (.bool false) a6 (by kernel_rfl) ?_))
    refine ⟨_, results_ccc (p := 10) (q := 11) (t := 12) (t1 := 44) (t2 := 50) (t3 := 4) rfl _ _ b4 b5 b6 accZ (outC 0 false 1 (-1)) (0, 0) (0, 0) _ _ _ rfl rfl rfl c4 c5 Try.underlying44 rfl (by kernel_rfl) Try.underlying50 rfl (by kernel_rfl) (load_bool _ b6 true a6'), ?_⟩
    rw [HNX.out]
    exact ⟨rfl, hfin⟩
  · by_cases htk : taskAt l op.a 0 < 0
    · have HNX := Lib.hid (show nextM l op log = none by unfold nextM; rw [if_pos htk])
      have g1 : decide (taskAt l op.a 0 < 0) = true := by simpa using htk
      have q1 := k1.cell 0
      have q2 := k2.cell 2
      simp at q1 q2
      go_wp2_with (refine wpList_load_rowG (by rfl) 34 (.tmp 5) rfl b0 rfl 34 (lyC l) (0, 0) _ k0 Try.underlying34 rfl (by kernel_rfl) ?_)
      (with_reducible refine (task_any l op.a 0 _ f ha).mono ?_)
      rintro e w10' ⟨rfl, hb⟩
      replace k1 := k1.keep hb
      replace k4 := k4.keep hb
      replace k5 := k5.keep hb
      replace k6 := k6.keep hb
      replace hbl := below_tr hbl hb
      clear hb q1 q2
      have q1 := k1.cell 0
      simp at q1
      go_wp2_with fail
      clear q1
      (with_reducible refine (refuse_nil _).mono ?_)
      rintro e w11 ⟨rfl, hb⟩
      replace k4 := k4.keep hb
      replace k5 := k5.keep hb
      replace k6 := k6.keep hb
      replace hbl := below_tr hbl hb
      clear hb
      have a4 := setRow_heap _ _ accZ accZ 44 (0, 0) k4
      have a5 : Bk (w11.setRow b4 accZ) b5 50 outZ := (setRow_other _ _ _ _ (by omega)).trans k5
      have a5' := setRow_heap _ _ outZ (outC 0 false 1 (-1)) 50 (0, 0) a5
      have a6 : Bk ((w11.setRow b4 accZ).setRow b5 (outC 0 false 1 (-1))) b6 4 #[.bool false] := (setRow_other _ _ _ _ (by omega)).trans ((setRow_other _ _ _ _ (by omega)).trans k6)
      have a6' : Bk (((w11.setRow b4 accZ).setRow b5 (outC 0 false 1 (-1))).setRow b6 #[.bool true]) b6 4 #[.bool true] := setRow_heap _ _ #[.bool false] #[.bool true] 4 (0, 0) a6
      have c4 : (((w11.setRow b4 accZ).setRow b5 (outC 0 false 1 (-1))).setRow b6 #[.bool true]).heap[b4]? = some (.cells accZ 44 (0, 0)) := (setRow_other _ _ _ _ (by omega)).trans ((setRow_other _ _ _ _ (by omega)).trans a4)
      have c5 : (((w11.setRow b4 accZ).setRow b5 (outC 0 false 1 (-1))).setRow b6 #[.bool true]).heap[b5]? = some (.cells (outC 0 false 1 (-1)) 50 (0, 0)) := (setRow_other _ _ _ _ (by omega)).trans a5'
      have hfin := below_setRow (below_setRow (below_setRow hbl n4 accZ) n5 (outC 0 false 1 (-1))) n6 #[.bool true]
      go_wp2_with (first
        | (refine wpList_store_rowTo rfl 44 (.tmp 10) (.tmp 39) rfl rfl b4 accZ rfl rfl 44 accZ k4 (by kernel_rfl) rfl (by simp [Value.oneCell']) ?_)
        | (refine wpList_store_rowTo rfl 50 (.tmp 11) (.tmp 40) rfl rfl b5 (outC 0 false 1 (-1)) rfl rfl 50 outZ a5 (by kernel_rfl) rfl (by simp [Value.oneCell']) ?_)
        | (refine wpList_store_oneTo rfl 4 (.tmp 12) (.tmp 41) rfl rfl b6 (.bool true) rfl rfl rfl 4 (.bool false) a6 (by kernel_rfl) ?_))
      refine ⟨_, results_ccc (p := 10) (q := 11) (t := 12) (t1 := 44) (t2 := 50) (t3 := 4) rfl _ _ b4 b5 b6 accZ (outC 0 false 1 (-1)) (0, 0) (0, 0) _ _ _ rfl rfl rfl c4 c5 Try.underlying44 rfl (by kernel_rfl) Try.underlying50 rfl (by kernel_rfl) (load_bool _ b6 true a6'), ?_⟩
      rw [HNX.out]
      exact ⟨rfl, hfin⟩
    · have g1 : decide (taskAt l op.a 0 < 0) = false := by simpa using htk
      have HT := Lib.hid htk
      clear htk
      have hcs := find_cases op res HP.out.1 HP.out.2.2
      rw [HP.out.2.1] at hcs
      have q2 := k2.cell 2
      simp at q2
      go_wp2_with (refine wpList_load_rowG (by rfl) 34 (.tmp 5) rfl b0 rfl 34 (lyC l) (0, 0) _ k0 Try.underlying34 rfl (by kernel_rfl) ?_)
      (with_reducible refine (task_any l op.a 0 _ f ha).mono ?_)
      rintro e w12 ⟨rfl, hb⟩
      replace k1 := k1.keep hb
      replace k3 := k3.keep hb
      replace k4 := k4.keep hb
      replace k5 := k5.keep hb
      replace k6 := k6.keep hb
      replace k7 := k7.keep hb
      replace j1 := j1.keep hb
      replace j2 := j2.keep hb
      replace j3 := j3.keep hb
      replace j4 := j4.keep hb
      replace j5 := j5.keep hb
      replace hbl := below_tr hbl hb
      clear hb q2 hr k0 k2
      have hE : Env w12 l w.heap.size gL gd gf b7 b3 A cap 0 log := ⟨j1, j3, j4, ⟨k7, k3, hs.below hbl, n7, by omega, hl⟩, by omega, by omega, by omega⟩
      have np : gp ≠ b7 := by omega
      have nj : gj ≠ b7 := by omega
      clear HP
      rcases hcs with ⟨hk, rfl⟩ | ⟨hk, rfl⟩ | ⟨hk, rfl⟩ | ⟨hk, rfl⟩ | ⟨hk, rfl⟩
      · have HNX := Lib.hid (show nextM l op log = some (makeM l op log) by unfold nextM; rw [if_neg (Int.not_lt.2 HT.out), if_pos hk])
        go_wp2_with fail
        (with_reducible refine (make_any hE j2 np f ha hlo).mono ?_)
        intro e w13 hpost
        obtain ⟨ans, hans⟩ : ∃ a, makeM l op log = a := ⟨_, rfl⟩
        rw [hans] at hpost HNX
        clear hans
        cases ans with
        | ask k c o v =>
          obtain ⟨rfl, hst⟩ := hpost
          replace k4 := hst.keep k4 (by omega)
          replace k5 := hst.keep k5 (by omega)
          replace k6 := hst.keep k6 (by omega)
          replace hbl := hst.below n7 hbl
          refine leaves_cons (f := 28) (args := #[ptr b4, ptr b1, ptr b5, ptr b6]) (by simp) (by simp [go_sem]) ?_
          refine (catch_asked k c o v b4 b1 b5 b6 _ k4).mono ?_
          rintro e u' w14 ⟨rfl, rfl, ka, hs2⟩
          replace k5 := hs2.keep k5 (by omega)
          replace k6 := hs2.keep k6 (by omega)
          replace hbl := hs2.below n4 hbl
          refine ⟨_, results_ccc (p := 10) (q := 11) (t := 12) (t1 := 44) (t2 := 50) (t3 := 4) rfl _ _ b4 b5 b6 (accC k c o v) outZ (0, 0) (0, 0) _ _ _ rfl rfl rfl ka k5 Try.underlying44 rfl (by kernel_rfl) Try.underlying50 rfl (by kernel_rfl) (load_bool _ b6 false k6), ?_⟩
          rw [HNX.out]
          exact ⟨rfl, hbl⟩
        | out val is err point =>
          obtain ⟨rfl, hst⟩ := hpost
          replace k1 := hst.keep k1 (by omega)
          replace k4 := hst.keep k4 (by omega)
          replace k5 := hst.keep k5 (by omega)
          replace k6 := hst.keep k6 (by omega)
          replace hbl := hst.below n7 hbl
          clear hst hE j1 j2 j3 j4 j5 k3 k7
          have a5 : Bk (w13.setRow b5 (outC val is err point)) b5 50 (outC val is err point) := setRow_heap _ _ outZ (outC val is err point) 50 (0, 0) k5
          have a1 : Bk (w13.setRow b5 (outC val is err point)) b1 48 #[.slice none 0 0] := (setRow_other _ _ _ _ (by omega)).trans k1
          have a4 : Bk (w13.setRow b5 (outC val is err point)) b4 44 accZ := (setRow_other _ _ _ _ (by omega)).trans k4
          have a6 : Bk (w13.setRow b5 (outC val is err point)) b6 4 #[.bool false] := (setRow_other _ _ _ _ (by omega)).trans k6
          replace hbl := below_setRow hbl n5 (outC val is err point)
          go_upto_region 8 with (refine wpList_store_rowTo rfl 50 (.tmp 11) (.tmp 44) rfl rfl b5 (outC val is err point) rfl rfl 50 outZ k5 (by kernel_rfl) rfl (by simp [Value.oneCell']) ?_)
          clear k1 k4 k5 k6
          generalize w13.setRow b5 (outC val is err point) = w14 at *
          have q1 := a1.cell 0
          simp at q1
          go_wp2_with fail
          clear q1
          (with_reducible refine (clone_nil _).mono ?_)
          rintro e w15 ⟨rfl, hb⟩
          replace a4 := a4.keep hb
          replace a5 := a5.keep hb
          replace a6 := a6.keep hb
          replace hbl := below_tr hbl hb
          clear hb
          have q4 := a5.cell 4
          have f4 := a5.free 4
          have l4' := a5.lt
          simp at q4
          go_upto_region 9 with fail
          clear q4 f4 l4'
          replace a5 : Bk (w15.setCell ⟨b5, 4, none⟩ (.slice none 0 0)) b5 50 (outC val is err point) := a5.stored 4 (.slice none 0 0)
          replace a4 := a4.other (p := ⟨b5, 4, none⟩) (by dsimp only; omega) (.slice none 0 0)
          replace a6 := a6.other (p := ⟨b5, 4, none⟩) (by dsimp only; omega) (.slice none 0 0)
          replace hbl := below_set hbl (p := ⟨b5, 4, none⟩) n5 (.slice none 0 0)
          generalize w15.setCell ⟨b5, 4, none⟩ (.slice none 0 0) = w16 at *
          refine wp_region_held_drew (S := fun w' => Bk w' b5 50 (outC val is err point)) (by kernel_rfl) a5.drew (fun hHeld => ?_)
          clear hHeld
          replace a4 := a4.drew
          replace a5 := a5.drew
          replace a6 := a6.drew
          replace hbl := hbl.drew
          generalize w16.drew = w17 at *
          refine wpAnyH_take (i := 0) (oi := _) (v := .agg accZ) rfl (by kernel_rfl) (by kernel_rfl) (by kernel_rfl) (fun _ _ _ h => next_put (by omega) h) (Or.inl ⟨by rfl, ?_⟩) a5 ?_
          · intro w' hSw
            (try simp only [List.getElem_toArray, List.getElem_cons_zero])
            go_simp
          (try simp only [List.getElem_toArray, List.getElem_cons_zero, Act.put, List.setIfInBounds_toArray, List.set_cons_zero, List.set_cons_succ])
          refine wpAnyH_take (i := 1) (oi := _) (v := .agg (outC val is err point)) rfl (by kernel_rfl) (by kernel_rfl) (by kernel_rfl) (fun _ _ _ h => next_put (by omega) h) (Or.inl ⟨by rfl, ?_⟩) a5 ?_
          · intro w' hSw
            (try simp only [List.getElem_toArray, List.getElem_cons_succ, List.getElem_cons_zero])
            simp only [execOp, Instr.loadAt, Instr.sureAddr, Sem.run_bind, Sem.run_pure]
            rw [show (Act.eval _ (Operand.tmp 11)) = Value.pointer (some ⟨b5, 0, none⟩) from rfl]
            simp only [Sem.run_pure, Result.andThen_ok, run_loadVar_row w' b5 50 50 (outC val is err point) (0, 0) _ hSw Try.underlying50 rfl (by kernel_rfl)]
          (try simp only [List.getElem_toArray, List.getElem_cons_succ, List.getElem_cons_zero, Act.put, List.setIfInBounds_toArray, List.set_cons_zero, List.set_cons_succ])
          refine wpAnyH_ready (rs := [2]) (by kernel_rfl) (by simp) ?_
          refine AllReadyH.cons (o := _) rfl (fun K hK => ?_) AllReadyH.nil
          rw [if_pos (by rfl)]
          refine wp_store_row 44 (.tmp 10) (.tmp 48) rfl b4 accZ rfl rfl 44 accZ a4 (by kernel_rfl) rfl (by simp [Value.oneCell']) ?_
          have c4 : Bk (w17.setRow b4 accZ) b4 44 accZ := setRow_heap _ _ accZ accZ 44 (0, 0) a4
          replace a5 : Bk (w17.setRow b4 accZ) b5 50 (outC val is err point) := (setRow_other _ _ _ _ (by omega)).trans a5
          replace a6 : Bk (w17.setRow b4 accZ) b6 4 #[.bool false] := (setRow_other _ _ _ _ (by omega)).trans a6
          replace hbl := below_setRow hbl n4 accZ
          refine hK.out _ _ a5 (fun hS' => ?_)
          clear hS' hK K a4
          (try simp only [List.getElem_toArray, List.getElem_cons_succ, List.getElem_cons_zero, Act.put])
          generalize w17.setRow b4 accZ = w18 at *
          refine wpAnyH_ready (rs := [3]) (by kernel_rfl) (by simp) ?_
          refine AllReadyH.cons (o := _) rfl (fun K hK => ?_) AllReadyH.nil
          rw [if_pos (by rfl)]
          refine wp_store_row 50 (.tmp 11) (.tmp 49) rfl b5 (outC val is err point) rfl rfl 50 (outC val is err point) a5 (by kernel_rfl) rfl (by simp [Value.oneCell']) ?_
          have c5 : Bk (w18.setRow b5 (outC val is err point)) b5 50 (outC val is err point) := setRow_heap _ _ (outC val is err point) (outC val is err point) 50 (0, 0) a5
          replace c4 : Bk (w18.setRow b5 (outC val is err point)) b4 44 accZ := (setRow_other _ _ _ _ (by omega)).trans c4
          replace a6 : Bk (w18.setRow b5 (outC val is err point)) b6 4 #[.bool false] := (setRow_other _ _ _ _ (by omega)).trans a6
          replace hbl := below_setRow hbl n5 (outC val is err point)
          refine hK.out _ _ c5 (fun hS' => ?_)
          clear hS' hK K a5
          (try simp only [List.getElem_toArray, List.getElem_cons_succ, List.getElem_cons_zero, Act.put])
          generalize w18.setRow b5 (outC val is err point) = w19 at *
          have q6 := a6.cell 0
          have f6 := a6.free 0
          have l6' := a6.lt
          simp at q6
          refine wpAnyH_ready (rs := [4]) (by kernel_rfl) (by simp) ?_
          refine AllReadyH.cons (o := _) rfl (fun K hK => ?_) AllReadyH.nil
          (try simp only [List.getElem_toArray, List.getElem_cons_succ, List.getElem_cons_zero])
          go_simp
          clear q6 f6 l6'
          replace a6 : Bk (w19.setCell ⟨b6, 0, none⟩ (.bool true)) b6 4 #[.bool true] := a6.stored 0 (.bool true)
          replace c4 := c4.other (p := ⟨b6, 0, none⟩) (by dsimp only; omega) (.bool true)
          replace c5 := c5.other (p := ⟨b6, 0, none⟩) (by dsimp only; omega) (.bool true)
          replace hbl := below_set hbl (p := ⟨b6, 0, none⟩) n6 (.bool true)
          refine hK.out _ _ c5 (fun hS' => ?_)
          clear hS' hK K
          (try simp only [List.getElem_toArray, List.getElem_cons_succ, List.getElem_cons_zero, Act.put, List.setIfInBounds_toArray, List.set_cons_zero, List.set_cons_succ])
          generalize w19.setCell ⟨b6, 0, none⟩ (.bool true) = w20 at *
          refine wpAnyH_done (by kernel_rfl) ?_ _
          go_wp2
          refine leaves_cons (f := 28) (args := #[ptr b4, ptr b1, ptr b5, ptr b6]) (by simp) (by simp [go_sem]) ?_
          refine (catch_idle b4 b1 b5 b6 _).mono ?_
          rintro e u' w21 ⟨rfl, rfl, rfl⟩
          refine ⟨_, results_ccc (p := 10) (q := 11) (t := 12) (t1 := 44) (t2 := 50) (t3 := 4) rfl _ _ b4 b5 b6 accZ (outC val is err point) (0, 0) (0, 0) _ _ _ rfl rfl rfl c4 c5 Try.underlying44 rfl (by kernel_rfl) Try.underlying50 rfl (by kernel_rfl) (load_bool _ b6 true a6), ?_⟩
          rw [HNX.out]
          exact ⟨rfl, hbl⟩
      · have HNX := Lib.hid (show nextM l op log = some (claimM l op log) by unfold nextM; rw [if_neg (Int.not_lt.2 HT.out), if_neg (by omega), if_pos hk])
        go_wp2_with fail
        (with_reducible refine (claim_any hE j2 np f ha).mono ?_)
        intro e w13 hpost
        obtain ⟨ans, hans⟩ : ∃ a, claimM l op log = a := ⟨_, rfl⟩
        rw [hans] at hpost HNX
        clear hans
        cases ans with
        | ask k c o v =>
          obtain ⟨rfl, hst⟩ := hpost
          replace k4 := hst.keep k4 (by omega)
          replace k5 := hst.keep k5 (by omega)
          replace k6 := hst.keep k6 (by omega)
          replace hbl := hst.below n7 hbl
          refine leaves_cons (f := 28) (args := #[ptr b4, ptr b1, ptr b5, ptr b6]) (by simp) (by simp [go_sem]) ?_
          refine (catch_asked k c o v b4 b1 b5 b6 _ k4).mono ?_
          rintro e u' w14 ⟨rfl, rfl, ka, hs2⟩
          replace k5 := hs2.keep k5 (by omega)
          replace k6 := hs2.keep k6 (by omega)
          replace hbl := hs2.below n4 hbl
          refine ⟨_, results_ccc (p := 10) (q := 11) (t := 12) (t1 := 44) (t2 := 50) (t3 := 4) rfl _ _ b4 b5 b6 (accC k c o v) outZ (0, 0) (0, 0) _ _ _ rfl rfl rfl ka k5 Try.underlying44 rfl (by kernel_rfl) Try.underlying50 rfl (by kernel_rfl) (load_bool _ b6 false k6), ?_⟩
          rw [HNX.out]
          exact ⟨rfl, hbl⟩
        | out val is err point =>
          obtain ⟨rfl, hst⟩ := hpost
          replace k1 := hst.keep k1 (by omega)
          replace k4 := hst.keep k4 (by omega)
          replace k5 := hst.keep k5 (by omega)
          replace k6 := hst.keep k6 (by omega)
          replace hbl := hst.below n7 hbl
          clear hst hE j1 j2 j3 j4 j5 k3 k7
          have a5 : Bk (w13.setRow b5 (outC val is err point)) b5 50 (outC val is err point) := setRow_heap _ _ outZ (outC val is err point) 50 (0, 0) k5
          have a1 : Bk (w13.setRow b5 (outC val is err point)) b1 48 #[.slice none 0 0] := (setRow_other _ _ _ _ (by omega)).trans k1
          have a4 : Bk (w13.setRow b5 (outC val is err point)) b4 44 accZ := (setRow_other _ _ _ _ (by omega)).trans k4
          have a6 : Bk (w13.setRow b5 (outC val is err point)) b6 4 #[.bool false] := (setRow_other _ _ _ _ (by omega)).trans k6
          replace hbl := below_setRow hbl n5 (outC val is err point)
          go_upto_region 8 with (refine wpList_store_rowTo rfl 50 (.tmp 11) (.tmp 44) rfl rfl b5 (outC val is err point) rfl rfl 50 outZ k5 (by kernel_rfl) rfl (by simp [Value.oneCell']) ?_)
          clear k1 k4 k5 k6
          generalize w13.setRow b5 (outC val is err point) = w14 at *
          have q1 := a1.cell 0
          simp at q1
          go_wp2_with fail
          clear q1
          (with_reducible refine (clone_nil _).mono ?_)
          rintro e w15 ⟨rfl, hb⟩
          replace a4 := a4.keep hb
          replace a5 := a5.keep hb
          replace a6 := a6.keep hb
          replace hbl := below_tr hbl hb
          clear hb
          have q4 := a5.cell 4
          have f4 := a5.free 4
          have l4' := a5.lt
          simp at q4
          go_upto_region 9 with fail
          clear q4 f4 l4'
          replace a5 : Bk (w15.setCell ⟨b5, 4, none⟩ (.slice none 0 0)) b5 50 (outC val is err point) := a5.stored 4 (.slice none 0 0)
          replace a4 := a4.other (p := ⟨b5, 4, none⟩) (by dsimp only; omega) (.slice none 0 0)
          replace a6 := a6.other (p := ⟨b5, 4, none⟩) (by dsimp only; omega) (.slice none 0 0)
          replace hbl := below_set hbl (p := ⟨b5, 4, none⟩) n5 (.slice none 0 0)
          generalize w15.setCell ⟨b5, 4, none⟩ (.slice none 0 0) = w16 at *
          refine wp_region_held_drew (S := fun w' => Bk w' b5 50 (outC val is err point)) (by kernel_rfl) a5.drew (fun hHeld => ?_)
          clear hHeld
          replace a4 := a4.drew
          replace a5 := a5.drew
          replace a6 := a6.drew
          replace hbl := hbl.drew
          generalize w16.drew = w17 at *
          refine wpAnyH_take (i := 0) (oi := _) (v := .agg accZ) rfl (by kernel_rfl) (by kernel_rfl) (by kernel_rfl) (fun _ _ _ h => next_put (by omega) h) (Or.inl ⟨by rfl, ?_⟩) a5 ?_
          · intro w' hSw
            (try simp only [List.getElem_toArray, List.getElem_cons_zero])
            go_simp
          (try simp only [List.getElem_toArray, List.getElem_cons_zero, Act.put, List.setIfInBounds_toArray, List.set_cons_zero, List.set_cons_succ])
          refine wpAnyH_take (i := 1) (oi := _) (v := .agg (outC val is err point)) rfl (by kernel_rfl) (by kernel_rfl) (by kernel_rfl) (fun _ _ _ h => next_put (by omega) h) (Or.inl ⟨by rfl, ?_⟩) a5 ?_
          · intro w' hSw
            (try simp only [List.getElem_toArray, List.getElem_cons_succ, List.getElem_cons_zero])
            simp only [execOp, Instr.loadAt, Instr.sureAddr, Sem.run_bind, Sem.run_pure]
            rw [show (Act.eval _ (Operand.tmp 11)) = Value.pointer (some ⟨b5, 0, none⟩) from rfl]
            simp only [Sem.run_pure, Result.andThen_ok, run_loadVar_row w' b5 50 50 (outC val is err point) (0, 0) _ hSw Try.underlying50 rfl (by kernel_rfl)]
          (try simp only [List.getElem_toArray, List.getElem_cons_succ, List.getElem_cons_zero, Act.put, List.setIfInBounds_toArray, List.set_cons_zero, List.set_cons_succ])
          refine wpAnyH_ready (rs := [2]) (by kernel_rfl) (by simp) ?_
          refine AllReadyH.cons (o := _) rfl (fun K hK => ?_) AllReadyH.nil
          rw [if_pos (by rfl)]
          refine wp_store_row 44 (.tmp 10) (.tmp 48) rfl b4 accZ rfl rfl 44 accZ a4 (by kernel_rfl) rfl (by simp [Value.oneCell']) ?_
          have c4 : Bk (w17.setRow b4 accZ) b4 44 accZ := setRow_heap _ _ accZ accZ 44 (0, 0) a4
          replace a5 : Bk (w17.setRow b4 accZ) b5 50 (outC val is err point) := (setRow_other _ _ _ _ (by omega)).trans a5
          replace a6 : Bk (w17.setRow b4 accZ) b6 4 #[.bool false] := (setRow_other _ _ _ _ (by omega)).trans a6
          replace hbl := below_setRow hbl n4 accZ
          refine hK.out _ _ a5 (fun hS' => ?_)
          clear hS' hK K a4
          (try simp only [List.getElem_toArray, List.getElem_cons_succ, List.getElem_cons_zero, Act.put])
          generalize w17.setRow b4 accZ = w18 at *
          refine wpAnyH_ready (rs := [3]) (by kernel_rfl) (by simp) ?_
          refine AllReadyH.cons (o := _) rfl (fun K hK => ?_) AllReadyH.nil
          rw [if_pos (by rfl)]
          refine wp_store_row 50 (.tmp 11) (.tmp 49) rfl b5 (outC val is err point) rfl rfl 50 (outC val is err point) a5 (by kernel_rfl) rfl (by simp [Value.oneCell']) ?_
          have c5 : Bk (w18.setRow b5 (outC val is err point)) b5 50 (outC val is err point) := setRow_heap _ _ (outC val is err point) (outC val is err point) 50 (0, 0) a5
          replace c4 : Bk (w18.setRow b5 (outC val is err point)) b4 44 accZ := (setRow_other _ _ _ _ (by omega)).trans c4
          replace a6 : Bk (w18.setRow b5 (outC val is err point)) b6 4 #[.bool false] := (setRow_other _ _ _ _ (by omega)).trans a6
          replace hbl := below_setRow hbl n5 (outC val is err point)
          refine hK.out _ _ c5 (fun hS' => ?_)
          clear hS' hK K a5
          (try simp only [List.getElem_toArray, List.getElem_cons_succ, List.getElem_cons_zero, Act.put])
          generalize w18.setRow b5 (outC val is err point) = w19 at *
          have q6 := a6.cell 0
          have f6 := a6.free 0
          have l6' := a6.lt
          simp at q6
          refine wpAnyH_ready (rs := [4]) (by kernel_rfl) (by simp) ?_
          refine AllReadyH.cons (o := _) rfl (fun K hK => ?_) AllReadyH.nil
          (try simp only [List.getElem_toArray, List.getElem_cons_succ, List.getElem_cons_zero])
          go_simp
          clear q6 f6 l6'
          replace a6 : Bk (w19.setCell ⟨b6, 0, none⟩ (.bool true)) b6 4 #[.bool true] := a6.stored 0 (.bool true)
          replace c4 := c4.other (p := ⟨b6, 0, none⟩) (by dsimp only; omega) (.bool true)
          replace c5 := c5.other (p := ⟨b6, 0, none⟩) (by dsimp only; omega) (.bool true)
          replace hbl := below_set hbl (p := ⟨b6, 0, none⟩) n6 (.bool true)
          refine hK.out _ _ c5 (fun hS' => ?_)
          clear hS' hK K
          (try simp only [List.getElem_toArray, List.getElem_cons_succ, List.getElem_cons_zero, Act.put, List.setIfInBounds_toArray, List.set_cons_zero, List.set_cons_succ])
          generalize w19.setCell ⟨b6, 0, none⟩ (.bool true) = w20 at *
          refine wpAnyH_done (by kernel_rfl) ?_ _
          go_wp2
          refine leaves_cons (f := 28) (args := #[ptr b4, ptr b1, ptr b5, ptr b6]) (by simp) (by simp [go_sem]) ?_
          refine (catch_idle b4 b1 b5 b6 _).mono ?_
          rintro e u' w21 ⟨rfl, rfl, rfl⟩
          refine ⟨_, results_ccc (p := 10) (q := 11) (t := 12) (t1 := 44) (t2 := 50) (t3 := 4) rfl _ _ b4 b5 b6 accZ (outC val is err point) (0, 0) (0, 0) _ _ _ rfl rfl rfl c4 c5 Try.underlying44 rfl (by kernel_rfl) Try.underlying50 rfl (by kernel_rfl) (load_bool _ b6 true a6), ?_⟩
          rw [HNX.out]
          exact ⟨rfl, hbl⟩
      · have HNX := Lib.hid (show nextM l op log = some (syncM l op log) by unfold nextM; rw [if_neg (Int.not_lt.2 HT.out), if_neg (by omega), if_neg (by omega), if_pos hk])
        go_wp2_with fail
        (with_reducible refine (sync_any hE j2 np j5 f ha).mono ?_)
        intro e w13 hpost
        obtain ⟨ans, hans⟩ : ∃ a, syncM l op log = a := ⟨_, rfl⟩
        rw [hans] at hpost HNX
        clear hans
        cases ans with
        | ask k c o v =>
          obtain ⟨rfl, hst⟩ := hpost
          replace k4 := hst.keep k4 (by omega)
          replace k5 := hst.keep k5 (by omega)
          replace k6 := hst.keep k6 (by omega)
          replace hbl := hst.below n7 hbl
          refine leaves_cons (f := 28) (args := #[ptr b4, ptr b1, ptr b5, ptr b6]) (by simp) (by simp [go_sem]) ?_
          refine (catch_asked k c o v b4 b1 b5 b6 _ k4).mono ?_
          rintro e u' w14 ⟨rfl, rfl, ka, hs2⟩
          replace k5 := hs2.keep k5 (by omega)
          replace k6 := hs2.keep k6 (by omega)
          replace hbl := hs2.below n4 hbl
          refine ⟨_, results_ccc (p := 10) (q := 11) (t := 12) (t1 := 44) (t2 := 50) (t3 := 4) rfl _ _ b4 b5 b6 (accC k c o v) outZ (0, 0) (0, 0) _ _ _ rfl rfl rfl ka k5 Try.underlying44 rfl (by kernel_rfl) Try.underlying50 rfl (by kernel_rfl) (load_bool _ b6 false k6), ?_⟩
          rw [HNX.out]
          exact ⟨rfl, hbl⟩
        | out val is err point =>
          obtain ⟨rfl, hst⟩ := hpost
          replace k1 := hst.keep k1 (by omega)
          replace k4 := hst.keep k4 (by omega)
          replace k5 := hst.keep k5 (by omega)
          replace k6 := hst.keep k6 (by omega)
          replace hbl := hst.below n7 hbl
          clear hst hE j1 j2 j3 j4 j5 k3 k7
          have a5 : Bk (w13.setRow b5 (outC val is err point)) b5 50 (outC val is err point) := setRow_heap _ _ outZ (outC val is err point) 50 (0, 0) k5
          have a1 : Bk (w13.setRow b5 (outC val is err point)) b1 48 #[.slice none 0 0] := (setRow_other _ _ _ _ (by omega)).trans k1
          have a4 : Bk (w13.setRow b5 (outC val is err point)) b4 44 accZ := (setRow_other _ _ _ _ (by omega)).trans k4
          have a6 : Bk (w13.setRow b5 (outC val is err point)) b6 4 #[.bool false] := (setRow_other _ _ _ _ (by omega)).trans k6
          replace hbl := below_setRow hbl n5 (outC val is err point)
          go_upto_region 8 with (refine wpList_store_rowTo rfl 50 (.tmp 11) (.tmp 44) rfl rfl b5 (outC val is err point) rfl rfl 50 outZ k5 (by kernel_rfl) rfl (by simp [Value.oneCell']) ?_)
          clear k1 k4 k5 k6
          generalize w13.setRow b5 (outC val is err point) = w14 at *
          have q1 := a1.cell 0
          simp at q1
          go_wp2_with fail
          clear q1
          (with_reducible refine (clone_nil _).mono ?_)
          rintro e w15 ⟨rfl, hb⟩
          replace a4 := a4.keep hb
          replace a5 := a5.keep hb
          replace a6 := a6.keep hb
          replace hbl := below_tr hbl hb
          clear hb
          have q4 := a5.cell 4
          have f4 := a5.free 4
          have l4' := a5.lt
          simp at q4
          go_upto_region 9 with fail
          clear q4 f4 l4'
          replace a5 : Bk (w15.setCell ⟨b5, 4, none⟩ (.slice none 0 0)) b5 50 (outC val is err point) := a5.stored 4 (.slice none 0 0)
          replace a4 := a4.other (p := ⟨b5, 4, none⟩) (by dsimp only; omega) (.slice none 0 0)
          replace a6 := a6.other (p := ⟨b5, 4, none⟩) (by dsimp only; omega) (.slice none 0 0)
          replace hbl := below_set hbl (p := ⟨b5, 4, none⟩) n5 (.slice none 0 0)
          generalize w15.setCell ⟨b5, 4, none⟩ (.slice none 0 0) = w16 at *
          refine wp_region_held_drew (S := fun w' => Bk w' b5 50 (outC val is err point)) (by kernel_rfl) a5.drew (fun hHeld => ?_)
          clear hHeld
          replace a4 := a4.drew
          replace a5 := a5.drew
          replace a6 := a6.drew
          replace hbl := hbl.drew
          generalize w16.drew = w17 at *
          refine wpAnyH_take (i := 0) (oi := _) (v := .agg accZ) rfl (by kernel_rfl) (by kernel_rfl) (by kernel_rfl) (fun _ _ _ h => next_put (by omega) h) (Or.inl ⟨by rfl, ?_⟩) a5 ?_
          · intro w' hSw
            (try simp only [List.getElem_toArray, List.getElem_cons_zero])
            go_simp
          (try simp only [List.getElem_toArray, List.getElem_cons_zero, Act.put, List.setIfInBounds_toArray, List.set_cons_zero, List.set_cons_succ])
          refine wpAnyH_take (i := 1) (oi := _) (v := .agg (outC val is err point)) rfl (by kernel_rfl) (by kernel_rfl) (by kernel_rfl) (fun _ _ _ h => next_put (by omega) h) (Or.inl ⟨by rfl, ?_⟩) a5 ?_
          · intro w' hSw
            (try simp only [List.getElem_toArray, List.getElem_cons_succ, List.getElem_cons_zero])
            simp only [execOp, Instr.loadAt, Instr.sureAddr, Sem.run_bind, Sem.run_pure]
            rw [show (Act.eval _ (Operand.tmp 11)) = Value.pointer (some ⟨b5, 0, none⟩) from rfl]
            simp only [Sem.run_pure, Result.andThen_ok, run_loadVar_row w' b5 50 50 (outC val is err point) (0, 0) _ hSw Try.underlying50 rfl (by kernel_rfl)]
          (try simp only [List.getElem_toArray, List.getElem_cons_succ, List.getElem_cons_zero, Act.put, List.setIfInBounds_toArray, List.set_cons_zero, List.set_cons_succ])
          refine wpAnyH_ready (rs := [2]) (by kernel_rfl) (by simp) ?_
          refine AllReadyH.cons (o := _) rfl (fun K hK => ?_) AllReadyH.nil
          rw [if_pos (by rfl)]
          refine wp_store_row 44 (.tmp 10) (.tmp 48) rfl b4 accZ rfl rfl 44 accZ a4 (by kernel_rfl) rfl (by simp [Value.oneCell']) ?_
          have c4 : Bk (w17.setRow b4 accZ) b4 44 accZ := setRow_heap _ _ accZ accZ 44 (0, 0) a4
          replace a5 : Bk (w17.setRow b4 accZ) b5 50 (outC val is err point) := (setRow_other _ _ _ _ (by omega)).trans a5
          replace a6 : Bk (w17.setRow b4 accZ) b6 4 #[.bool false] := (setRow_other _ _ _ _ (by omega)).trans a6
          replace hbl := below_setRow hbl n4 accZ
          refine hK.out _ _ a5 (fun hS' => ?_)
          clear hS' hK K a4
          (try simp only [List.getElem_toArray, List.getElem_cons_succ, List.getElem_cons_zero, Act.put])
          generalize w17.setRow b4 accZ = w18 at *
          refine wpAnyH_ready (rs := [3]) (by kernel_rfl) (by simp) ?_
          refine AllReadyH.cons (o := _) rfl (fun K hK => ?_) AllReadyH.nil
          rw [if_pos (by rfl)]
          refine wp_store_row 50 (.tmp 11) (.tmp 49) rfl b5 (outC val is err point) rfl rfl 50 (outC val is err point) a5 (by kernel_rfl) rfl (by simp [Value.oneCell']) ?_
          have c5 : Bk (w18.setRow b5 (outC val is err point)) b5 50 (outC val is err point) := setRow_heap _ _ (outC val is err point) (outC val is err point) 50 (0, 0) a5
          replace c4 : Bk (w18.setRow b5 (outC val is err point)) b4 44 accZ := (setRow_other _ _ _ _ (by omega)).trans c4
          replace a6 : Bk (w18.setRow b5 (outC val is err point)) b6 4 #[.bool false] := (setRow_other _ _ _ _ (by omega)).trans a6
          replace hbl := below_setRow hbl n5 (outC val is err point)
          refine hK.out _ _ c5 (fun hS' => ?_)
          clear hS' hK K a5
          (try simp only [List.getElem_toArray, List.getElem_cons_succ, List.getElem_cons_zero, Act.put])
          generalize w18.setRow b5 (outC val is err point) = w19 at *
          have q6 := a6.cell 0
          have f6 := a6.free 0
          have l6' := a6.lt
          simp at q6
          refine wpAnyH_ready (rs := [4]) (by kernel_rfl) (by simp) ?_
          refine AllReadyH.cons (o := _) rfl (fun K hK => ?_) AllReadyH.nil
          (try simp only [List.getElem_toArray, List.getElem_cons_succ, List.getElem_cons_zero])
          go_simp
          clear q6 f6 l6'
          replace a6 : Bk (w19.setCell ⟨b6, 0, none⟩ (.bool true)) b6 4 #[.bool true] := a6.stored 0 (.bool true)
          replace c4 := c4.other (p := ⟨b6, 0, none⟩) (by dsimp only; omega) (.bool true)
          replace c5 := c5.other (p := ⟨b6, 0, none⟩) (by dsimp only; omega) (.bool true)
          replace hbl := below_set hbl (p := ⟨b6, 0, none⟩) n6 (.bool true)
          refine hK.out _ _ c5 (fun hS' => ?_)
          clear hS' hK K
          (try simp only [List.getElem_toArray, List.getElem_cons_succ, List.getElem_cons_zero, Act.put, List.setIfInBounds_toArray, List.set_cons_zero, List.set_cons_succ])
          generalize w19.setCell ⟨b6, 0, none⟩ (.bool true) = w20 at *
          refine wpAnyH_done (by kernel_rfl) ?_ _
          go_wp2
          refine leaves_cons (f := 28) (args := #[ptr b4, ptr b1, ptr b5, ptr b6]) (by simp) (by simp [go_sem]) ?_
          refine (catch_idle b4 b1 b5 b6 _).mono ?_
          rintro e u' w21 ⟨rfl, rfl, rfl⟩
          refine ⟨_, results_ccc (p := 10) (q := 11) (t := 12) (t1 := 44) (t2 := 50) (t3 := 4) rfl _ _ b4 b5 b6 accZ (outC val is err point) (0, 0) (0, 0) _ _ _ rfl rfl rfl c4 c5 Try.underlying44 rfl (by kernel_rfl) Try.underlying50 rfl (by kernel_rfl) (load_bool _ b6 true a6), ?_⟩
          rw [HNX.out]
          exact ⟨rfl, hbl⟩
      · have HNX := Lib.hid (show nextM l op log = some (endM l op log) by unfold nextM; rw [if_neg (Int.not_lt.2 HT.out), if_neg (by omega), if_neg (by omega), if_neg (by omega), if_pos hk])
        go_wp2_with fail
        (with_reducible refine (end_any hE j2 np j5 nj f ha hlo).mono ?_)
        intro e w13 hpost
        obtain ⟨ans, hans⟩ : ∃ a, endM l op log = a := ⟨_, rfl⟩
        rw [hans] at hpost HNX
        clear hans
        cases ans with
        | ask k c o v =>
          obtain ⟨rfl, hst⟩ := hpost
          replace k4 := hst.keep k4 (by omega)
          replace k5 := hst.keep k5 (by omega)
          replace k6 := hst.keep k6 (by omega)
          replace hbl := hst.below n7 hbl
          refine leaves_cons (f := 28) (args := #[ptr b4, ptr b1, ptr b5, ptr b6]) (by simp) (by simp [go_sem]) ?_
          refine (catch_asked k c o v b4 b1 b5 b6 _ k4).mono ?_
          rintro e u' w14 ⟨rfl, rfl, ka, hs2⟩
          replace k5 := hs2.keep k5 (by omega)
          replace k6 := hs2.keep k6 (by omega)
          replace hbl := hs2.below n4 hbl
          refine ⟨_, results_ccc (p := 10) (q := 11) (t := 12) (t1 := 44) (t2 := 50) (t3 := 4) rfl _ _ b4 b5 b6 (accC k c o v) outZ (0, 0) (0, 0) _ _ _ rfl rfl rfl ka k5 Try.underlying44 rfl (by kernel_rfl) Try.underlying50 rfl (by kernel_rfl) (load_bool _ b6 false k6), ?_⟩
          rw [HNX.out]
          exact ⟨rfl, hbl⟩
        | out val is err point =>
          obtain ⟨rfl, hst⟩ := hpost
          replace k1 := hst.keep k1 (by omega)
          replace k4 := hst.keep k4 (by omega)
          replace k5 := hst.keep k5 (by omega)
          replace k6 := hst.keep k6 (by omega)
          replace hbl := hst.below n7 hbl
          clear hst hE j1 j2 j3 j4 j5 k3 k7
          have a5 : Bk (w13.setRow b5 (outC val is err point)) b5 50 (outC val is err point) := setRow_heap _ _ outZ (outC val is err point) 50 (0, 0) k5
          have a1 : Bk (w13.setRow b5 (outC val is err point)) b1 48 #[.slice none 0 0] := (setRow_other _ _ _ _ (by omega)).trans k1
          have a4 : Bk (w13.setRow b5 (outC val is err point)) b4 44 accZ := (setRow_other _ _ _ _ (by omega)).trans k4
          have a6 : Bk (w13.setRow b5 (outC val is err point)) b6 4 #[.bool false] := (setRow_other _ _ _ _ (by omega)).trans k6
          replace hbl := below_setRow hbl n5 (outC val is err point)
          go_upto_region 8 with (refine wpList_store_rowTo rfl 50 (.tmp 11) (.tmp 44) rfl rfl b5 (outC val is err point) rfl rfl 50 outZ k5 (by kernel_rfl) rfl (by simp [Value.oneCell']) ?_)
          clear k1 k4 k5 k6
          generalize w13.setRow b5 (outC val is err point) = w14 at *
          have q1 := a1.cell 0
          simp at q1
          go_wp2_with fail
          clear q1
          (with_reducible refine (clone_nil _).mono ?_)
          rintro e w15 ⟨rfl, hb⟩
          replace a4 := a4.keep hb
          replace a5 := a5.keep hb
          replace a6 := a6.keep hb
          replace hbl := below_tr hbl hb
          clear hb
          have q4 := a5.cell 4
          have f4 := a5.free 4
          have l4' := a5.lt
          simp at q4
          go_upto_region 9 with fail
          clear q4 f4 l4'
          replace a5 : Bk (w15.setCell ⟨b5, 4, none⟩ (.slice none 0 0)) b5 50 (outC val is err point) := a5.stored 4 (.slice none 0 0)
          replace a4 := a4.other (p := ⟨b5, 4, none⟩) (by dsimp only; omega) (.slice none 0 0)
          replace a6 := a6.other (p := ⟨b5, 4, none⟩) (by dsimp only; omega) (.slice none 0 0)
          replace hbl := below_set hbl (p := ⟨b5, 4, none⟩) n5 (.slice none 0 0)
          generalize w15.setCell ⟨b5, 4, none⟩ (.slice none 0 0) = w16 at *
          refine wp_region_held_drew (S := fun w' => Bk w' b5 50 (outC val is err point)) (by kernel_rfl) a5.drew (fun hHeld => ?_)
          clear hHeld
          replace a4 := a4.drew
          replace a5 := a5.drew
          replace a6 := a6.drew
          replace hbl := hbl.drew
          generalize w16.drew = w17 at *
          refine wpAnyH_take (i := 0) (oi := _) (v := .agg accZ) rfl (by kernel_rfl) (by kernel_rfl) (by kernel_rfl) (fun _ _ _ h => next_put (by omega) h) (Or.inl ⟨by rfl, ?_⟩) a5 ?_
          · intro w' hSw
            (try simp only [List.getElem_toArray, List.getElem_cons_zero])
            go_simp
          (try simp only [List.getElem_toArray, List.getElem_cons_zero, Act.put, List.setIfInBounds_toArray, List.set_cons_zero, List.set_cons_succ])
          refine wpAnyH_take (i := 1) (oi := _) (v := .agg (outC val is err point)) rfl (by kernel_rfl) (by kernel_rfl) (by kernel_rfl) (fun _ _ _ h => next_put (by omega) h) (Or.inl ⟨by rfl, ?_⟩) a5 ?_
          · intro w' hSw
            (try simp only [List.getElem_toArray, List.getElem_cons_succ, List.getElem_cons_zero])
            simp only [execOp, Instr.loadAt, Instr.sureAddr, Sem.run_bind, Sem.run_pure]
            rw [show (Act.eval _ (Operand.tmp 11)) = Value.pointer (some ⟨b5, 0, none⟩) from rfl]
            simp only [Sem.run_pure, Result.andThen_ok, run_loadVar_row w' b5 50 50 (outC val is err point) (0, 0) _ hSw Try.underlying50 rfl (by kernel_rfl)]
          (try simp only [List.getElem_toArray, List.getElem_cons_succ, List.getElem_cons_zero, Act.put, List.setIfInBounds_toArray, List.set_cons_zero, List.set_cons_succ])
          refine wpAnyH_ready (rs := [2]) (by kernel_rfl) (by simp) ?_
          refine AllReadyH.cons (o := _) rfl (fun K hK => ?_) AllReadyH.nil
          rw [if_pos (by rfl)]
          refine wp_store_row 44 (.tmp 10) (.tmp 48) rfl b4 accZ rfl rfl 44 accZ a4 (by kernel_rfl) rfl (by simp [Value.oneCell']) ?_
          have c4 : Bk (w17.setRow b4 accZ) b4 44 accZ := setRow_heap _ _ accZ accZ 44 (0, 0) a4
          replace a5 : Bk (w17.setRow b4 accZ) b5 50 (outC val is err point) := (setRow_other _ _ _ _ (by omega)).trans a5
          replace a6 : Bk (w17.setRow b4 accZ) b6 4 #[.bool false] := (setRow_other _ _ _ _ (by omega)).trans a6
          replace hbl := below_setRow hbl n4 accZ
          refine hK.out _ _ a5 (fun hS' => ?_)
          clear hS' hK K a4
          (try simp only [List.getElem_toArray, List.getElem_cons_succ, List.getElem_cons_zero, Act.put])
          generalize w17.setRow b4 accZ = w18 at *
          refine wpAnyH_ready (rs := [3]) (by kernel_rfl) (by simp) ?_
          refine AllReadyH.cons (o := _) rfl (fun K hK => ?_) AllReadyH.nil
          rw [if_pos (by rfl)]
          refine wp_store_row 50 (.tmp 11) (.tmp 49) rfl b5 (outC val is err point) rfl rfl 50 (outC val is err point) a5 (by kernel_rfl) rfl (by simp [Value.oneCell']) ?_
          have c5 : Bk (w18.setRow b5 (outC val is err point)) b5 50 (outC val is err point) := setRow_heap _ _ (outC val is err point) (outC val is err point) 50 (0, 0) a5
          replace c4 : Bk (w18.setRow b5 (outC val is err point)) b4 44 accZ := (setRow_other _ _ _ _ (by omega)).trans c4
          replace a6 : Bk (w18.setRow b5 (outC val is err point)) b6 4 #[.bool false] := (setRow_other _ _ _ _ (by omega)).trans a6
          replace hbl := below_setRow hbl n5 (outC val is err point)
          refine hK.out _ _ c5 (fun hS' => ?_)
          clear hS' hK K a5
          (try simp only [List.getElem_toArray, List.getElem_cons_succ, List.getElem_cons_zero, Act.put])
          generalize w18.setRow b5 (outC val is err point) = w19 at *
          have q6 := a6.cell 0
          have f6 := a6.free 0
          have l6' := a6.lt
          simp at q6
          refine wpAnyH_ready (rs := [4]) (by kernel_rfl) (by simp) ?_
          refine AllReadyH.cons (o := _) rfl (fun K hK => ?_) AllReadyH.nil
          (try simp only [List.getElem_toArray, List.getElem_cons_succ, List.getElem_cons_zero])
          go_simp
          clear q6 f6 l6'
          replace a6 : Bk (w19.setCell ⟨b6, 0, none⟩ (.bool true)) b6 4 #[.bool true] := a6.stored 0 (.bool true)
          replace c4 := c4.other (p := ⟨b6, 0, none⟩) (by dsimp only; omega) (.bool true)
          replace c5 := c5.other (p := ⟨b6, 0, none⟩) (by dsimp only; omega) (.bool true)
          replace hbl := below_set hbl (p := ⟨b6, 0, none⟩) n6 (.bool true)
          refine hK.out _ _ c5 (fun hS' => ?_)
          clear hS' hK K
          (try simp only [List.getElem_toArray, List.getElem_cons_succ, List.getElem_cons_zero, Act.put, List.setIfInBounds_toArray, List.set_cons_zero, List.set_cons_succ])
          generalize w19.setCell ⟨b6, 0, none⟩ (.bool true) = w20 at *
          refine wpAnyH_done (by kernel_rfl) ?_ _
          go_wp2
          refine leaves_cons (f := 28) (args := #[ptr b4, ptr b1, ptr b5, ptr b6]) (by simp) (by simp [go_sem]) ?_
          refine (catch_idle b4 b1 b5 b6 _).mono ?_
          rintro e u' w21 ⟨rfl, rfl, rfl⟩
          refine ⟨_, results_ccc (p := 10) (q := 11) (t := 12) (t1 := 44) (t2 := 50) (t3 := 4) rfl _ _ b4 b5 b6 accZ (outC val is err point) (0, 0) (0, 0) _ _ _ rfl rfl rfl c4 c5 Try.underlying44 rfl (by kernel_rfl) Try.underlying50 rfl (by kernel_rfl) (load_bool _ b6 true a6), ?_⟩
          rw [HNX.out]
          exact ⟨rfl, hbl⟩
      · have HNX := Lib.hid (show nextM l op log = some (fetchM l op log) by unfold nextM; rw [if_neg (Int.not_lt.2 HT.out), if_neg (by omega), if_neg (by omega), if_neg (by omega), if_neg (by omega), if_pos hk])
        go_wp2_with fail
        (with_reducible refine (fetch_any hE j2 np f ha).mono ?_)
        intro e w13 hpost
        obtain ⟨ans, hans⟩ : ∃ a, fetchM l op log = a := ⟨_, rfl⟩
        rw [hans] at hpost HNX
        clear hans
        cases ans with
        | ask k c o v =>
          obtain ⟨rfl, hst⟩ := hpost
          replace k4 := hst.keep k4 (by omega)
          replace k5 := hst.keep k5 (by omega)
          replace k6 := hst.keep k6 (by omega)
          replace hbl := hst.below n7 hbl
          refine leaves_cons (f := 28) (args := #[ptr b4, ptr b1, ptr b5, ptr b6]) (by simp) (by simp [go_sem]) ?_
          refine (catch_asked k c o v b4 b1 b5 b6 _ k4).mono ?_
          rintro e u' w14 ⟨rfl, rfl, ka, hs2⟩
          replace k5 := hs2.keep k5 (by omega)
          replace k6 := hs2.keep k6 (by omega)
          replace hbl := hs2.below n4 hbl
          refine ⟨_, results_ccc (p := 10) (q := 11) (t := 12) (t1 := 44) (t2 := 50) (t3 := 4) rfl _ _ b4 b5 b6 (accC k c o v) outZ (0, 0) (0, 0) _ _ _ rfl rfl rfl ka k5 Try.underlying44 rfl (by kernel_rfl) Try.underlying50 rfl (by kernel_rfl) (load_bool _ b6 false k6), ?_⟩
          rw [HNX.out]
          exact ⟨rfl, hbl⟩
        | out val is err point =>
          obtain ⟨rfl, hst⟩ := hpost
          replace k1 := hst.keep k1 (by omega)
          replace k4 := hst.keep k4 (by omega)
          replace k5 := hst.keep k5 (by omega)
          replace k6 := hst.keep k6 (by omega)
          replace hbl := hst.below n7 hbl
          clear hst hE j1 j2 j3 j4 j5 k3 k7
          have a5 : Bk (w13.setRow b5 (outC val is err point)) b5 50 (outC val is err point) := setRow_heap _ _ outZ (outC val is err point) 50 (0, 0) k5
          have a1 : Bk (w13.setRow b5 (outC val is err point)) b1 48 #[.slice none 0 0] := (setRow_other _ _ _ _ (by omega)).trans k1
          have a4 : Bk (w13.setRow b5 (outC val is err point)) b4 44 accZ := (setRow_other _ _ _ _ (by omega)).trans k4
          have a6 : Bk (w13.setRow b5 (outC val is err point)) b6 4 #[.bool false] := (setRow_other _ _ _ _ (by omega)).trans k6
          replace hbl := below_setRow hbl n5 (outC val is err point)
          go_upto_region 8 with (refine wpList_store_rowTo rfl 50 (.tmp 11) (.tmp 44) rfl rfl b5 (outC val is err point) rfl rfl 50 outZ k5 (by kernel_rfl) rfl (by simp [Value.oneCell']) ?_)
          clear k1 k4 k5 k6
          generalize w13.setRow b5 (outC val is err point) = w14 at *
          have q1 := a1.cell 0
          simp at q1
          go_wp2_with fail
          clear q1
          (with_reducible refine (clone_nil _).mono ?_)
          rintro e w15 ⟨rfl, hb⟩
          replace a4 := a4.keep hb
          replace a5 := a5.keep hb
          replace a6 := a6.keep hb
          replace hbl := below_tr hbl hb
          clear hb
          have q4 := a5.cell 4
          have f4 := a5.free 4
          have l4' := a5.lt
          simp at q4
          go_upto_region 9 with fail
          clear q4 f4 l4'
          replace a5 : Bk (w15.setCell ⟨b5, 4, none⟩ (.slice none 0 0)) b5 50 (outC val is err point) := a5.stored 4 (.slice none 0 0)
          replace a4 := a4.other (p := ⟨b5, 4, none⟩) (by dsimp only; omega) (.slice none 0 0)
          replace a6 := a6.other (p := ⟨b5, 4, none⟩) (by dsimp only; omega) (.slice none 0 0)
          replace hbl := below_set hbl (p := ⟨b5, 4, none⟩) n5 (.slice none 0 0)
          generalize w15.setCell ⟨b5, 4, none⟩ (.slice none 0 0) = w16 at *
          refine wp_region_held_drew (S := fun w' => Bk w' b5 50 (outC val is err point)) (by kernel_rfl) a5.drew (fun hHeld => ?_)
          clear hHeld
          replace a4 := a4.drew
          replace a5 := a5.drew
          replace a6 := a6.drew
          replace hbl := hbl.drew
          generalize w16.drew = w17 at *
          refine wpAnyH_take (i := 0) (oi := _) (v := .agg accZ) rfl (by kernel_rfl) (by kernel_rfl) (by kernel_rfl) (fun _ _ _ h => next_put (by omega) h) (Or.inl ⟨by rfl, ?_⟩) a5 ?_
          · intro w' hSw
            (try simp only [List.getElem_toArray, List.getElem_cons_zero])
            go_simp
          (try simp only [List.getElem_toArray, List.getElem_cons_zero, Act.put, List.setIfInBounds_toArray, List.set_cons_zero, List.set_cons_succ])
          refine wpAnyH_take (i := 1) (oi := _) (v := .agg (outC val is err point)) rfl (by kernel_rfl) (by kernel_rfl) (by kernel_rfl) (fun _ _ _ h => next_put (by omega) h) (Or.inl ⟨by rfl, ?_⟩) a5 ?_
          · intro w' hSw
            (try simp only [List.getElem_toArray, List.getElem_cons_succ, List.getElem_cons_zero])
            simp only [execOp, Instr.loadAt, Instr.sureAddr, Sem.run_bind, Sem.run_pure]
            rw [show (Act.eval _ (Operand.tmp 11)) = Value.pointer (some ⟨b5, 0, none⟩) from rfl]
            simp only [Sem.run_pure, Result.andThen_ok, run_loadVar_row w' b5 50 50 (outC val is err point) (0, 0) _ hSw Try.underlying50 rfl (by kernel_rfl)]
          (try simp only [List.getElem_toArray, List.getElem_cons_succ, List.getElem_cons_zero, Act.put, List.setIfInBounds_toArray, List.set_cons_zero, List.set_cons_succ])
          refine wpAnyH_ready (rs := [2]) (by kernel_rfl) (by simp) ?_
          refine AllReadyH.cons (o := _) rfl (fun K hK => ?_) AllReadyH.nil
          rw [if_pos (by rfl)]
          refine wp_store_row 44 (.tmp 10) (.tmp 48) rfl b4 accZ rfl rfl 44 accZ a4 (by kernel_rfl) rfl (by simp [Value.oneCell']) ?_
          have c4 : Bk (w17.setRow b4 accZ) b4 44 accZ := setRow_heap _ _ accZ accZ 44 (0, 0) a4
          replace a5 : Bk (w17.setRow b4 accZ) b5 50 (outC val is err point) := (setRow_other _ _ _ _ (by omega)).trans a5
          replace a6 : Bk (w17.setRow b4 accZ) b6 4 #[.bool false] := (setRow_other _ _ _ _ (by omega)).trans a6
          replace hbl := below_setRow hbl n4 accZ
          refine hK.out _ _ a5 (fun hS' => ?_)
          clear hS' hK K a4
          (try simp only [List.getElem_toArray, List.getElem_cons_succ, List.getElem_cons_zero, Act.put])
          generalize w17.setRow b4 accZ = w18 at *
          refine wpAnyH_ready (rs := [3]) (by kernel_rfl) (by simp) ?_
          refine AllReadyH.cons (o := _) rfl (fun K hK => ?_) AllReadyH.nil
          rw [if_pos (by rfl)]
          refine wp_store_row 50 (.tmp 11) (.tmp 49) rfl b5 (outC val is err point) rfl rfl 50 (outC val is err point) a5 (by kernel_rfl) rfl (by simp [Value.oneCell']) ?_
          have c5 : Bk (w18.setRow b5 (outC val is err point)) b5 50 (outC val is err point) := setRow_heap _ _ (outC val is err point) (outC val is err point) 50 (0, 0) a5
          replace c4 : Bk (w18.setRow b5 (outC val is err point)) b4 44 accZ := (setRow_other _ _ _ _ (by omega)).trans c4
          replace a6 : Bk (w18.setRow b5 (outC val is err point)) b6 4 #[.bool false] := (setRow_other _ _ _ _ (by omega)).trans a6
          replace hbl := below_setRow hbl n5 (outC val is err point)
          refine hK.out _ _ c5 (fun hS' => ?_)
          clear hS' hK K a5
          (try simp only [List.getElem_toArray, List.getElem_cons_succ, List.getElem_cons_zero, Act.put])
          generalize w18.setRow b5 (outC val is err point) = w19 at *
          have q6 := a6.cell 0
          have f6 := a6.free 0
          have l6' := a6.lt
          simp at q6
          refine wpAnyH_ready (rs := [4]) (by kernel_rfl) (by simp) ?_
          refine AllReadyH.cons (o := _) rfl (fun K hK => ?_) AllReadyH.nil
          (try simp only [List.getElem_toArray, List.getElem_cons_succ, List.getElem_cons_zero])
          go_simp
          clear q6 f6 l6'
          replace a6 : Bk (w19.setCell ⟨b6, 0, none⟩ (.bool true)) b6 4 #[.bool true] := a6.stored 0 (.bool true)
          replace c4 := c4.other (p := ⟨b6, 0, none⟩) (by dsimp only; omega) (.bool true)
          replace c5 := c5.other (p := ⟨b6, 0, none⟩) (by dsimp only; omega) (.bool true)
          replace hbl := below_set hbl (p := ⟨b6, 0, none⟩) n6 (.bool true)
          refine hK.out _ _ c5 (fun hS' => ?_)
          clear hS' hK K
          (try simp only [List.getElem_toArray, List.getElem_cons_succ, List.getElem_cons_zero, Act.put, List.setIfInBounds_toArray, List.set_cons_zero, List.set_cons_succ])
          generalize w19.setCell ⟨b6, 0, none⟩ (.bool true) = w20 at *
          refine wpAnyH_done (by kernel_rfl) ?_ _
          go_wp2
          refine leaves_cons (f := 28) (args := #[ptr b4, ptr b1, ptr b5, ptr b6]) (by simp) (by simp [go_sem]) ?_
          refine (catch_idle b4 b1 b5 b6 _).mono ?_
          rintro e u' w21 ⟨rfl, rfl, rfl⟩
          refine ⟨_, results_ccc (p := 10) (q := 11) (t := 12) (t1 := 44) (t2 := 50) (t3 := 4) rfl _ _ b4 b5 b6 accZ (outC val is err point) (0, 0) (0, 0) _ _ _ rfl rfl rfl c4 c5 Try.underlying44 rfl (by kernel_rfl) Try.underlying50 rfl (by kernel_rfl) (load_bool _ b6 true a6), ?_⟩
          rw [HNX.out]
          exact ⟨rfl, hbl⟩
end Go.Proofs.Ytcjaomiihajjbaa
