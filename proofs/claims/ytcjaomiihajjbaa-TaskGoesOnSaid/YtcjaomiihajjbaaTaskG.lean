/- task.programs: the map of the five. -/
import Derived.Test.YtcjaomiihajjbaaTaskF
namespace Go.Proofs.Ytcjaomiihajjbaa
open Go.RowKit
attribute [local go_sem ↓] Go.wp_at_zero Go.wp_at_succ

theorem wpList_store_new1 {P : Program} {ops : Array Oper} {rest : List Oper} {o : Oper} {a : Act} {w : World} {Q : Exit → Act → World → Prop} (hgd : o.guard = none) (ty : TypeId) (x y : Operand) (ho : o.op = .store ty x y)
    (hd : o.dst = none) (N : Nat) (w0 : World) (old v : Value) (hw : w = w0.alloc (.cells #[old] ty)) (hN : w0.heap.size = N) (hx : a.eval x = .pointer (some ⟨N, 0, none⟩)) (hy : a.eval y = v)
    (hi : (P.info? ty).map (·.size) = some 1) (h1 : v.oneCell' = true)
    (h : wpList P ops Q rest a (w0.alloc (.cells #[v] ty))) : wpList P ops Q (o :: rest) a w := by
  subst hw hN
  refine wpList_store_oneTo hgd ty x y ho hd w0.heap.size v hx hy h1 ty old (heap_alloc_new w0 _) hi ?_
  rw [setRow_new]
  exact h
theorem run_insert (w0 : World) (es : Array MapEntry) (ck : Nat) (k : Int) (v : Value) (hn : Instr.findNow (.int .i64) (.int .i64 k) es.toList 0 = some none) :
    (Instr.mapUpdate 86 (.map (some w0.heap.size)) (.int .i64 k) v).run Try.prog (w0.alloc (.map es ck)) = .ok () (w0.alloc (.map (es.push { key := .int .i64 k, val := v, born := ck }) (ck + 1))) := by
  have hg : (getObj w0.heap.size).run Try.prog (w0.alloc (.map es ck)) = .ok (.map es ck) (w0.alloc (.map es ck)) := by
    have h := heap_alloc_new w0 (.map es ck)
    simp only [getObj, Sem.run]
    rw [h]
  have hs : ∀ o', (setObj w0.heap.size o').run Try.prog (w0.alloc (.map es ck)) = .ok () (w0.alloc o') := fun o' => by
    have h := heap_alloc_new w0 (.map es ck)
    simp only [setObj, Sem.run]
    rw [h]
    have e : (w0.alloc (.map es ck)).heap.setIfInBounds w0.heap.size o' = (w0.alloc o').heap := by
      apply Array.ext_getElem?
      intro i
      by_cases hi : w0.heap.size = i
      · subst hi
        rw [heap_alloc_new, Array.getElem?_setIfInBounds_self_of_lt (by simp)]
      · rw [Array.getElem?_setIfInBounds_ne hi]
        by_cases h2 : i < w0.heap.size
        · rw [heap_alloc_old (h := h2), heap_alloc_old (h := h2)]
        · rw [Array.getElem?_eq_none (by simp; omega), Array.getElem?_eq_none (by simp; omega)]
    show Result.ok () (⟨(w0.alloc (.map es ck)).heap.setIfInBounds w0.heap.size o', _, _, _, _⟩ : World) = _
    rw [e]
    rfl
  have hck : (Instr.checkKey false 10000 3 (.int .i64 k)).run Try.prog (w0.alloc (.map es ck)) = .ok () (w0.alloc (.map es ck)) := by
    show (Instr.checkKey false (9999 + 1) 3 (.int .i64 k)).run Try.prog _ = _
    unfold Instr.checkKey
    simp only [Sem.run_bind, run_underlying Try.underlying3, Result.andThen_ok, Sem.run_pure]
  have hf : (Instr.findKey 3 (.int .i64 k) es.toList).run Try.prog (w0.alloc (.map es ck)) = .ok none (w0.alloc (.map es ck)) := by
    unfold Instr.findKey
    simp only [Sem.run_bind, run_underlying Try.underlying3, Result.andThen_ok, hn, Sem.run_pure]
  unfold Instr.mapUpdate
  simp only [Sem.run_bind, run_underlying Try.underlying86, Result.andThen_ok, hg, hck, hf, hs]
abbrev mkV (gd gL gf gp : Nat) : Value := .func (.func 37) #[] #[ptr gd, ptr gL, ptr gf, ptr gp]
abbrev clV (gd gf gp : Nat) : Value := .func (.func 38) #[] #[ptr gd, ptr gf, ptr gp]
abbrev syV (gj gp : Nat) : Value := .func (.func 39) #[] #[ptr gj, ptr gp]
abbrev enV (gd gf gp gL gj : Nat) : Value := .func (.func 40) #[] #[ptr gd, ptr gf, ptr gp, ptr gL, ptr gj]
abbrev feV (gd gf gp : Nat) : Value := .func (.func 41) #[] #[ptr gd, ptr gf, ptr gp]
abbrev ent (k : Int) (v : Value) (n : Nat) : MapEntry := { key := .int .i64 k, val := v, born := n }
abbrev theMap (gL gp gd gf gj : Nat) : Array MapEntry := #[ent 11 (mkV gd gL gf gp) 0, ent 12 (clV gd gf gp) 1, ent 13 (syV gj gp) 2, ent 14 (enV gd gf gp gL gj) 3, ent 15 (feV gd gf gp) 4]
/-- The map, and what its closures hold. -/
def MapPost (l : Ly) (op : Opr) (gm gl : Nat) (w : World) (e : Ending) (w' : World) : Prop :=
  ∃ gL gp gd gf gj r, e = .returned (.map (some r)) ∧ w.heap.size ≤ gL ∧ w.heap.size ≤ gp ∧ w.heap.size ≤ gd ∧ w.heap.size ≤ gf ∧ w.heap.size ≤ gj ∧ Bk w' gL 34 (lyC l) ∧ Bk w' gp 30 (oprC op) ∧ Bk w' gd 83 #[doV gm gl] ∧ Bk w' gf 92 #[ofV gL] ∧ Bk w' gj 96 #[joV gd gf] ∧
    w'.heap[r]? = some (.map (theMap gL gp gd gf gj) 5) ∧ Below w.heap.size w w'
set_option maxRecDepth 100000 in
set_option maxHeartbeats 4000000 in
theorem programs_any (l : Ly) (op : Opr) (gm gl : Nat) (w : World) : Calls Try.prog 26 #[lyV l, .agg (oprC op), doV gm gl] w (MapPost l op gm gl w) := by
  have hmf : ∀ (fn : Fn) (first cap : Array Value) (w : World), (Instr.makeFunc fn first cap).run Try.prog w = .ok (.func fn first cap) w := fun _ _ _ _ => rfl
  have hmk : ∀ w, (Instr.makeMap 86 none).run Try.prog w = .ok (.map (some w.heap.size)) (w.alloc (.map #[] 0)) := fun w => rfl
  have kL := ((Bk.made w 34 (lyC l)).alloc (.cells (oprC op) 30)).alloc (.cells #[doV gm gl] 83)
  have kp := (Bk.new (w.alloc (.cells (lyC l) 34)) (g := w.heap.size + 1) (by simp) 30 (oprC op)).alloc (.cells #[doV gm gl] 83)
  have kd := Bk.new ((w.alloc (.cells (lyC l) 34)).alloc (.cells (oprC op) 30)) (g := w.heap.size + 1 + 1) (by simp) 83 #[doV gm gl]
  have hbl := below_al (below_al (below_al (Below.refl w.heap.size w) (.cells (lyC l) 34)) (.cells (oprC op) 30)) (.cells #[doV gm gl] 83)
  go_enter Try.func26, Try.ntmps26
  go_upto_region 1 with fail
  generalize ((w.alloc (.cells (lyC l) 34)).alloc (.cells (oprC op) 30)).alloc (.cells #[doV gm gl] 83) = w1 at *
  obtain ⟨gL, hgL⟩ : ∃ g, w.heap.size = g := ⟨_, rfl⟩
  obtain ⟨gp, hgp⟩ : ∃ g, w.heap.size + 1 = g := ⟨_, rfl⟩
  obtain ⟨gd, hgd⟩ : ∃ g, w.heap.size + 1 + 1 = g := ⟨_, rfl⟩
  rw [hgd] at kd ⊢
  rw [hgp] at kp ⊢
  rw [hgL] at kL ⊢
  have bL : w.heap.size ≤ gL := by omega
  have bp : w.heap.size ≤ gp := by omega
  have bd : w.heap.size ≤ gd := by omega
  clear hgL hgp hgd
  have kf := Bk.made w1 92 #[ofV gL]
  replace kL := kL.alloc (.cells #[ofV gL] 92)
  replace kp := kp.alloc (.cells #[ofV gL] 92)
  replace kd := kd.alloc (.cells #[ofV gL] 92)
  have bf := hbl.size
  replace hbl := below_al hbl (.cells #[ofV gL] 92)
  go_upto_region 2 with (refine wpList_store_new1 rfl 92 (.tmp 7) (.tmp 9) rfl rfl w1.heap.size _ _ (ofV gL) rfl rfl rfl rfl (by kernel_rfl) rfl ?_; (generalize w1.alloc (.cells #[ofV gL] 92) = w2 at *))
  generalize w1.heap.size = gf at *
  have kj := Bk.made w2 96 #[joV gd gf]
  replace kL := kL.alloc (.cells #[joV gd gf] 96)
  replace kp := kp.alloc (.cells #[joV gd gf] 96)
  replace kd := kd.alloc (.cells #[joV gd gf] 96)
  replace kf := kf.alloc (.cells #[joV gd gf] 96)
  have bj := hbl.size
  replace hbl := below_al hbl (.cells #[joV gd gf] 96)
  go_upto_region 3 with (refine wpList_store_new1 rfl 96 (.tmp 8) (.tmp 10) rfl rfl w2.heap.size _ _ (joV gd gf) rfl rfl rfl rfl (by kernel_rfl) rfl ?_; (generalize w2.alloc (.cells #[joV gd gf] 96) = w3 at *))
  generalize w2.heap.size = gj at *
  have i1 := run_insert w3 #[] 0 11 (mkV gd gL gf gp) rfl
  have i2 := run_insert w3 #[ent 11 (mkV gd gL gf gp) 0] 1 12 (clV gd gf gp) rfl
  have i3 := run_insert w3 #[ent 11 (mkV gd gL gf gp) 0, ent 12 (clV gd gf gp) 1] 2 13 (syV gj gp) rfl
  have i4 := run_insert w3 #[ent 11 (mkV gd gL gf gp) 0, ent 12 (clV gd gf gp) 1, ent 13 (syV gj gp) 2] 3 14 (enV gd gf gp gL gj) rfl
  have i5 := run_insert w3 #[ent 11 (mkV gd gL gf gp) 0, ent 12 (clV gd gf gp) 1, ent 13 (syV gj gp) 2, ent 14 (enV gd gf gp gL gj) 3] 4 15 (feV gd gf gp) rfl
  simp only [List.push_toArray, List.nil_append, List.cons_append] at i1 i2 i3 i4 i5
  have hr : (w3.alloc (.map (theMap gL gp gd gf gj) 5)).heap[w3.heap.size]? = some (.map (theMap gL gp gd gf gj) 5) := heap_alloc_new w3 _
  have HP := Lib.hid (And.intro (kL.alloc (.map (theMap gL gp gd gf gj) 5)) (And.intro (kp.alloc (.map (theMap gL gp gd gf gj) 5)) (And.intro (kd.alloc (.map (theMap gL gp gd gf gj) 5)) (And.intro (kf.alloc (.map (theMap gL gp gd gf gj) 5)) (And.intro (kj.alloc (.map (theMap gL gp gd gf gj) 5)) (And.intro hr (below_al hbl (.map (theMap gL gp gd gf gj) 5))))))))
  clear kL kp kd kf kj hr hbl
  go_wp2
  go_ret
  obtain ⟨h1, h2, h3, h4, h5, h6, h7⟩ := HP.out
  exact ⟨gL, gp, gd, gf, gj, w3.heap.size, rfl, bL, bp, bd, bf, bj, h1, h2, h3, h4, h5, h6, h7⟩
end Go.Proofs.Ytcjaomiihajjbaa
