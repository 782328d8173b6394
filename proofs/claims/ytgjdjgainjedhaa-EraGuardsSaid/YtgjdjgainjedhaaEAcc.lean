/- The table's access. Printed by acc_gen.py. -/
import Derived.Test.YtgjdjgainjedhaaETab
import Derived.Test.YtgjdjgainjedhaaMemN
namespace Go.Proofs.Ytgjdjgainjedhaa
open Go.RowKit
set_option linter.unusedVariables false
attribute [local go_sem ↓] Go.wp_at_zero Go.wp_at_succ

def acT : Nat → Nat | 5 => 15 | 6 => 9 | 7 => 16 | 8 => 17 | 9 => 18 | 10 => 6 | 11 => 7 | 12 => 30 | 13 => 31 | 14 => 8 | _ => 32

def DoX (a : Acc) (m : List Int) (c1 c2 : Array Value) (v3 : Value) (w : World) : Prop :=
  ∃ g cap, (c1 = #[.slice (some ⟨g, 0, none⟩) m.length cap] ∧ c2 = #[.int .i64 (a.had m), .bool (a.ok (a.had m))] ∧ v3 = .int .i64 0) ∧ OwnInts w 0 (.slice (some ⟨g, 0, none⟩) m.length cap) (a.make m)
theorem doX_keep {a : Acc} {m : List Int} : ∀ (c1 c2 : Array Value) (v3 : Value) (w1 w2 : World), DoX a m c1 c2 v3 w1 → (KeptT 33 w1 w2 ∨ KeptT 67 w1 w2 ∨ Below w1.heap.size w1 w2) → DoX a m c1 c2 v3 w2 := by
  rintro c1 c2 v3 w1 w2 ⟨g, cap, h1, h2⟩ hd
  refine ⟨g, cap, h1, ?_⟩
  rcases hd with h | h | h
  · exact own_keptT h2 h (by decide)
  · exact own_keptT h2 h (by decide)
  · exact own_keepb' h2 h
theorem ownI_keep {w w' : World} {B : Nat} {v : Value} {zs : List Int} (h : OwnInts w B v zs) (hb : Below w.heap.size w w') : OwnInts w' B v zs := own_keepb' h hb
def AccPost (B gt gs : Nat) (t : TabE) (a : Acc) (w : World) (e : Ending) (w' : World) : Prop :=
  e = .returned (.tuple #[resV (a.had t.m) (a.ok (a.had t.m)), .bool true]) ∧ TRep w' B gt gs { t with m := a.make t.m } ∧ Stw gt gt w w'
set_option maxRecDepth 1000000 in
set_option maxHeartbeats 8000000 in
theorem access_any {w : World} {gt gs : Nat} {t : TabE} {B : Nat} (h : TRep w B gt gs t) (hBw : B ≤ w.heap.size) (qk qc qo qv : Int) (hml : t.m.length ≤ 1000) (he : (⟨qk, qc, qo, qv⟩ : Acc).err t.m.length = 0) :
    Calls Try.prog 57 #[ptr gt, .agg (accC qk qc qo qv)] w (AccPost B gt gs t ⟨qk, qc, qo, qv⟩ w) := by
  have HE := Lib.hid he
  have hx := h.keep (below_al (below_al (Below.refl w.heap.size w) (.cells (accC qk qc qo qv) 61)) (.cells #[.int .i64 0, .bool false] 67))
  have hst : Stw gt gt w _ := Stw.of_below (below_al (below_al (Below.refl w.heap.size w) (.cells (accC qk qc qo qv) 61)) (.cells #[.int .i64 0, .bool false] 67))
  have kA := (Bk.made w 61 (accC qk qc qo qv)).alloc (.cells #[.int .i64 0, .bool false] 67)
  have k4 := Bk.new (w.alloc (.cells (accC qk qc qo qv) 61)) (g := w.heap.size + 1) (by simp) 67 #[.int .i64 0, .bool false]
  have hgt : gt < w.heap.size := by
    obtain ⟨_, _, _, k, _⟩ := h.mem
    exact k.lt
  clear h he
  go_enter Try.func57, Try.ntmps57
  go_upto_region 1 with fail
  generalize (w.alloc (.cells (accC qk qc qo qv) 61)).alloc (.cells #[.int .i64 0, .bool false] 67) = w4 at *
  obtain ⟨bA, hbA⟩ : ∃ g, w.heap.size = g := ⟨_, rfl⟩
  obtain ⟨b4, hb4⟩ : ∃ g, w.heap.size + 1 = g := ⟨_, rfl⟩
  have HB4 := Lib.hid (And.intro hbA hb4)
  rw [hb4] at k4 ⊢
  rw [hbA] at kA ⊢
  clear hbA hb4
  refine wp_region_E (S := fun w' => Below w4.drew.heap.size w4.drew w') (E := fun _ => false) (by kernel_rfl) ?_
  have hbd := below_drew' (Below.refl w4.heap.size w4)
  replace hx := hx.keep hbd
  replace hst := hst.trans (Stw.of_below hbd)
  replace kA := kA.drew
  replace k4 := k4.drew
  clear hbd
  generalize w4.drew = w5 at *
  obtain ⟨gM, cM, cc, kT, hmo⟩ := hx.mem
  have HMO := Lib.hid hmo
  clear hmo
  refine wpAnyE_take (i := 0) (oi := _) (v := .pointer (some ⟨gt, 0, none⟩)) rfl (by kernel_rfl) (by kernel_rfl) (by kernel_rfl) (by kernel_rfl) (fun _ _ _ h => h) (Or.inl ⟨by rfl, ?_⟩) (Below.refl _ _) ?_
  · intro w' hSw
    (try simp only [List.getElem_toArray, List.getElem_cons_zero])
    go_simp
  (try simp only [List.getElem_toArray, List.getElem_cons_zero, Act.put, List.setIfInBounds_toArray, List.set_cons_zero, List.set_cons_succ])
  refine wpAnyE_take (i := 1) (oi := _) (v := .pointer (some ⟨gt, 0, none⟩)) rfl (by kernel_rfl) (by kernel_rfl) (by kernel_rfl) (by kernel_rfl) (fun _ _ _ h => h) (Or.inl ⟨by rfl, ?_⟩) (Below.refl _ _) ?_
  · intro w' hSw
    (try simp only [List.getElem_toArray, List.getElem_cons_succ, List.getElem_cons_zero])
    go_simp
  (try simp only [List.getElem_toArray, List.getElem_cons_succ, List.getElem_cons_zero, Act.put, List.setIfInBounds_toArray, List.set_cons_zero, List.set_cons_succ])
  refine wpAnyE_take (i := 2) (oi := _) (v := .pointer (some ⟨gt, 0, none⟩)) rfl (by kernel_rfl) (by kernel_rfl) (by kernel_rfl) (by kernel_rfl) (fun _ _ _ h => h) (Or.inl ⟨by rfl, ?_⟩) (Below.refl _ _) ?_
  · intro w' hSw
    (try simp only [List.getElem_toArray, List.getElem_cons_succ, List.getElem_cons_zero])
    go_simp
  (try simp only [List.getElem_toArray, List.getElem_cons_succ, List.getElem_cons_zero, Act.put, List.setIfInBounds_toArray, List.set_cons_zero, List.set_cons_succ])
  refine wpAnyE_take (i := 3) (oi := _) (v := .agg #[.slice (some ⟨gM, 0, none⟩) t.m.length cM]) rfl (by kernel_rfl) (by kernel_rfl) (by kernel_rfl) (by kernel_rfl) (fun _ _ _ h => h) (Or.inl ⟨by rfl, ?_⟩) (Below.refl _ _) ?_
  · intro w' hSw
    have s1 := (kT.keep hSw).cell 0
    (try simp at s1)
    (try simp only [List.getElem_toArray, List.getElem_cons_succ, List.getElem_cons_zero])
    go_simp
  (try simp only [List.getElem_toArray, List.getElem_cons_succ, List.getElem_cons_zero, Act.put, List.setIfInBounds_toArray, List.set_cons_zero, List.set_cons_succ])
  refine wpAnyE_take (i := 4) (oi := _) (v := .agg (accC qk qc qo qv)) rfl (by kernel_rfl) (by kernel_rfl) (by kernel_rfl) (by kernel_rfl) (fun _ _ _ h => h) (Or.inl ⟨by rfl, ?_⟩) (Below.refl _ _) ?_
  · intro w' hSw
    (try simp only [List.getElem_toArray, List.getElem_cons_succ, List.getElem_cons_zero])
    simp only [execOp, Instr.loadAt, Instr.sureAddr, Sem.run_bind, Sem.run_pure]
    rw [show (Act.eval _ (Operand.tmp 3)) = Value.pointer (some ⟨bA, 0, none⟩) from rfl]
    simp only [Sem.run_pure, Result.andThen_ok, run_loadVar_row w' bA 61 61 (accC qk qc qo qv) (0, 0) _ (kA.keep hSw) Try.underlying61 rfl (by kernel_rfl)]
  (try simp only [List.getElem_toArray, List.getElem_cons_succ, List.getElem_cons_zero, Act.put, List.setIfInBounds_toArray, List.set_cons_zero, List.set_cons_succ])
  refine wpAnyE_dag (U := [5, 6, 7, 8, 9, 10, 11, 12, 13, 14]) (tmp := acT) (pre := c3P 5) (T := fun w' => Below w5.heap.size w5 w') (N := fun _ _ => True) (G := c3G 5 w5.heap.size 33 67) (R := c3R 5 w5.heap.size 33 67 #[.slice none 0 0] #[.int .i64 0, .bool false] (DoX ⟨qk, qc, qo, qv⟩ t.m)) (by kernel_rfl) (fun _ _ => rfl) (fun w2 h => h) (Below.refl _ _) (fun i hi w3 w4 h1 h2 => c3T_keep h1 h2) (fun _ _ => trivial) (fun _ _ _ _ _ _ _ _ _ _ => trivial)
    (fun i hi j hj hij vals v u w3 w4 hT hvi hvj hp hr hg => c3R_keep (by decide) doX_keep hij hvi hvj hr hg) (fun i hi o ho vals w3 K hvn hT _ hpre hK => ?_) 0 (fun vals w6 hall hT => ?_)
  · simp only [List.mem_cons, List.not_mem_nil, or_false] at hi
    rcases hi with rfl | rfl | rfl | rfl | rfl | rfl | rfl | rfl | rfl | rfl
    · obtain rfl := Option.some.inj ho
      simp only [show c3P 5 5 = [] from rfl, actOf] at hK ⊢
      go_simp
      (with_reducible refine (do_ok (some ⟨gM, 0, none⟩) cM t.m ⟨qk, qc, qo, qv⟩ _ ((sl_of_own (ownI_keep HMO.out hT) rfl)) (by omega) HE.out).mono ?_)
      rintro e w6 ⟨g6, c6, rfl, ho6, hb⟩
      exact hK _ _ ⟨_, _, _, rfl, g6, c6, ⟨rfl, rfl, rfl⟩, own_low' ho6 (Nat.zero_le _)⟩ hb
    · obtain rfl := Option.some.inj ho
      obtain ⟨v0, e0, d1, d2, d3, rfl, hX0⟩ := hpre 5 (by simp [c3P])
      simp only [show c3P 5 6 = [5] from rfl, actOf, e0, acT] at hK ⊢
      go_simp
      exact hK _ _ ⟨d1, d2, d3, rfl, by simp only [upd]; exact e0⟩ (Below.refl _ _)
    · obtain rfl := Option.some.inj ho
      obtain ⟨v1, e1, d1, d2, d3, rfl, e0⟩ := hpre 6 (by simp [c3P])
      simp only [show c3P 5 7 = [6] from rfl, actOf, e1, acT] at hK ⊢
      go_simp
      exact hK _ _ ⟨d1, d2, d3, by simp only [upd]; exact e0, rfl⟩ (Below.refl _ _)
    · obtain rfl := Option.some.inj ho
      obtain ⟨v1, e1, d1, d2, d3, rfl, e0⟩ := hpre 6 (by simp [c3P])
      simp only [show c3P 5 8 = [6] from rfl, actOf, e1, acT] at hK ⊢
      go_simp
      exact hK _ _ ⟨d1, d2, d3, by simp only [upd]; exact e0, rfl⟩ (Below.refl _ _)
    · obtain rfl := Option.some.inj ho
      obtain ⟨v1, e1, d1, d2, d3, rfl, e0⟩ := hpre 6 (by simp [c3P])
      simp only [show c3P 5 9 = [6] from rfl, actOf, e1, acT] at hK ⊢
      go_simp
      exact hK _ _ ⟨d1, d2, d3, by simp only [upd]; exact e0, rfl⟩ (Below.refl _ _)
    · obtain rfl := Option.some.inj ho
      simp only [show c3P 5 10 = [] from rfl, actOf] at hK ⊢
      go_simp
      exact hK _ _ ⟨_, rfl, hT.size, fun _ => Bk.made _ _ _⟩ (below_al (Below.refl _ _) _)
    · obtain rfl := Option.some.inj ho
      simp only [show c3P 5 11 = [] from rfl, actOf] at hK ⊢
      go_simp
      exact hK _ _ ⟨_, rfl, hT.size, fun _ => Bk.made _ _ _⟩ (below_al (Below.refl _ _) _)
    · obtain rfl := Option.some.inj ho
      obtain ⟨v0, e0, d1, d2, d3, rfl, hX0⟩ := hpre 5 (by simp [c3P])
      obtain ⟨v2, e2, f1, f2, f3, e2', rfl⟩ := hpre 7 (by simp [c3P])
      rw [e0] at e2'
      obtain ⟨rfl, rfl, rfl⟩ := tup3_inj e2'
      obtain ⟨v5, e5, ga, rfl, hga, k5⟩ := hpre 10 (by simp [c3P])
      have ka := k5 hvn
      obtain ⟨g6, c6, ⟨rfl, rfl, rfl⟩, ho6⟩ := hX0
      simp only [show c3P 5 12 = [5, 7, 10] from rfl, actOf, e0, e2, e5, acT] at hK ⊢
      (try simp only [List.getElem_toArray, List.getElem_cons_succ, List.getElem_cons_zero])
      refine wp_store_row 33 (.tmp 6) (.tmp 16) rfl ga _ rfl rfl 33 #[.slice none 0 0] ka (by kernel_rfl) rfl (by simp [Value.oneCell']) ?_
      exact hK undef _ ⟨ga, _, _, _, by simp only [upd]; exact e0, by simp only [upd]; exact e5, hga, setRow_heap _ _ _ _ _ _ ka⟩ ⟨keptT_row ka, below_setRowB' hga _⟩
    · obtain rfl := Option.some.inj ho
      obtain ⟨v0, e0, d1, d2, d3, rfl, hX0⟩ := hpre 5 (by simp [c3P])
      obtain ⟨v2, e2, f1, f2, f3, e2', rfl⟩ := hpre 8 (by simp [c3P])
      rw [e0] at e2'
      obtain ⟨rfl, rfl, rfl⟩ := tup3_inj e2'
      obtain ⟨v5, e5, ga, rfl, hga, k5⟩ := hpre 11 (by simp [c3P])
      have ka := k5 hvn
      obtain ⟨g6, c6, ⟨rfl, rfl, rfl⟩, ho6⟩ := hX0
      simp only [show c3P 5 13 = [5, 8, 11] from rfl, actOf, e0, e2, e5, acT] at hK ⊢
      (try simp only [List.getElem_toArray, List.getElem_cons_succ, List.getElem_cons_zero])
      refine wp_store_row 67 (.tmp 7) (.tmp 17) rfl ga _ rfl rfl 67 #[.int .i64 0, .bool false] ka (by kernel_rfl) rfl (by simp [Value.oneCell']) ?_
      exact hK undef _ ⟨ga, _, _, _, by simp only [upd]; exact e0, by simp only [upd]; exact e5, hga, setRow_heap _ _ _ _ _ _ ka⟩ ⟨keptT_row ka, below_setRowB' hga _⟩
    · obtain rfl := Option.some.inj ho
      obtain ⟨v4, e4, f1, f2, f3, e4', rfl⟩ := hpre 9 (by simp [c3P])
      simp only [show c3P 5 14 = [9] from rfl, actOf, e4, acT] at hK ⊢
      go_simp
      exact hK _ _ ⟨_, _, _, by simp only [upd]; exact e4', rfl⟩ (Below.refl _ _)
  obtain ⟨v0, e0, d1, d2, d3, rfl, hX0⟩ := hall 5 (by simp)
  obtain ⟨v1, e1, f1, f2, f3, rfl, e1'⟩ := hall 6 (by simp)
  rw [e0] at e1'
  obtain ⟨rfl, rfl, rfl⟩ := tup3_inj e1'
  obtain ⟨v2, e2, f1, f2, f3, e2', rfl⟩ := hall 7 (by simp)
  rw [e0] at e2'
  obtain ⟨rfl, rfl, rfl⟩ := tup3_inj e2'
  obtain ⟨v3, e3, f1, f2, f3, e2', rfl⟩ := hall 8 (by simp)
  rw [e0] at e2'
  obtain ⟨rfl, rfl, rfl⟩ := tup3_inj e2'
  obtain ⟨v4, e4, f1, f2, f3, e2', rfl⟩ := hall 9 (by simp)
  rw [e0] at e2'
  obtain ⟨rfl, rfl, rfl⟩ := tup3_inj e2'
  obtain ⟨v5, e5, ga0, rfl, hga0, -⟩ := hall 10 (by simp)
  obtain ⟨v6, e6, ga1, rfl, hga1, -⟩ := hall 11 (by simp)
  obtain ⟨v7, e7, gb0, f1, f2, f3, e2', e3', -, kb0⟩ := hall 12 (by simp)
  rw [e0] at e2'
  obtain ⟨rfl, rfl, rfl⟩ := tup3_inj e2'
  rw [e5] at e3'
  obtain rfl := ptr_inj e3'
  obtain ⟨v8, e8, gb1, f1, f2, f3, e2', e3', -, kb1⟩ := hall 13 (by simp)
  rw [e0] at e2'
  obtain ⟨rfl, rfl, rfl⟩ := tup3_inj e2'
  rw [e6] at e3'
  obtain rfl := ptr_inj e3'
  obtain ⟨v9, e9, f1, f2, f3, e2', rfl⟩ := hall 14 (by simp)
  rw [e0] at e2'
  obtain ⟨rfl, rfl, rfl⟩ := tup3_inj e2'
  clear hall
  refine wpAnyE_done (by simp only [lstOf, e0, e1, e2, e3, e4, e5, e6, e7, e8, e9, Option.isSome_some, if_true]; kernel_rfl) ?_ _
  simp only [actOf, e0, e1, e2, e3, e4, e5, e6, e7, e8, e9, acT]
  clear e0 e1 e2 e3 e4 e5 e6 e7 e8 e9
  (try simp only [Act.put, List.setIfInBounds_toArray, List.set_cons_zero, List.set_cons_succ, List.set_nil])
  obtain ⟨g6, c6, ⟨rfl, rfl, rfl⟩, ho6⟩ := hX0
  replace hx := hx.keep hT
  replace hst := hst.trans (Stw.of_below hT)
  replace k4 := k4.keep hT
  clear hT kA HMO kT
  obtain ⟨had, hhad⟩ : ∃ z, (⟨qk, qc, qo, qv⟩ : Acc).had t.m = z := ⟨_, rfl⟩
  obtain ⟨gok, hgok⟩ : ∃ z, (⟨qk, qc, qo, qv⟩ : Acc).ok had = z := ⟨_, rfl⟩
  obtain ⟨mm, hmm⟩ : ∃ z, (⟨qk, qc, qo, qv⟩ : Acc).make t.m = z := ⟨_, rfl⟩
  have hml2 : mm.length = t.m.length := by rw [← hmm]; exact Acc.make_length _ _
  rw [hhad, hgok] at kb1
  rw [hmm] at ho6
  rw [← hml2] at kb0 ho6
  have HN := Lib.hid (And.intro hhad (And.intro hgok hmm))
  clear hhad hgok hmm hml2
  have q0 := kb0.cell 0
  have lq := kb0.lt
  simp at q0
  obtain ⟨gM2, cM2, cc2, kT, -⟩ := hx.mem
  have p0 := kT.cell 0
  have pf := kT.free 0
  have pl := kT.lt
  simp at p0
  have hx7 := hx.setMem ho6
  have hst7 := hst.trans (Stw.setT w6 0 (.slice (some ⟨g6, 0, none⟩) mm.length c6))
  have hne1 : ga1 ≠ gt := bk_neT kb1 kT (by decide)
  have hne4 : b4 ≠ gt := bk_neT k4 kT (by decide)
  have kR7 := kb1.other (p := ⟨gt, 0, none⟩) hne1 (.slice (some ⟨g6, 0, none⟩) mm.length c6)
  have k47 := k4.other (p := ⟨gt, 0, none⟩) hne4 (.slice (some ⟨g6, 0, none⟩) mm.length c6)
  have HX7 := Lib.hid (And.intro hx7 (And.intro hst7 (And.intro kR7 k47)))
  clear hx7 hst7 kR7 k47 hx hst kb1 kb0 ho6 k4
  go_upto_region 6 with fail
  clear q0 lq p0 pf pl kT
  show Code.wp Try.prog _ _ _ (w6.setCell ⟨gt, 0, none⟩ (.slice (some ⟨g6, 0, none⟩) mm.length c6))
  obtain ⟨hx7, hst7, kR7, k47⟩ := HX7.out
  clear HX7
  generalize w6.setCell ⟨gt, 0, none⟩ (.slice (some ⟨g6, 0, none⟩) mm.length c6) = w7 at *
  obtain ⟨e1, e2⟩ := HB4.out
  have s0 := kR7.cell 0
  have s1 := kR7.cell 1
  have sl := kR7.lt
  simp at s0 s1
  have hx8 := (hx7.row (cs := #[.int .i64 had, .bool gok]) k47 (.inr ⟨rfl, by omega⟩))
  have hst8 : Stw gt gt w (w7.setRow b4 #[.int .i64 had, .bool gok]) := ⟨hst7.os, hst7.tape, hst7.output, by have := hst7.size; simpa [World.setRow] using this, fun b hb hn hm => (setRow_other _ b4 b _ (by omega)).trans (hst7.block b hb hn hm)⟩
  have kf := setRow_heap _ _ #[.int .i64 0, .bool false] #[.int .i64 had, .bool gok] 67 (0, 0) k47
  clear hx7 hst7
  go_wp2_with (refine wpList_store_rowTo rfl 67 (.tmp 4) (.tmp 29) rfl rfl b4 #[.int .i64 had, .bool gok] rfl rfl 67 #[.int .i64 0, .bool false] k47 (by kernel_rfl) rfl (by simp [Value.oneCell']) ?_)
  refine bodyPost_ret (v := .tuple #[.agg #[.int .i64 had, .bool gok], .bool true]) (results_cell_tmp (p := 4) (t := 5) (ty := 67) rfl _ _ b4 67 #[.int .i64 had, .bool gok] (0, 0) _ (.bool true) rfl rfl kf Try.underlying67 rfl (by kernel_rfl)) rfl ?_
  obtain ⟨r1, r2, r3⟩ := HN.out
  refine ⟨?_, ?_, hst8⟩
  · rw [r1, r2]
  · rw [r3]
    exact hx8
end Go.Proofs.Ytgjdjgainjedhaa
