/- law18's shown. Printed by dqshown_gen.py. -/
import Derived.Test.YtdjglkpcdhkodaaDqZ
import Derived.Test.YtdjglkpcdhkodaaDqY
namespace Go.Proofs.Ytdjglkpcdhkodaa
open Go.RowKit
set_option linter.unusedVariables false
attribute [local go_sem ↓] Go.wp_at_zero Go.wp_at_succ

def shT0 : Nat → Nat | 5 => 28 | 6 => 22 | 7 => 29 | 8 => 30 | 9 => 31 | 10 => 2 | 11 => 3 | 12 => 190 | 13 => 191 | 14 => 4 | 3 => 26 | _ => 192
def shT1 : Nat → Nat | 3 => 36 | 4 => 32 | 5 => 37 | 6 => 38 | 7 => 39 | 8 => 5 | 9 => 6 | 10 => 190 | 11 => 191 | 12 => 7 | _ => 192
def shT2 : Nat → Nat | 3 => 44 | 4 => 40 | 5 => 45 | 6 => 46 | 7 => 47 | 8 => 8 | 9 => 9 | 10 => 190 | 11 => 191 | 12 => 10 | _ => 192
def shT3 : Nat → Nat | 3 => 52 | 4 => 48 | 5 => 53 | 6 => 54 | 7 => 55 | 8 => 11 | 9 => 12 | 10 => 190 | 11 => 191 | 12 => 13 | _ => 192
def shT4 : Nat → Nat | 3 => 60 | 4 => 56 | 5 => 61 | 6 => 62 | 7 => 63 | 8 => 14 | 9 => 15 | 10 => 190 | 11 => 191 | 12 => 16 | _ => 192
def shT5 : Nat → Nat | 2 => 67 | 3 => 64 | 4 => 68 | 5 => 69 | 6 => 70 | 7 => 17 | 8 => 18 | 9 => 190 | 10 => 191 | 11 => 19 | _ => 192

/-! A program alone, by a look. -/
def aloneOk (l : Ly) (op : Opr) (m : List Int) (K : Nat) (val : Int) (is : Bool) (err pt : Int) : Bool :=
  (List.range K).all (fun k => match nextD l op (aloneS l op m k).2 with | .ask a c o v => decide ((⟨a, c, o, v⟩ : Acc).err (aloneS l op m k).1.length = 0) | .out _ _ _ _ => false)
  && (List.range (K + 1)).all (fun k => (aloneS l op m k).2.all fun x => decide (-1000000 ≤ x.1) && decide (x.1 ≤ 1000000))
  && (match nextD l op (aloneS l op m K).2 with | .out v i e p => decide (v = val) && decide (i = is) && decide (e = err) && decide (p = pt) | .ask _ _ _ _ => false)
  && decide (K ≤ 300)
theorem ARun.of_ok {l : Ly} {op : Opr} {m : List Int} {K : Nat} {val : Int} {is : Bool} {err pt : Int} (h : aloneOk l op m K val is err pt = true) : ARun l op m K val is err pt := by
  unfold aloneOk at h
  simp only [Bool.and_eq_true] at h
  obtain ⟨⟨⟨h1, h2⟩, h3⟩, h4⟩ := h
  rw [List.all_eq_true] at h1 h2
  refine ⟨fun k hk => ?_, fun k hk => ?_, ?_, of_decide_eq_true h4⟩
  · have := h1 k (List.mem_range.2 hk)
    cases e : nextD l op (aloneS l op m k).2 with
    | ask a c o v => rw [e] at this; exact ⟨a, c, o, v, rfl, of_decide_eq_true this⟩
    | out _ _ _ _ => rw [e] at this; cases this
  · have := h2 k (List.mem_range.2 (by omega))
    rw [List.all_eq_true] at this
    intro j x hx
    have := this x (List.mem_of_getElem? hx)
    rw [Bool.and_eq_true] at this
    exact ⟨of_decide_eq_true this.1, of_decide_eq_true this.2⟩
  · cases e : nextD l op (aloneS l op m K).2 with
    | ask _ _ _ _ => rw [e] at h3; cases h3
    | out v i e' p =>
      rw [e] at h3
      simp only [Bool.and_eq_true] at h3
      obtain ⟨⟨⟨g1, g2⟩, g3⟩, g4⟩ := h3
      rw [of_decide_eq_true g1, of_decide_eq_true g2, of_decide_eq_true g3, of_decide_eq_true g4]
/-- The memories of the document's example. -/
def shM0 : List Int := List.replicate 44 0
def shM1 : List Int := shM0.set 20 1 |>.set 28 7
def shM2 : List Int := shM1.set 20 2 |>.set 29 8
def shM3 : List Int := shM2.set 19 1
def shM4 : List Int := shM3.set 19 2
theorem sh_run : ARun (playL 0) ⟨8, 0, 7, 0⟩ shM0 5 0 true 0 4 ∧ (aloneS (playL 0) ⟨8, 0, 7, 0⟩ shM0 5).1 = shM1 ∧ ARun (playL 0) ⟨8, 0, 8, 0⟩ shM1 5 0 true 0 4 ∧ (aloneS (playL 0) ⟨8, 0, 8, 0⟩ shM1 5).1 = shM2
    ∧ ARun (playL 0) ⟨10, 0, 0, 0⟩ shM2 5 7 true 0 4 ∧ (aloneS (playL 0) ⟨10, 0, 0, 0⟩ shM2 5).1 = shM3 ∧ ARun (playL 0) ⟨9, 0, 0, 0⟩ shM3 7 8 true 0 5 ∧ (aloneS (playL 0) ⟨9, 0, 0, 0⟩ shM3 7).1 = shM4
    ∧ ∃ m, ARun (playL 0) ⟨9, 0, 0, 0⟩ shM4 4 0 false 0 2 ∧ (aloneS (playL 0) ⟨9, 0, 0, 0⟩ shM4 4).1 = m ∧ m.length = 44 :=
  ⟨.of_ok (by decide +kernel), by decide +kernel, .of_ok (by decide +kernel), by decide +kernel, .of_ok (by decide +kernel), by decide +kernel, .of_ok (by decide +kernel), by decide +kernel, _, .of_ok (by decide +kernel), rfl, by decide +kernel⟩
/-- alone, by its memory's names. -/
def AloneX (val : Int) (is : Bool) (err pt : Int) (K n : Nat) (m' : List Int) (c1 c2 : Array Value) (v3 : Value) (w : World) : Prop :=
  ∃ A c, (c1 = outC val is err pt ∧ c2 = #[.slice A n c] ∧ v3 = .int .i64 (K : Nat)) ∧ OwnInts w 0 (.slice A n c) m'
theorem aloneX_keep {val : Int} {is : Bool} {err pt : Int} {K n : Nat} {m' : List Int} : ∀ (c1 c2 : Array Value) (v3 : Value) (w1 w2 : World), AloneX val is err pt K n m' c1 c2 v3 w1 → (KeptT 50 w1 w2 ∨ KeptT 37 w1 w2 ∨ Below w1.heap.size w1 w2) → AloneX val is err pt K n m' c1 c2 v3 w2 := by
  rintro c1 c2 v3 w1 w2 ⟨A, c, h1, h2⟩ hd
  refine ⟨A, c, h1, ?_⟩
  rcases hd with h | h | h
  · exact own_keptT h2 h (by decide)
  · exact own_keptT h2 h (by decide)
  · exact own_keepb' h2 h
theorem alone_n {l : Ly} {op : Opr} {m : List Int} {K n : Nat} {val : Int} {is : Bool} {err pt : Int} {A : Option Addr} {c : Nat} {m' : List Int} (w : World) (f : DqLy l) (hk : op.kind = 8 ∨ op.kind = 9 ∨ op.kind = 10) (ho : op.obj = 0) (hr : ARun l op m K val is err pt) (h0 : 0 < K) (hn : m.length = n) (hm : n ≤ 100000) (hA : OwnInts w 0 (.slice A n c) m) (e' : (aloneS l op m K).1 = m') :
    Calls Try.prog 15 #[.agg (lyC l), .agg #[.slice A n c], .agg (oprC op)] w (fun e w' => ∃ c1 c2 v3, e = .returned (tup3 c1 c2 v3) ∧ AloneX val is err pt K n m' c1 c2 v3 w' ∧ Below w.heap.size w w') := by
  subst hn
  refine (alone_any l op m K val is err pt A c w f hk ho hr hm (own_sl hA rfl)).mono ?_
  rintro e w' ⟨A', c', rfl, h1, h2⟩
  have hl := aloneS_ml l op m K
  rw [e'] at h1 hl ⊢
  rw [hl] at h1 ⊢
  exact ⟨_, _, _, rfl, ⟨A', c', ⟨rfl, rfl, rfl⟩, own_lower (h1 h0) (Nat.zero_le _)⟩, h2⟩
/-! A region with a call ahead of the call. -/
def NewX (n : Nat) (v : Value) (w : World) : Prop := ∃ g, v = memV (some ⟨g, 0, none⟩) n n ∧ OwnInts w 0 (.slice (some ⟨g, 0, none⟩) n n) (List.replicate n 0)
def c3P1 (b0 b i : Nat) : List Nat := if i = b then [b0] else c3P b i
def c3R1 (b0 b B : Nat) (t1 t2 : TypeId) (z1 z2 : Array Value) (X0 : Value → World → Prop) (X : Array Value → Array Value → Value → World → Prop) (i : Nat) (val : Nat → Option Value) (v : Value) (w : World) : Prop :=
  if i = b0 then X0 v w else c3R b B t1 t2 z1 z2 X i val v w
theorem c3R1_keep {b0 b B : Nat} {t1 t2 : TypeId} {z1 z2 : Array Value} {X0 : Value → World → Prop} {X : Array Value → Array Value → Value → World → Prop} (hne : t1 ≠ t2)
    (hX0 : ∀ v w1 w2, X0 v w1 → (KeptT t1 w1 w2 ∨ KeptT t2 w1 w2 ∨ Below w1.heap.size w1 w2) → X0 v w2)
    (hX : ∀ c1 c2 v3 w1 w2, X c1 c2 v3 w1 → (KeptT t1 w1 w2 ∨ KeptT t2 w1 w2 ∨ Below w1.heap.size w1 w2) → X c1 c2 v3 w2) {i j : Nat} (hij : i ≠ j) {val : Nat → Option Value} {v u : Value} {w1 w2 : World} (hi : val i = some v) (hj : val j = none)
    (h : c3R1 b0 b B t1 t2 z1 z2 X0 X i val v w1) (hg : c3G b B t1 t2 j w1 w2) : c3R1 b0 b B t1 t2 z1 z2 X0 X i (upd val j u) v w2 := by
  unfold c3R1 at h ⊢
  split
  · rename_i e
    rw [if_pos e] at h
    refine hX0 _ _ _ h ?_
    unfold c3G at hg
    split at hg
    · exact .inl hg.1
    · split at hg
      · exact .inr (.inl hg.1)
      · exact .inr (.inr hg)
  · rename_i e
    rw [if_neg e] at h
    exact c3R_keep hne hX hij hi hj h hg
theorem newX_keep {n : Nat} : ∀ (v : Value) (w1 w2 : World), NewX n v w1 → (KeptT 50 w1 w2 ∨ KeptT 37 w1 w2 ∨ Below w1.heap.size w1 w2) → NewX n v w2 := by
  rintro v w1 w2 ⟨g, h1, h2⟩ hd
  refine ⟨g, h1, ?_⟩
  rcases hd with h | h | h
  · exact own_keptT h2 h (by decide)
  · exact own_keptT h2 h (by decide)
  · exact own_keepb' h2 h
theorem where_zero (w : World) : Calls Try.prog 10 #[.agg #[.slice none 0 0, .int .u8 0, .int .u8 0, .int .u8 0, .slice none 0 0]] w (LyBelow (playL 0) w) := where_any none 0 0 0 0 0 none 0 0 w (by omega) (by omega)
theorem new_44 (w : World) : Calls Try.prog 14 #[.int .i64 44] w (NewMem 44 w) := new_any 44 w (by omega)
theorem next_bad3 (l : Ly) (h : l.c.seats = 3) (w : World) : Calls Try.prog 19 #[.agg (lyC l), .int .i64 0, .slice none 0 0, .agg #[.int .i64 10, .int .i64 3, .int .i64 0, .int .i64 0], .slice none 0 0] w (fun e w' => e = .returned (.tuple #[.agg accZ, .agg (outC 0 false 1 (-1)), .bool true]) ∧ Below w.heap.size w w') :=
  next_bad l 0 ⟨10, 3, 0, 0⟩ none 0 [] w (Or.inr (Or.inr rfl)) ⟨by decide, by rw [h]; decide⟩
def ShX (c1 c2 : Array Value) (v3 : Value) (w : World) : Prop := c1 = accZ ∧ c2 = outC 0 false 1 (-1) ∧ v3 = .bool true
set_option maxRecDepth 1000000 in
set_option maxHeartbeats 16000000 in
theorem shown_any (w : World) : Calls Try.prog 8 #[] w (fun e w' => e = .returned (.bool true) ∧ Below w.heap.size w w') := by
  obtain ⟨r0, e0, r1, e1, r2, e2, r3, e3, m5, r4, e4, l5⟩ := sh_run
  have hsz : (playL 0).size = ((44 : Nat) : Int) := by decide +kernel
  have HLY := Lib.hid (playL_size 0 (by omega)).2.2
  have hl0 : shM0 = List.replicate 44 0 := rfl
  have ln0 : shM0.length = 44 := rfl
  have ln1 : shM1.length = 44 := rfl
  have ln2 : shM2.length = 44 := rfl
  have ln3 : shM3.length = 44 := rfl
  have ln4 : shM4.length = 44 := rfl
  have HR0 := Lib.hid (And.intro r0 (And.intro e0 ln0))
  have HR1 := Lib.hid (And.intro r1 (And.intro e1 ln1))
  have HR2 := Lib.hid (And.intro r2 (And.intro e2 ln2))
  have HR3 := Lib.hid (And.intro r3 (And.intro e3 ln3))
  have HR4 := Lib.hid (And.intro r4 (And.intro e4 ln4))
  clear r0 e0 r1 e1 r2 e2 r3 e3 r4 e4 l5 ln0 ln1 ln2 ln3 ln4
  go_enter Try.func8, Try.ntmps8
  go_wp2_with fail
  (with_reducible refine (where_zero _).mono ?_)
  rintro e w1 ⟨rfl, hb⟩
  replace hb : Below w.heap.size w w1 := hb
  have hseats : (playL 0).c.seats = 3 := rfl
  generalize playL 0 = l at *
  go_upto_region 2 with (refine wpList_store_new rfl 31 (.tmp 1) (.tmp 21) rfl rfl w1.heap.size _ _ (lyC l) rfl rfl rfl rfl (by kernel_rfl) rfl (by simp [Value.oneCell']) ?_)
  have kL := Bk.made w1 31 (lyC l)
  replace hb := below_al hb (.cells (lyC l) 31)
  generalize w1.alloc (.cells (lyC l) 31) = wa0 at *
  generalize w1.heap.size = bL at *
  refine wp_region_E (S := fun w' => Below wa0.drew.heap.size wa0.drew w') (E := fun _ => false) (by kernel_rfl) ?_
  replace kL := kL.drew
  replace hb := hb.drew
  generalize wa0.drew = wb0 at *
  refine wpAnyE_take (i := 0) (oi := _) (v := .agg (lyC l)) rfl (by kernel_rfl) (by kernel_rfl) (by kernel_rfl) (by kernel_rfl) (fun _ _ _ h => h) (Or.inl ⟨by rfl, ?_⟩) (Below.refl _ _) ?_
  · intro w' hSw
    (try simp only [List.getElem_toArray, List.getElem_cons_zero])
    simp only [execOp, Instr.loadAt, Instr.sureAddr, Sem.run_bind, Sem.run_pure]
    rw [show (Act.eval _ (Operand.tmp 1)) = Value.pointer (some ⟨bL, 0, none⟩) from rfl]
    simp only [Sem.run_pure, Result.andThen_ok, run_loadVar_row w' bL 31 31 (lyC l) (0, 0) _ (kL.keep hSw) Try.underlying31 rfl (by kernel_rfl)]
  (try simp only [List.getElem_toArray, List.getElem_cons_zero, Act.put, List.setIfInBounds_toArray, List.set_cons_zero, List.set_cons_succ])
  refine wpAnyE_take (i := 1) (oi := _) (v := .pointer (some ⟨bL, 24, none⟩)) rfl (by kernel_rfl) (by kernel_rfl) (by kernel_rfl) (by kernel_rfl) (fun _ _ _ h => h) (Or.inl ⟨by rfl, ?_⟩) (Below.refl _ _) ?_
  · intro w' hSw
    (try simp only [List.getElem_toArray, List.getElem_cons_succ, List.getElem_cons_zero])
    go_simp
  (try simp only [List.getElem_toArray, List.getElem_cons_succ, List.getElem_cons_zero, Act.put, List.setIfInBounds_toArray, List.set_cons_zero, List.set_cons_succ])
  refine wpAnyE_take (i := 2) (oi := _) (v := .int .i64 (44 : Nat)) rfl (by kernel_rfl) (by kernel_rfl) (by kernel_rfl) (by kernel_rfl) (fun _ _ _ h => h) (Or.inl ⟨by rfl, ?_⟩) (Below.refl _ _) ?_
  · intro w' hSw
    have s1 := (kL.keep hSw).cell 24
    (try simp at s1)
    (try simp only [List.getElem_toArray, List.getElem_cons_succ, List.getElem_cons_zero])
    go_simp
    (try simp [hsz])
  (try simp only [List.getElem_toArray, List.getElem_cons_succ, List.getElem_cons_zero, Act.put, List.setIfInBounds_toArray, List.set_cons_zero, List.set_cons_succ])
  refine wpAnyE_take (i := 4) (oi := _) (v := .agg #[.int .i64 8, .int .i64 0, .int .i64 7, .int .i64 0]) rfl (by kernel_rfl) (by kernel_rfl) (by kernel_rfl) (by kernel_rfl) (fun _ _ _ h => h) (Or.inl ⟨by rfl, ?_⟩) (Below.refl _ _) ?_
  · intro w' hSw
    (try simp only [List.getElem_toArray, List.getElem_cons_succ, List.getElem_cons_zero])
    go_simp
  (try simp only [List.getElem_toArray, List.getElem_cons_succ, List.getElem_cons_zero, Act.put, List.setIfInBounds_toArray, List.set_cons_zero, List.set_cons_succ])
  refine wpAnyE_dag (U := [3, 5, 6, 7, 8, 9, 10, 11, 12, 13, 14]) (tmp := shT0) (pre := c3P1 3 5) (T := fun w' => Below wb0.heap.size wb0 w') (N := fun _ _ => True) (G := c3G 5 wb0.heap.size 50 37) (R := c3R1 3 5 wb0.heap.size 50 37 outZ #[.slice none 0 0] (NewX 44) (AloneX 0 true 0 4 5 44 shM1)) (by kernel_rfl) (fun _ _ => rfl) (fun w2 h => h) (Below.refl _ _) (fun i hi w3 w4 h1 h2 => c3T_keep h1 h2) (fun _ _ => trivial) (fun _ _ _ _ _ _ _ _ _ _ => trivial)
    (fun i hi j hj hij vals v u w3 w4 hT hvi hvj hp hr hg => c3R1_keep (by decide) newX_keep aloneX_keep hij hvi hvj hr hg) (fun i hi o ho vals w3 K hvn hT _ hpre hK => ?_) 0 (fun vals wa1 hall hT => ?_)
  · simp only [List.mem_cons, List.not_mem_nil, or_false] at hi
    rcases hi with rfl | rfl | rfl | rfl | rfl | rfl | rfl | rfl | rfl | rfl | rfl
    · obtain rfl := Option.some.inj ho
      simp only [show c3P1 3 5 3 = [] from rfl, actOf] at hK ⊢
      go_simp
      (with_reducible refine (new_44 _).mono ?_)
      rintro e w6 ⟨g0, rfl, ho6, hb6⟩
      exact hK _ _ ⟨g0, rfl, own_low' ho6 (Nat.zero_le _)⟩ hb6
    · obtain rfl := Option.some.inj ho
      obtain ⟨v00, e00, g0, rfl, ho0⟩ := hpre 3 (by simp [c3P1])
      rw [← hl0] at ho0
      simp only [show c3P1 3 5 5 = [3] from rfl, actOf, e00, shT0] at hK ⊢
      go_simp
      (with_reducible refine (alone_n _ HLY.out (Or.inl rfl) rfl HR0.out.1 (by omega) HR0.out.2.2 (by omega) ho0 HR0.out.2.1).mono ?_)
      rintro e w6 ⟨c1, c2, v3, rfl, hX1, hb1⟩
      exact hK _ _ ⟨c1, c2, v3, rfl, hX1⟩ hb1
    · obtain rfl := Option.some.inj ho
      obtain ⟨v0, e0, d1, d2, d3, rfl, hX0⟩ := hpre 5 (by simp [c3P1, c3P])
      simp only [show c3P1 3 5 6 = [5] from rfl, actOf, e0, shT0] at hK ⊢
      go_simp
      exact hK _ _ ⟨d1, d2, d3, rfl, by simp only [upd]; exact e0⟩ (Below.refl _ _)
    · obtain rfl := Option.some.inj ho
      obtain ⟨v1, e1, d1, d2, d3, rfl, e0⟩ := hpre 6 (by simp [c3P1, c3P])
      simp only [show c3P1 3 5 7 = [6] from rfl, actOf, e1, shT0] at hK ⊢
      go_simp
      exact hK _ _ ⟨d1, d2, d3, by simp only [upd]; exact e0, rfl⟩ (Below.refl _ _)
    · obtain rfl := Option.some.inj ho
      obtain ⟨v1, e1, d1, d2, d3, rfl, e0⟩ := hpre 6 (by simp [c3P1, c3P])
      simp only [show c3P1 3 5 8 = [6] from rfl, actOf, e1, shT0] at hK ⊢
      go_simp
      exact hK _ _ ⟨d1, d2, d3, by simp only [upd]; exact e0, rfl⟩ (Below.refl _ _)
    · obtain rfl := Option.some.inj ho
      obtain ⟨v1, e1, d1, d2, d3, rfl, e0⟩ := hpre 6 (by simp [c3P1, c3P])
      simp only [show c3P1 3 5 9 = [6] from rfl, actOf, e1, shT0] at hK ⊢
      go_simp
      exact hK _ _ ⟨d1, d2, d3, by simp only [upd]; exact e0, rfl⟩ (Below.refl _ _)
    · obtain rfl := Option.some.inj ho
      simp only [show c3P1 3 5 10 = [] from rfl, actOf] at hK ⊢
      go_simp
      exact hK _ _ ⟨_, rfl, hT.size, fun _ => Bk.made _ _ _⟩ (below_al (Below.refl _ _) _)
    · obtain rfl := Option.some.inj ho
      simp only [show c3P1 3 5 11 = [] from rfl, actOf] at hK ⊢
      go_simp
      exact hK _ _ ⟨_, rfl, hT.size, fun _ => Bk.made _ _ _⟩ (below_al (Below.refl _ _) _)
    · obtain rfl := Option.some.inj ho
      obtain ⟨v0, e0, d1, d2, d3, rfl, hX0⟩ := hpre 5 (by simp [c3P1, c3P])
      obtain ⟨v2, e2, f1, f2, f3, e2', rfl⟩ := hpre 7 (by simp [c3P1, c3P])
      rw [e0] at e2'
      obtain ⟨rfl, rfl, rfl⟩ := tup3_inj e2'
      obtain ⟨v5, e5, ga, rfl, hga, k5⟩ := hpre 10 (by simp [c3P1, c3P])
      have ka := k5 hvn
      obtain ⟨A1, cp1, ⟨rfl, rfl, rfl⟩, hM⟩ := hX0
      simp only [show c3P1 3 5 12 = [5, 7, 10] from rfl, actOf, e0, e2, e5, shT0] at hK ⊢
      (try simp only [List.getElem_toArray, List.getElem_cons_succ, List.getElem_cons_zero])
      refine wp_store_row 50 (.tmp 2) (.tmp 29) rfl ga _ rfl rfl 50 outZ ka (by kernel_rfl) rfl (by simp [Value.oneCell']) ?_
      exact hK undef _ ⟨ga, _, _, _, by simp only [upd]; exact e0, by simp only [upd]; exact e5, hga, setRow_heap _ _ _ _ _ _ ka⟩ ⟨keptT_row ka, below_setRowB' hga _⟩
    · obtain rfl := Option.some.inj ho
      obtain ⟨v0, e0, d1, d2, d3, rfl, hX0⟩ := hpre 5 (by simp [c3P1, c3P])
      obtain ⟨v2, e2, f1, f2, f3, e2', rfl⟩ := hpre 8 (by simp [c3P1, c3P])
      rw [e0] at e2'
      obtain ⟨rfl, rfl, rfl⟩ := tup3_inj e2'
      obtain ⟨v5, e5, ga, rfl, hga, k5⟩ := hpre 11 (by simp [c3P1, c3P])
      have ka := k5 hvn
      obtain ⟨A1, cp1, ⟨rfl, rfl, rfl⟩, hM⟩ := hX0
      simp only [show c3P1 3 5 13 = [5, 8, 11] from rfl, actOf, e0, e2, e5, shT0] at hK ⊢
      (try simp only [List.getElem_toArray, List.getElem_cons_succ, List.getElem_cons_zero])
      refine wp_store_row 37 (.tmp 3) (.tmp 30) rfl ga _ rfl rfl 37 #[.slice none 0 0] ka (by kernel_rfl) rfl (by simp [Value.oneCell']) ?_
      exact hK undef _ ⟨ga, _, _, _, by simp only [upd]; exact e0, by simp only [upd]; exact e5, hga, setRow_heap _ _ _ _ _ _ ka⟩ ⟨keptT_row ka, below_setRowB' hga _⟩
    · obtain rfl := Option.some.inj ho
      obtain ⟨v4, e4, f1, f2, f3, e4', rfl⟩ := hpre 9 (by simp [c3P1, c3P])
      simp only [show c3P1 3 5 14 = [9] from rfl, actOf, e4, shT0] at hK ⊢
      go_simp
      exact hK _ _ ⟨_, _, _, by simp only [upd]; exact e4', rfl⟩ (Below.refl _ _)
  obtain ⟨v00, e00, g00, rfl, -⟩ := hall 3 (by simp)
  obtain ⟨v0, e0, d1, d2, d3, rfl, hX0⟩ := hall 5 (by simp)
  obtain ⟨v1, e1, f1, f2, f3, rfl, e1'⟩ := hall 6 (by simp)
  rw [e0] at e1'
  obtain ⟨rfl, rfl, rfl⟩ := tup3_inj e1'
  obtain ⟨v2, e2, f1, f2, f3, e2', rfl⟩ := hall 7 (by simp)
  rw [e0] at e2'
  obtain ⟨rfl, rfl, rfl⟩ := tup3_inj e2'
  obtain ⟨v3, e3, f1, f2, f3, e2', rfl⟩ := hall 8 (by simp)
  rw [e0] at e2'
  obtain ⟨rfl, rfl, rfl⟩ := tup3_inj e2'
  obtain ⟨v4, e4, f1, f2, f3, e2', rfl⟩ := hall 9 (by simp)
  rw [e0] at e2'
  obtain ⟨rfl, rfl, rfl⟩ := tup3_inj e2'
  obtain ⟨v5, e5, ga0, rfl, hga0, -⟩ := hall 10 (by simp)
  obtain ⟨v6, e6, ga1, rfl, hga1, -⟩ := hall 11 (by simp)
  obtain ⟨v7, e7, gb0, f1, f2, f3, e2', e3', -, kb0⟩ := hall 12 (by simp)
  rw [e0] at e2'
  obtain ⟨rfl, rfl, rfl⟩ := tup3_inj e2'
  rw [e5] at e3'
  obtain rfl := ptr_inj e3'
  obtain ⟨v8, e8, gb1, f1, f2, f3, e2', e3', -, kb1⟩ := hall 13 (by simp)
  rw [e0] at e2'
  obtain ⟨rfl, rfl, rfl⟩ := tup3_inj e2'
  rw [e6] at e3'
  obtain rfl := ptr_inj e3'
  obtain ⟨v9, e9, f1, f2, f3, e2', rfl⟩ := hall 14 (by simp)
  rw [e0] at e2'
  obtain ⟨rfl, rfl, rfl⟩ := tup3_inj e2'
  clear hall
  refine wpAnyE_done (by simp only [lstOf, e00, e0, e1, e2, e3, e4, e5, e6, e7, e8, e9, Option.isSome_some, if_true]; kernel_rfl) ?_ _
  simp only [actOf, e00, e0, e1, e2, e3, e4, e5, e6, e7, e8, e9, shT0]
  clear e00 e0 e1 e2 e3 e4 e5 e6 e7 e8 e9
  (try simp only [Act.put, List.setIfInBounds_toArray, List.set_cons_zero, List.set_cons_succ, List.set_nil])
  obtain ⟨A1, cp1, ⟨rfl, rfl, rfl⟩, hM⟩ := hX0
  replace kL := kL.keep hT
  replace hb := below_tr hb hT
  clear hT
  generalize ga0 = bo0 at *
  generalize ga1 = bm0 at *
  have ko0 := kb0
  have km0 := kb1
  clear kb0 kb1
  go_upto_region 3 with fail
  go_wp2_with (first
    | (refine wpList_load_row rfl 31 (.tmp 1) rfl bL rfl 31 (lyC l) (0, 0) _ kL Try.underlying31 rfl (by kernel_rfl) ?_)
    | (refine wpList_load_row rfl 37 (.tmp 3) rfl bm0 rfl 37 #[.slice A1 44 cp1] (0, 0) _ km0 Try.underlying37 rfl (by kernel_rfl) ?_))
  (with_reducible refine (alone_n _ HLY.out (Or.inl rfl) rfl HR1.out.1 (by omega) HR1.out.2.2 (by omega) hM HR1.out.2.1).mono ?_)
  rintro e v1 ⟨c1, c2, v3, rfl, ⟨A2, cp2, ⟨rfl, rfl, rfl⟩, hM2⟩, hb1⟩
  clear hM
  have hM := hM2
  clear hM2
  have n1 := (Bk.made v1 50 outZ).alloc (.cells #[.slice none 0 0] 37)
  have n2 := Bk.new (v1.alloc (.cells outZ 50)) (g := v1.heap.size + 1) (by simp) 37 #[.slice none 0 0]
  have n3 : Bk (((v1.alloc (.cells outZ 50)).alloc (.cells #[.slice none 0 0] 37)).setRow v1.heap.size (outC 0 true 0 4)) (v1.heap.size + 1) 37 #[.slice none 0 0] := (setRow_other _ _ _ _ (by omega)).trans n2
  have f1 : Bk ((((v1.alloc (.cells outZ 50)).alloc (.cells #[.slice none 0 0] 37)).setRow v1.heap.size (outC 0 true 0 4)).setRow (v1.heap.size + 1) #[.slice A2 44 cp2]) v1.heap.size 50 (outC 0 true 0 4) := (setRow_other _ _ _ _ (by omega)).trans (setRow_heap _ _ outZ (outC 0 true 0 4) 50 (0, 0) n1)
  have f2 : Bk ((((v1.alloc (.cells outZ 50)).alloc (.cells #[.slice none 0 0] 37)).setRow v1.heap.size (outC 0 true 0 4)).setRow (v1.heap.size + 1) #[.slice A2 44 cp2]) (v1.heap.size + 1) 37 #[.slice A2 44 cp2] := setRow_heap _ _ #[.slice none 0 0] #[.slice A2 44 cp2] 37 (0, 0) n3
  have hbb : Below v1.heap.size v1 ((((v1.alloc (.cells outZ 50)).alloc (.cells #[.slice none 0 0] 37)).setRow v1.heap.size (outC 0 true 0 4)).setRow (v1.heap.size + 1) #[.slice A2 44 cp2]) := (((below_al (below_al (Below.refl _ _) _) _).trans (below_setRow0 (Nat.le_refl _) _)).trans (below_setRow0 (Nat.le_succ _) _))
  replace kL := (kL.keep hb1).keep hbb
  replace ko0 := (ko0.keep hb1).keep hbb
  replace km0 := (km0.keep hb1).keep hbb
  replace hM := ownI_keep hM hbb
  replace hb := below_tr (below_tr hb hb1) hbb
  have HA := Lib.hid (And.intro f1 (And.intro f2 (And.intro kL (And.intro ko0 (And.intro km0 (And.intro hM hb))))))
  clear f1 f2 kL ko0 km0 hM hb hbb n2 hb1
  go_upto_region 4 with (first
    | (refine wpList_store_rowTo rfl 50 (.tmp 5) (.tmp 37) rfl rfl v1.heap.size (outC 0 true 0 4) rfl rfl 50 outZ n1 (by kernel_rfl) rfl (by simp [Value.oneCell']) ?_)
    | (refine wpList_store_rowTo rfl 37 (.tmp 6) (.tmp 38) rfl rfl (v1.heap.size + 1) #[.slice A2 44 cp2] rfl rfl 37 #[.slice none 0 0] n3 (by kernel_rfl) rfl (by simp [Value.oneCell']) ?_))
  clear n1 n3
  obtain ⟨f1, f2, kL, ko0, km0, hM, hb⟩ := HA.out
  clear HA
  show Code.wp Try.prog _ _ _ ((((v1.alloc (.cells outZ 50)).alloc (.cells #[.slice none 0 0] 37)).setRow v1.heap.size (outC 0 true 0 4)).setRow (v1.heap.size + 1) #[.slice A2 44 cp2])
  generalize ((((v1.alloc (.cells outZ 50)).alloc (.cells #[.slice none 0 0] 37)).setRow v1.heap.size (outC 0 true 0 4)).setRow (v1.heap.size + 1) #[.slice A2 44 cp2]) = wa2 at *
  generalize v1.heap.size = bo1 at *
  obtain ⟨bm1, hbm⟩ : ∃ g, bo1 + 1 = g := ⟨_, rfl⟩
  rw [hbm] at f2 ⊢
  clear hbm
  have ko1 := f1
  have km1 := f2
  clear f1 f2
  go_wp2_with (first
    | (refine wpList_load_row rfl 31 (.tmp 1) rfl bL rfl 31 (lyC l) (0, 0) _ kL Try.underlying31 rfl (by kernel_rfl) ?_)
    | (refine wpList_load_row rfl 37 (.tmp 6) rfl bm1 rfl 37 #[.slice A2 44 cp2] (0, 0) _ km1 Try.underlying37 rfl (by kernel_rfl) ?_))
  (with_reducible refine (alone_n _ HLY.out (Or.inr (Or.inr rfl)) rfl HR2.out.1 (by omega) HR2.out.2.2 (by omega) hM HR2.out.2.1).mono ?_)
  rintro e v2 ⟨c1, c2, v3, rfl, ⟨A3, cp3, ⟨rfl, rfl, rfl⟩, hM2⟩, hb1⟩
  clear hM
  have hM := hM2
  clear hM2
  have n1 := (Bk.made v2 50 outZ).alloc (.cells #[.slice none 0 0] 37)
  have n2 := Bk.new (v2.alloc (.cells outZ 50)) (g := v2.heap.size + 1) (by simp) 37 #[.slice none 0 0]
  have n3 : Bk (((v2.alloc (.cells outZ 50)).alloc (.cells #[.slice none 0 0] 37)).setRow v2.heap.size (outC 7 true 0 4)) (v2.heap.size + 1) 37 #[.slice none 0 0] := (setRow_other _ _ _ _ (by omega)).trans n2
  have f1 : Bk ((((v2.alloc (.cells outZ 50)).alloc (.cells #[.slice none 0 0] 37)).setRow v2.heap.size (outC 7 true 0 4)).setRow (v2.heap.size + 1) #[.slice A3 44 cp3]) v2.heap.size 50 (outC 7 true 0 4) := (setRow_other _ _ _ _ (by omega)).trans (setRow_heap _ _ outZ (outC 7 true 0 4) 50 (0, 0) n1)
  have f2 : Bk ((((v2.alloc (.cells outZ 50)).alloc (.cells #[.slice none 0 0] 37)).setRow v2.heap.size (outC 7 true 0 4)).setRow (v2.heap.size + 1) #[.slice A3 44 cp3]) (v2.heap.size + 1) 37 #[.slice A3 44 cp3] := setRow_heap _ _ #[.slice none 0 0] #[.slice A3 44 cp3] 37 (0, 0) n3
  have hbb : Below v2.heap.size v2 ((((v2.alloc (.cells outZ 50)).alloc (.cells #[.slice none 0 0] 37)).setRow v2.heap.size (outC 7 true 0 4)).setRow (v2.heap.size + 1) #[.slice A3 44 cp3]) := (((below_al (below_al (Below.refl _ _) _) _).trans (below_setRow0 (Nat.le_refl _) _)).trans (below_setRow0 (Nat.le_succ _) _))
  replace kL := (kL.keep hb1).keep hbb
  replace ko0 := (ko0.keep hb1).keep hbb
  replace km0 := (km0.keep hb1).keep hbb
  replace ko1 := (ko1.keep hb1).keep hbb
  replace km1 := (km1.keep hb1).keep hbb
  replace hM := ownI_keep hM hbb
  replace hb := below_tr (below_tr hb hb1) hbb
  have HA := Lib.hid (And.intro f1 (And.intro f2 (And.intro kL (And.intro ko0 (And.intro km0 (And.intro ko1 (And.intro km1 (And.intro hM hb))))))))
  clear f1 f2 kL ko0 km0 ko1 km1 hM hb hbb n2 hb1
  go_upto_region 5 with (first
    | (refine wpList_store_rowTo rfl 50 (.tmp 8) (.tmp 45) rfl rfl v2.heap.size (outC 7 true 0 4) rfl rfl 50 outZ n1 (by kernel_rfl) rfl (by simp [Value.oneCell']) ?_)
    | (refine wpList_store_rowTo rfl 37 (.tmp 9) (.tmp 46) rfl rfl (v2.heap.size + 1) #[.slice A3 44 cp3] rfl rfl 37 #[.slice none 0 0] n3 (by kernel_rfl) rfl (by simp [Value.oneCell']) ?_))
  clear n1 n3
  obtain ⟨f1, f2, kL, ko0, km0, ko1, km1, hM, hb⟩ := HA.out
  clear HA
  show Code.wp Try.prog _ _ _ ((((v2.alloc (.cells outZ 50)).alloc (.cells #[.slice none 0 0] 37)).setRow v2.heap.size (outC 7 true 0 4)).setRow (v2.heap.size + 1) #[.slice A3 44 cp3])
  generalize ((((v2.alloc (.cells outZ 50)).alloc (.cells #[.slice none 0 0] 37)).setRow v2.heap.size (outC 7 true 0 4)).setRow (v2.heap.size + 1) #[.slice A3 44 cp3]) = wa3 at *
  generalize v2.heap.size = bo2 at *
  obtain ⟨bm2, hbm⟩ : ∃ g, bo2 + 1 = g := ⟨_, rfl⟩
  rw [hbm] at f2 ⊢
  clear hbm
  have ko2 := f1
  have km2 := f2
  clear f1 f2
  go_wp2_with (first
    | (refine wpList_load_row rfl 31 (.tmp 1) rfl bL rfl 31 (lyC l) (0, 0) _ kL Try.underlying31 rfl (by kernel_rfl) ?_)
    | (refine wpList_load_row rfl 37 (.tmp 9) rfl bm2 rfl 37 #[.slice A3 44 cp3] (0, 0) _ km2 Try.underlying37 rfl (by kernel_rfl) ?_))
  (with_reducible refine (alone_n _ HLY.out (Or.inr (Or.inl rfl)) rfl HR3.out.1 (by omega) HR3.out.2.2 (by omega) hM HR3.out.2.1).mono ?_)
  rintro e v3 ⟨c1, c2, v3, rfl, ⟨A4, cp4, ⟨rfl, rfl, rfl⟩, hM2⟩, hb1⟩
  clear hM
  have hM := hM2
  clear hM2
  have n1 := (Bk.made v3 50 outZ).alloc (.cells #[.slice none 0 0] 37)
  have n2 := Bk.new (v3.alloc (.cells outZ 50)) (g := v3.heap.size + 1) (by simp) 37 #[.slice none 0 0]
  have n3 : Bk (((v3.alloc (.cells outZ 50)).alloc (.cells #[.slice none 0 0] 37)).setRow v3.heap.size (outC 8 true 0 5)) (v3.heap.size + 1) 37 #[.slice none 0 0] := (setRow_other _ _ _ _ (by omega)).trans n2
  have f1 : Bk ((((v3.alloc (.cells outZ 50)).alloc (.cells #[.slice none 0 0] 37)).setRow v3.heap.size (outC 8 true 0 5)).setRow (v3.heap.size + 1) #[.slice A4 44 cp4]) v3.heap.size 50 (outC 8 true 0 5) := (setRow_other _ _ _ _ (by omega)).trans (setRow_heap _ _ outZ (outC 8 true 0 5) 50 (0, 0) n1)
  have f2 : Bk ((((v3.alloc (.cells outZ 50)).alloc (.cells #[.slice none 0 0] 37)).setRow v3.heap.size (outC 8 true 0 5)).setRow (v3.heap.size + 1) #[.slice A4 44 cp4]) (v3.heap.size + 1) 37 #[.slice A4 44 cp4] := setRow_heap _ _ #[.slice none 0 0] #[.slice A4 44 cp4] 37 (0, 0) n3
  have hbb : Below v3.heap.size v3 ((((v3.alloc (.cells outZ 50)).alloc (.cells #[.slice none 0 0] 37)).setRow v3.heap.size (outC 8 true 0 5)).setRow (v3.heap.size + 1) #[.slice A4 44 cp4]) := (((below_al (below_al (Below.refl _ _) _) _).trans (below_setRow0 (Nat.le_refl _) _)).trans (below_setRow0 (Nat.le_succ _) _))
  replace kL := (kL.keep hb1).keep hbb
  replace ko0 := (ko0.keep hb1).keep hbb
  replace km0 := (km0.keep hb1).keep hbb
  replace ko1 := (ko1.keep hb1).keep hbb
  replace km1 := (km1.keep hb1).keep hbb
  replace ko2 := (ko2.keep hb1).keep hbb
  replace km2 := (km2.keep hb1).keep hbb
  replace hM := ownI_keep hM hbb
  replace hb := below_tr (below_tr hb hb1) hbb
  have HA := Lib.hid (And.intro f1 (And.intro f2 (And.intro kL (And.intro ko0 (And.intro km0 (And.intro ko1 (And.intro km1 (And.intro ko2 (And.intro km2 (And.intro hM hb))))))))))
  clear f1 f2 kL ko0 km0 ko1 km1 ko2 km2 hM hb hbb n2 hb1
  go_upto_region 6 with (first
    | (refine wpList_store_rowTo rfl 50 (.tmp 11) (.tmp 53) rfl rfl v3.heap.size (outC 8 true 0 5) rfl rfl 50 outZ n1 (by kernel_rfl) rfl (by simp [Value.oneCell']) ?_)
    | (refine wpList_store_rowTo rfl 37 (.tmp 12) (.tmp 54) rfl rfl (v3.heap.size + 1) #[.slice A4 44 cp4] rfl rfl 37 #[.slice none 0 0] n3 (by kernel_rfl) rfl (by simp [Value.oneCell']) ?_))
  clear n1 n3
  obtain ⟨f1, f2, kL, ko0, km0, ko1, km1, ko2, km2, hM, hb⟩ := HA.out
  clear HA
  show Code.wp Try.prog _ _ _ ((((v3.alloc (.cells outZ 50)).alloc (.cells #[.slice none 0 0] 37)).setRow v3.heap.size (outC 8 true 0 5)).setRow (v3.heap.size + 1) #[.slice A4 44 cp4])
  generalize ((((v3.alloc (.cells outZ 50)).alloc (.cells #[.slice none 0 0] 37)).setRow v3.heap.size (outC 8 true 0 5)).setRow (v3.heap.size + 1) #[.slice A4 44 cp4]) = wa4 at *
  generalize v3.heap.size = bo3 at *
  obtain ⟨bm3, hbm⟩ : ∃ g, bo3 + 1 = g := ⟨_, rfl⟩
  rw [hbm] at f2 ⊢
  clear hbm
  have ko3 := f1
  have km3 := f2
  clear f1 f2
  go_wp2_with (first
    | (refine wpList_load_row rfl 31 (.tmp 1) rfl bL rfl 31 (lyC l) (0, 0) _ kL Try.underlying31 rfl (by kernel_rfl) ?_)
    | (refine wpList_load_row rfl 37 (.tmp 12) rfl bm3 rfl 37 #[.slice A4 44 cp4] (0, 0) _ km3 Try.underlying37 rfl (by kernel_rfl) ?_))
  (with_reducible refine (alone_n _ HLY.out (Or.inr (Or.inl rfl)) rfl HR4.out.1 (by omega) HR4.out.2.2 (by omega) hM HR4.out.2.1).mono ?_)
  rintro e v4 ⟨c1, c2, v3, rfl, ⟨A5, cp5, ⟨rfl, rfl, rfl⟩, hM2⟩, hb1⟩
  clear hM
  have hM := hM2
  clear hM2
  have n1 := (Bk.made v4 50 outZ).alloc (.cells #[.slice none 0 0] 37)
  have n2 := Bk.new (v4.alloc (.cells outZ 50)) (g := v4.heap.size + 1) (by simp) 37 #[.slice none 0 0]
  have n3 : Bk (((v4.alloc (.cells outZ 50)).alloc (.cells #[.slice none 0 0] 37)).setRow v4.heap.size (outC 0 false 0 2)) (v4.heap.size + 1) 37 #[.slice none 0 0] := (setRow_other _ _ _ _ (by omega)).trans n2
  have f1 : Bk ((((v4.alloc (.cells outZ 50)).alloc (.cells #[.slice none 0 0] 37)).setRow v4.heap.size (outC 0 false 0 2)).setRow (v4.heap.size + 1) #[.slice A5 44 cp5]) v4.heap.size 50 (outC 0 false 0 2) := (setRow_other _ _ _ _ (by omega)).trans (setRow_heap _ _ outZ (outC 0 false 0 2) 50 (0, 0) n1)
  have f2 : Bk ((((v4.alloc (.cells outZ 50)).alloc (.cells #[.slice none 0 0] 37)).setRow v4.heap.size (outC 0 false 0 2)).setRow (v4.heap.size + 1) #[.slice A5 44 cp5]) (v4.heap.size + 1) 37 #[.slice A5 44 cp5] := setRow_heap _ _ #[.slice none 0 0] #[.slice A5 44 cp5] 37 (0, 0) n3
  have hbb : Below v4.heap.size v4 ((((v4.alloc (.cells outZ 50)).alloc (.cells #[.slice none 0 0] 37)).setRow v4.heap.size (outC 0 false 0 2)).setRow (v4.heap.size + 1) #[.slice A5 44 cp5]) := (((below_al (below_al (Below.refl _ _) _) _).trans (below_setRow0 (Nat.le_refl _) _)).trans (below_setRow0 (Nat.le_succ _) _))
  replace kL := (kL.keep hb1).keep hbb
  replace ko0 := (ko0.keep hb1).keep hbb
  replace km0 := (km0.keep hb1).keep hbb
  replace ko1 := (ko1.keep hb1).keep hbb
  replace km1 := (km1.keep hb1).keep hbb
  replace ko2 := (ko2.keep hb1).keep hbb
  replace km2 := (km2.keep hb1).keep hbb
  replace ko3 := (ko3.keep hb1).keep hbb
  replace km3 := (km3.keep hb1).keep hbb
  replace hM := ownI_keep hM hbb
  replace hb := below_tr (below_tr hb hb1) hbb
  have HA := Lib.hid (And.intro f1 (And.intro f2 (And.intro kL (And.intro ko0 (And.intro km0 (And.intro ko1 (And.intro km1 (And.intro ko2 (And.intro km2 (And.intro ko3 (And.intro km3 (And.intro hM hb))))))))))))
  clear f1 f2 kL ko0 km0 ko1 km1 ko2 km2 ko3 km3 hM hb hbb n2 hb1
  go_upto_region 7 with (first
    | (refine wpList_store_rowTo rfl 50 (.tmp 14) (.tmp 61) rfl rfl v4.heap.size (outC 0 false 0 2) rfl rfl 50 outZ n1 (by kernel_rfl) rfl (by simp [Value.oneCell']) ?_)
    | (refine wpList_store_rowTo rfl 37 (.tmp 15) (.tmp 62) rfl rfl (v4.heap.size + 1) #[.slice A5 44 cp5] rfl rfl 37 #[.slice none 0 0] n3 (by kernel_rfl) rfl (by simp [Value.oneCell']) ?_))
  clear n1 n3
  obtain ⟨f1, f2, kL, ko0, km0, ko1, km1, ko2, km2, ko3, km3, hM, hb⟩ := HA.out
  clear HA
  show Code.wp Try.prog _ _ _ ((((v4.alloc (.cells outZ 50)).alloc (.cells #[.slice none 0 0] 37)).setRow v4.heap.size (outC 0 false 0 2)).setRow (v4.heap.size + 1) #[.slice A5 44 cp5])
  generalize ((((v4.alloc (.cells outZ 50)).alloc (.cells #[.slice none 0 0] 37)).setRow v4.heap.size (outC 0 false 0 2)).setRow (v4.heap.size + 1) #[.slice A5 44 cp5]) = wa5 at *
  generalize v4.heap.size = bo4 at *
  obtain ⟨bm4, hbm⟩ : ∃ g, bo4 + 1 = g := ⟨_, rfl⟩
  rw [hbm] at f2 ⊢
  clear hbm
  have ko4 := f1
  have km4 := f2
  clear f1 f2
  go_wp2_with (refine wpList_load_row rfl 31 (.tmp 1) rfl bL rfl 31 (lyC l) (0, 0) _ kL Try.underlying31 rfl (by kernel_rfl) ?_)
  (with_reducible refine (next_bad3 l hseats _).mono ?_)
  rintro e v5 ⟨rfl, hb1⟩
  have n1 := (Bk.made v5 63 accZ).alloc (.cells outZ 50)
  have n2 := Bk.new (v5.alloc (.cells accZ 63)) (g := v5.heap.size + 1) (by simp) 50 outZ
  have n3 : Bk (((v5.alloc (.cells accZ 63)).alloc (.cells outZ 50)).setRow v5.heap.size accZ) (v5.heap.size + 1) 50 outZ := (setRow_other _ _ _ _ (by omega)).trans n2
  have f1 : Bk ((((v5.alloc (.cells accZ 63)).alloc (.cells outZ 50)).setRow v5.heap.size accZ).setRow (v5.heap.size + 1) (outC 0 false 1 (-1))) v5.heap.size 63 accZ := (setRow_other _ _ _ _ (by omega)).trans (setRow_heap _ _ accZ accZ 63 (0, 0) n1)
  have f2 : Bk ((((v5.alloc (.cells accZ 63)).alloc (.cells outZ 50)).setRow v5.heap.size accZ).setRow (v5.heap.size + 1) (outC 0 false 1 (-1))) (v5.heap.size + 1) 50 (outC 0 false 1 (-1)) := setRow_heap _ _ outZ (outC 0 false 1 (-1)) 50 (0, 0) n3
  have hbb : Below v5.heap.size v5 ((((v5.alloc (.cells accZ 63)).alloc (.cells outZ 50)).setRow v5.heap.size accZ).setRow (v5.heap.size + 1) (outC 0 false 1 (-1))) := (((below_al (below_al (Below.refl _ _) _) _).trans (below_setRow0 (Nat.le_refl _) _)).trans (below_setRow0 (Nat.le_succ _) _))
  replace kL := (kL.keep hb1).keep hbb
  replace ko0 := (ko0.keep hb1).keep hbb
  replace km0 := (km0.keep hb1).keep hbb
  replace ko1 := (ko1.keep hb1).keep hbb
  replace km1 := (km1.keep hb1).keep hbb
  replace ko2 := (ko2.keep hb1).keep hbb
  replace km2 := (km2.keep hb1).keep hbb
  replace ko3 := (ko3.keep hb1).keep hbb
  replace km3 := (km3.keep hb1).keep hbb
  replace ko4 := (ko4.keep hb1).keep hbb
  replace km4 := (km4.keep hb1).keep hbb
  replace hb := below_tr (below_tr hb hb1) hbb
  have HA := Lib.hid (And.intro f1 (And.intro f2 (And.intro kL (And.intro ko0 (And.intro km0 (And.intro ko1 (And.intro km1 (And.intro ko2 (And.intro km2 (And.intro ko3 (And.intro km3 (And.intro ko4 (And.intro km4 hb)))))))))))))
  clear f1 f2 kL ko0 km0 ko1 km1 ko2 km2 ko3 km3 ko4 km4 hb hbb n2 hb1
  go_upto_region 8 with (first
    | (refine wpList_store_rowTo rfl 63 (.tmp 17) (.tmp 68) rfl rfl v5.heap.size accZ rfl rfl 63 accZ n1 (by kernel_rfl) rfl (by simp [Value.oneCell']) ?_)
    | (refine wpList_store_rowTo rfl 50 (.tmp 18) (.tmp 69) rfl rfl (v5.heap.size + 1) (outC 0 false 1 (-1)) rfl rfl 50 outZ n3 (by kernel_rfl) rfl (by simp [Value.oneCell']) ?_))
  clear n1 n3
  obtain ⟨f1, f2, kL, ko0, km0, ko1, km1, ko2, km2, ko3, km3, ko4, km4, hb⟩ := HA.out
  clear HA
  show Code.wp Try.prog _ _ _ ((((v5.alloc (.cells accZ 63)).alloc (.cells outZ 50)).setRow v5.heap.size accZ).setRow (v5.heap.size + 1) (outC 0 false 1 (-1)))
  generalize ((((v5.alloc (.cells accZ 63)).alloc (.cells outZ 50)).setRow v5.heap.size accZ).setRow (v5.heap.size + 1) (outC 0 false 1 (-1))) = wa6 at *
  generalize v5.heap.size = bo5 at *
  obtain ⟨bm5, hbm⟩ : ∃ g, bo5 + 1 = g := ⟨_, rfl⟩
  rw [hbm] at f2 ⊢
  clear hbm
  have ko5 := f1
  have km5 := f2
  clear f1 f2
  have c1 := ko0.cell 1
  have c2 := ko1.cell 1
  have c3 := ko2.cell 1
  have c4 := ko2.cell 0
  have c5 := ko3.cell 1
  have c6 := ko3.cell 0
  have c7 := ko4.cell 1
  have c8 := ko4.cell 2
  have c9 := km5.cell 2
  have c10 := km5.cell 3
  have l0 := ko0.lt
  have l1 := ko1.lt
  have l2 := ko2.lt
  have l3 := ko3.lt
  have l4 := ko4.lt
  have l5 := km5.lt
  simp at c1 c2 c3 c4 c5 c6 c7 c8 c9 c10
  clear kL ko0 km0 ko1 km1 ko2 km2 ko3 km3 ko4 km4 ko5 km5 hM
  go_wp2_with fail
  go_ret
  exact ⟨rfl, hb⟩
end Go.Proofs.Ytdjglkpcdhkodaa
