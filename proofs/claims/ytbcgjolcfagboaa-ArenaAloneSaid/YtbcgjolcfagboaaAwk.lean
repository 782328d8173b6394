/- law15.awake. Printed by awk_gen.py. -/
import Derived.Test.YtbcgjolcfagboaaAPlay
import Derived.Test.YtbcgjolcfagboaaList
import Derived.Test.YtbcgjolcfagboaaFew
namespace Go.Proofs.Ytbcgjolcfagboaa
open Go.RowKit
set_option linter.unusedVariables false
attribute [local go_sem ↓] Go.wp_at_zero Go.wp_at_succ

theorem stepsC_length (l : List StepA) : (stepsC l).length = l.length * 17 := by
  induction l with
  | nil => rfl
  | cons a l ih =>
    have : stepsC (a :: l) = (stepC a).toList ++ stepsC l := rfl
    rw [this, List.length_append, ih]
    simp
    omega
theorem stepsC_get : ∀ (l : List StepA) (k : Nat) (s : StepA), l[k]? = some s → ∀ j, j < 17 → (stepsC l)[k * 17 + j]? = (stepC s)[j]?
  | [], k, s, h, j, _ => by simp at h
  | b :: l, 0, s, h, j, hj => by
    simp at h
    subst h
    have : stepsC (b :: l) = (stepC b).toList ++ stepsC l := rfl
    rw [this, Nat.zero_mul, Nat.zero_add, List.getElem?_append_left (by simpa using hj)]
    exact Array.getElem?_toList
  | b :: l, k + 1, s, h, j, hj => by
    simp at h
    have : stepsC (b :: l) = (stepC b).toList ++ stepsC l := rfl
    rw [this, List.getElem?_append_right (by simp; omega)]
    rw [show (k + 1) * 17 + j - (stepC b).toList.length = k * 17 + j from by simp; omega]
    exact stepsC_get l k s h j hj
/-- Steps that are read. -/
def StSl (w : World) (B : Nat) (A : Option Addr) (l : List StepA) : Prop := 0 < l.length → ∃ b, A = some ⟨b, 0, none⟩ ∧ b < B ∧ ∀ k s, l[k]? = some s → ∀ j, j < 17 → w.cell? ⟨b, k * 17 + j, none⟩ = (stepC s)[j]?
theorem StSl.below {w w' : World} {B : Nat} {A : Option Addr} {l : List StepA} (h : StSl w B A l) (hb : Below B w w') : StSl w' B A l := by
  intro hl
  obtain ⟨b, e, h1, h2⟩ := h hl
  exact ⟨b, e, h1, fun k s hk j hj => (hb.cell (p := ⟨b, _, none⟩) h1).trans (h2 k s hk j hj)⟩
theorem StSl.of_own {w : World} {base n cap : Nat} {A : Option Addr} {l : List StepA} (h : w.ownsRow base 49 17 (.slice A n cap) n (stepsC l)) (hn : l.length = n) : StSl w w.heap.size A l := by
  intro hl
  obtain ⟨g, cap', hA, hA1, hA2⟩ := World.ownsRow.form h (by omega)
  injection hA with hA _ _
  subst hA
  refine ⟨g, rfl, (World.ownsRow.lt h g rfl).2, fun k s hk j hj => ?_⟩
  have hkl := (List.getElem?_eq_some_iff.1 hk).1
  rw [World.ownsRow.cellAt h (k * 17 + j) (by omega)]
  exact stepsC_get l k s hk j hj
/-- What the table's parts read, of a seat that has. -/
theorem own_slInt {w : World} {base n cap : Nat} {G : Option Addr} {zs : List Int} (h : OwnInts w base (.slice G n cap) zs) (hn : zs.length = n) : SlInt w w.heap.size G zs := by
  intro hl
  subst hn
  unfold OwnInts at h
  obtain ⟨g, cap', hA, hA1, hA2⟩ := World.ownsRow.form h hl
  injection hA with hA _ _
  subst hA
  refine ⟨g, 0, rfl, (World.ownsRow.lt h g rfl).2, fun k z hk => ?_⟩
  have hkl := (List.getElem?_eq_some_iff.1 hk).1
  rw [Nat.zero_add, World.ownsRow.cellAt h k (by omega)]
  simp [ints, hk]
def awF : Int × Int → StepA → Int × Int := fun a s => if s.done then (10 * a.1 + s.val, a.2) else (a.1, a.2 + 1)
def awR : TabA × List StepA := endA (playL 1 2) 1 [[0, 0, 2, 0]] []
theorem aw_fold : awR.2.foldl awF (0, 0) = (1201, 18) := by decide +kernel
theorem aw_small : ((List.range 30).all fun k => decide (0 ≤ ((awR.2.take k).foldl awF (0, 0)).1 ∧ ((awR.2.take k).foldl awF (0, 0)).1 ≤ 1000000 ∧ 0 ≤ ((awR.2.take k).foldl awF (0, 0)).2 ∧ ((awR.2.take k).foldl awF (0, 0)).2 ≤ 1000000)) = true := by decide +kernel
theorem aw_len : awR.2.length = 22 := by decide +kernel
theorem aw_vals : (awR.2.all fun s => decide (0 ≤ s.val ∧ s.val ≤ 10)) = true := by decide +kernel
theorem aw_has : awR.1.seats.map (·.has) = [[2, 1]] := by decide +kernel
theorem aw_list : (idxOf (freeOf (playL 1 2) awR.1.m) = 3 ∧ linkOf (playL 1 2) awR.1.m 3 = 0 ∧ awR.1.m.length = (playL 1 2).size.toNat) ∧ (0 ≤ (playL 1 2).free ∧ (playL 1 2).free < awR.1.m.length) ∧ (playL 1 2).c.nodes = 3 ∧ ([1, 2, 3].all fun a => decide (0 ≤ nodeAt (playL 1 2) a 7 ∧ nodeAt (playL 1 2) a 7 < awR.1.m.length)) = true := by decide +kernel
theorem ints_n (A A' : Option Addr) (c c' n n' : Nat) (xs ys : List Int) (w : World) (hn : xs.length = n) (hn' : ys.length = n') (h : SlInt w w.heap.size A xs) (h' : SlInt w w.heap.size A' ys) (hm : n ≤ 1000000) (hm' : n' ≤ 1000000) :
    Calls Try.prog 16 #[.slice A n c, .slice A' n' c'] w (BoolBelow (decide (xs = ys)) w) := by
  subst hn hn'
  exact ints_any A A' c c' xs ys w h h' hm hm'
theorem chain_one {k : Int → Int} {a : Int} (h : k a = 0) : Chain k [a] := ⟨h, trivial⟩
def awT : Nat → Nat | 25 => 60 | 26 => 61 | 27 => 62 | 32 => 67 | 33 => 68 | _ => 69
def awP : Nat → List Nat | 26 => [25] | 27 => [26] | 32 => [27] | 34 => [32, 33] | _ => []
def awD (l : Ly) (i : Nat) (val : Nat → Option Value) (v : Value) (w : World) : Prop :=
  match i with
  | 25 => ∃ g, v = .slice (some ⟨g, 0, none⟩) 1 1 ∧ Bk w g 23 #[.slice none 0 0]
  | 26 => ∃ g, v = .agg (playC 2 (some ⟨g, 0, none⟩) 1 1 none 0 0)
  | 27 => v = lyV l
  | 32 => ∃ B d, v = .slice B 1 d ∧ SlInt w w.heap.size B [3]
  | 33 => ∃ g, v = .slice (some ⟨g, 0, none⟩) 1 1 ∧ Bk w g 3 #[.int .i64 3]
  | 34 => v = .bool true
  | _ => True
theorem awD_keep (l : Ly) (i : Nat) (val val' : Nat → Option Value) (v : Value) (w1 w2 : World) (hv : ∀ j u, val j = some u → val' j = some u) (hb : Below w1.heap.size w1 w2) (h : awD l i val v w1) : awD l i val' v w2 := by
  unfold awD at *
  split
  · obtain ⟨g, h1, h2⟩ := h; exact ⟨g, h1, h2.keep hb⟩
  · exact h
  · exact h
  · obtain ⟨B, d, h1, h2⟩ := h; exact ⟨B, d, h1, (h2.below hb).more hb.size⟩
  · obtain ⟨g, h1, h2⟩ := h; exact ⟨g, h1, h2.keep hb⟩
  · exact h
  · trivial
def AwRel (w : World) (n : Nat) (l : List StepA) (v3 v4 v5 : Value) (wr : World) : Prop :=
  ∃ k : Nat, k ≤ n ∧ v5 = .int .i64 k ∧ v3 = .int .i64 ((l.take k).foldl awF (0, 0)).1 ∧ v4 = .int .i64 ((l.take k).foldl awF (0, 0)).2 ∧ wr = w
set_option maxRecDepth 1000000 in
set_option maxHeartbeats 16000000 in
theorem awake_any (w : World) : Calls Try.prog 7 #[] w (BoolBelow true w) := by
  go_enter Try.func7, Try.ntmps7
  go_wp2_with fail
  have k1 := (Bk.made w 5 #[.int .u8 0, .int .u8 0, .int .u8 2, .int .u8 0]).alloc (.cells #[.slice (some ⟨w.heap.size, 0, none⟩) 4 4] 23)
  have k2 := Bk.new (w.alloc (.cells #[.int .u8 0, .int .u8 0, .int .u8 2, .int .u8 0] 5)) (g := w.heap.size + 1) (by simp) 23 #[.slice (some ⟨w.heap.size, 0, none⟩) 4 4]
  have hbl := below_al (below_al (Below.refl w.heap.size w) (.cells #[.int .u8 0, .int .u8 0, .int .u8 2, .int .u8 0] 5)) (.cells #[.slice (some ⟨w.heap.size, 0, none⟩) 4 4] 23)
  generalize (w.alloc (.cells #[.int .u8 0, .int .u8 0, .int .u8 2, .int .u8 0] 5)).alloc (.cells #[.slice (some ⟨w.heap.size, 0, none⟩) 4 4] 23) = w1 at *
  have hW : SlU8s w1 w1.heap.size (some ⟨w.heap.size + 1, 0, none⟩) [[0, 0, 2, 0]] := by
    intro _
    refine ⟨_, 0, rfl, k2.lt, fun k xs hk => ?_⟩
    have hk0 : k = 0 := by have := (List.getElem?_eq_some_iff.1 hk).1; simp at this; omega
    subst hk0
    simp at hk
    subst hk
    refine ⟨_, 4, by rw [k2.cell]; rfl, fun _ => ⟨_, 0, rfl, k1.lt, fun j t hj => ?_⟩⟩
    have hj4 : j = 0 ∨ j = 1 ∨ j = 2 ∨ j = 3 := by have := (List.getElem?_eq_some_iff.1 hj).1; simp at this; omega
    rcases hj4 with rfl | rfl | rfl | rfl <;> (simp at hj; subst hj; exact ⟨by rw [k1.cell]; rfl, by omega⟩)
  (with_reducible refine (played_any 2 (some ⟨w.heap.size + 1, 0, none⟩) 1 1 none 0 0 [[0, 0, 2, 0]] [] _ (by omega) (by omega) (by omega) (by omega) rfl rfl (by omega) hW (by unfold SlU8; intro h; simp at h)).mono ?_)
  rintro e w2 ⟨A, cap, gt, go, gl, gn, gh, rfl, hst, hT, hb⟩
  rw [show endA (playL 1 2) 1 [[0, 0, 2, 0]] [] = awR from rfl] at *
  have hbl2 := below_tr hbl hb
  have hs := StSl.of_own hst rfl
  clear k1 k2 hbl hW hb hst
  have h1 := aw_fold
  have h2 := aw_small
  have h3 := aw_len
  have h4 := aw_vals
  have h5 := aw_has
  have h6 := aw_list
  generalize awR = R at *
  obtain ⟨gm, cm, a1, a2, -⟩ := hT.tab
  obtain ⟨c4, f1, f2, f3⟩ := hT.hass
  have hns := hT.ns
  obtain ⟨s0, hs0⟩ : ∃ s0, R.1.seats[0]? = some s0 := ⟨_, List.getElem?_eq_getElem (by omega)⟩
  have hh0 : s0.has = [2, 1] := by
    have : (R.1.seats.map (·.has))[0]? = some s0.has := by rw [List.getElem?_map, hs0]; rfl
    rw [h5] at this
    simpa using this.symm
  obtain ⟨GH, cH, e1, e2, -⟩ := f3 0 s0 hs0
  rw [hh0] at e1 e2
  obtain ⟨l, hl⟩ : ∃ l, R.2 = l := ⟨_, rfl⟩
  obtain ⟨m, hm⟩ : ∃ m, R.1.m = m := ⟨_, rfl⟩
  rw [hl] at h1 h2 h3 h4 hs
  rw [hm] at h6 a1 a2
  rw [hl, h3]
  have H12 := Lib.hid (And.intro h1 (And.intro h2 (And.intro h3 h4)))
  have H6 := Lib.hid h6
  have HA := Lib.hid a2
  have HE := Lib.hid e2
  have HS := Lib.hid hs
  have HB := Lib.hid hbl2
  have kT := a1
  have q9 := (f1.cell 0).trans e1
  have z9 := f1.lt
  clear h1 h2 h3 h4 h5 h6 hs0 hh0 hns hl hm hT f2 f3 e1 e2 a1 a2 hs hbl2 f1
  go_wp2_with fail
  go_loopw [3, 4, 5] (fun v3 v4 v5 wr => AwRel w2 22 l v3 v4 v5 wr) (fun _ _ v5 _ => 22 - (intOf v5).toNat)
  case atStart => exact ⟨0, Nat.zero_le _, rfl, rfl, rfl, rfl⟩
  case round =>
    obtain ⟨k, hk, rfl, rfl, rfl, rfl⟩ := hrel
    by_cases hlt : k < 22
    · obtain ⟨x, hx⟩ : ∃ x, l[k]? = some x := ⟨_, List.getElem?_eq_getElem (by rw [H12.out.2.2.1]; exact hlt)⟩
      obtain ⟨b, rfl, hb, hc⟩ := HS.out (by rw [H12.out.2.2.1]; omega)
      have cl := hc k x hx
      have d0 := cl 11 (by omega)
      have d1 := cl 12 (by omega)
      simp at d0 d1
      have hv := List.all_eq_true.1 H12.out.2.2.2 x (List.mem_of_getElem? hx)
      have hsm := List.all_eq_true.1 H12.out.2.1 k (List.mem_range.2 (by omega))
      simp only [decide_eq_true_eq] at hv hsm
      have htk : (l.take (k + 1)).foldl awF (0, 0) = awF ((l.take k).foldl awF (0, 0)) x := by rw [List.take_add_one, hx]; simp
      generalize (l.take k).foldl awF (0, 0) = ac at *
      obtain ⟨ac1, ac2⟩ := ac
      dsimp only at hsm ⊢
      have HTK := Lib.hid htk
      clear cl hc hx htk
      obtain ⟨who, op, acc, res, done, val, is, err, point⟩ := x
      dsimp only at d0 d1 hv
      have i1 : (k : Int) < 22 := by omega
      cases done with
      | false =>
        go_wp2_with fail
        refine ⟨⟨k + 1, by omega, by go_num, ?_, ?_, rfl⟩, by simp [intOf]; omega⟩
        · rw [HTK.out]; rfl
        · rw [HTK.out]; rfl
      | true =>
        go_wp2_with fail
        refine ⟨⟨k + 1, by omega, by go_num, ?_, ?_, rfl⟩, by simp [intOf]; omega⟩
        · rw [HTK.out]; rfl
        · rw [HTK.out]; rfl
    · have hk22 : k = 22 := by omega
      subst hk22
      rw [List.take_of_length_le (by rw [H12.out.2.2.1]; exact Nat.le_refl _), H12.out.1]
      dsimp only
      go_upto_region 10 with fail
      refine wp_region_E (S := fun w' => Below wr.drew.heap.size wr.drew w') (E := fun _ => false) (by kernel_rfl) ?_
      replace kT := kT.drew
      have q8 : wr.drew.cell? ⟨gh, 0, none⟩ = some (.slice GH 2 cH) := q9
      have HB' : Hid (Below w.heap.size w wr.drew) := Lib.hid HB.out.drew
      have HA' : Hid (OwnInts wr.drew 0 (.slice (some ⟨gm, 0, none⟩) m.length cm) m) := Lib.hid HA.out
      have HE' : Hid (OwnInts wr.drew 0 (.slice GH 2 cH) [2, 1]) := Lib.hid HE.out
      obtain ⟨M, hM⟩ : ∃ M, m.length = M := ⟨_, rfl⟩
      rw [hM] at kT HA'
      have HM := Lib.hid hM
      clear hM q9 z9 HA HE HB HS hlt hk H12
      generalize wr.drew = w3 at *
      obtain ⟨ll, hll⟩ : ∃ ll, playL 1 2 = ll := ⟨_, rfl⟩
      rw [hll] at H6
      have HLL := Lib.hid hll
      clear hll
      refine wpAnyE_take (i := 0) (oi := _) (v := .int .i64 1201) rfl (by kernel_rfl) (by kernel_rfl) (by kernel_rfl) (by kernel_rfl) (fun _ _ _ h => h) (Or.inl ⟨by rfl, ?_⟩) (Below.refl _ _) ?_
      · intro w' hSw
        (try simp only [List.getElem_toArray, List.getElem_cons_zero])
        go_simp
      (try simp only [List.getElem_toArray, List.getElem_cons_zero, Act.put, List.setIfInBounds_toArray, List.set_cons_zero, List.set_cons_succ])
      refine wpAnyE_take (i := 1) (oi := _) (v := .bool true) rfl (by kernel_rfl) (by kernel_rfl) (by kernel_rfl) (by kernel_rfl) (fun _ _ _ h => h) (Or.inl ⟨by rfl, ?_⟩) (Below.refl _ _) ?_
      · intro w' hSw
        (try simp only [List.getElem_toArray, List.getElem_cons_succ, List.getElem_cons_zero])
        go_simp
      (try simp only [List.getElem_toArray, List.getElem_cons_succ, List.getElem_cons_zero, Act.put, List.setIfInBounds_toArray, List.set_cons_zero, List.set_cons_succ])
      refine wpAnyE_take (i := 2) (oi := _) (v := .bool true) rfl (by kernel_rfl) (by kernel_rfl) (by kernel_rfl) (by kernel_rfl) (fun _ _ _ h => h) (Or.inl ⟨by rfl, ?_⟩) (Below.refl _ _) ?_
      · intro w' hSw
        (try simp only [List.getElem_toArray, List.getElem_cons_succ, List.getElem_cons_zero])
        go_simp
      (try simp only [List.getElem_toArray, List.getElem_cons_succ, List.getElem_cons_zero, Act.put, List.setIfInBounds_toArray, List.set_cons_zero, List.set_cons_succ])
      refine wpAnyE_take (i := 3) (oi := _) (v := .int .i64 18) rfl (by kernel_rfl) (by kernel_rfl) (by kernel_rfl) (by kernel_rfl) (fun _ _ _ h => h) (Or.inl ⟨by rfl, ?_⟩) (Below.refl _ _) ?_
      · intro w' hSw
        (try simp only [List.getElem_toArray, List.getElem_cons_succ, List.getElem_cons_zero])
        go_simp
      (try simp only [List.getElem_toArray, List.getElem_cons_succ, List.getElem_cons_zero, Act.put, List.setIfInBounds_toArray, List.set_cons_zero, List.set_cons_succ])
      refine wpAnyE_take (i := 4) (oi := _) (v := .bool true) rfl (by kernel_rfl) (by kernel_rfl) (by kernel_rfl) (by kernel_rfl) (fun _ _ _ h => h) (Or.inl ⟨by rfl, ?_⟩) (Below.refl _ _) ?_
      · intro w' hSw
        (try simp only [List.getElem_toArray, List.getElem_cons_succ, List.getElem_cons_zero])
        go_simp
      (try simp only [List.getElem_toArray, List.getElem_cons_succ, List.getElem_cons_zero, Act.put, List.setIfInBounds_toArray, List.set_cons_zero, List.set_cons_succ])
      refine wpAnyE_take (i := 5) (oi := _) (v := .bool true) rfl (by kernel_rfl) (by kernel_rfl) (by kernel_rfl) (by kernel_rfl) (fun _ _ _ h => h) (Or.inl ⟨by rfl, ?_⟩) (Below.refl _ _) ?_
      · intro w' hSw
        (try simp only [List.getElem_toArray, List.getElem_cons_succ, List.getElem_cons_zero])
        go_simp
      (try simp only [List.getElem_toArray, List.getElem_cons_succ, List.getElem_cons_zero, Act.put, List.setIfInBounds_toArray, List.set_cons_zero, List.set_cons_succ])
      refine wpAnyE_take (i := 6) (oi := _) (v := .bool true) rfl (by kernel_rfl) (by kernel_rfl) (by kernel_rfl) (by kernel_rfl) (fun _ _ _ h => h) (Or.inl ⟨by rfl, ?_⟩) (Below.refl _ _) ?_
      · intro w' hSw
        (try simp only [List.getElem_toArray, List.getElem_cons_succ, List.getElem_cons_zero])
        go_simp
      (try simp only [List.getElem_toArray, List.getElem_cons_succ, List.getElem_cons_zero, Act.put, List.setIfInBounds_toArray, List.set_cons_zero, List.set_cons_succ])
      refine wpAnyE_take (i := 7) (oi := _) (v := ptr gt) rfl (by kernel_rfl) (by kernel_rfl) (by kernel_rfl) (by kernel_rfl) (fun _ _ _ h => h) (Or.inl ⟨by rfl, ?_⟩) (Below.refl _ _) ?_
      · intro w' hSw
        (try simp only [List.getElem_toArray, List.getElem_cons_succ, List.getElem_cons_zero])
        go_simp
      (try simp only [List.getElem_toArray, List.getElem_cons_succ, List.getElem_cons_zero, Act.put, List.setIfInBounds_toArray, List.set_cons_zero, List.set_cons_succ])
      refine wpAnyE_take (i := 8) (oi := _) (v := ptr gt) rfl (by kernel_rfl) (by kernel_rfl) (by kernel_rfl) (by kernel_rfl) (fun _ _ _ h => h) (Or.inl ⟨by rfl, ?_⟩) (Below.refl _ _) ?_
      · intro w' hSw
        (try simp only [List.getElem_toArray, List.getElem_cons_succ, List.getElem_cons_zero])
        go_simp
      (try simp only [List.getElem_toArray, List.getElem_cons_succ, List.getElem_cons_zero, Act.put, List.setIfInBounds_toArray, List.set_cons_zero, List.set_cons_succ])
      refine wpAnyE_take (i := 9) (oi := _) (v := .pointer (some ⟨gt, 4, none⟩)) rfl (by kernel_rfl) (by kernel_rfl) (by kernel_rfl) (by kernel_rfl) (fun _ _ _ h => h) (Or.inl ⟨by rfl, ?_⟩) (Below.refl _ _) ?_
      · intro w' hSw
        (try simp only [List.getElem_toArray, List.getElem_cons_succ, List.getElem_cons_zero])
        go_simp
      (try simp only [List.getElem_toArray, List.getElem_cons_succ, List.getElem_cons_zero, Act.put, List.setIfInBounds_toArray, List.set_cons_zero, List.set_cons_succ])
      refine wpAnyE_take (i := 10) (oi := _) (v := .slice (some ⟨gh, 0, none⟩) 1 1) rfl (by kernel_rfl) (by kernel_rfl) (by kernel_rfl) (by kernel_rfl) (fun _ _ _ h => h) (Or.inl ⟨by rfl, ?_⟩) (Below.refl _ _) ?_
      · intro w' hSw
        have s1 := (kT.keep hSw).cell 4
        (try simp at s1)
        (try simp only [List.getElem_toArray, List.getElem_cons_succ, List.getElem_cons_zero])
        go_simp
      (try simp only [List.getElem_toArray, List.getElem_cons_succ, List.getElem_cons_zero, Act.put, List.setIfInBounds_toArray, List.set_cons_zero, List.set_cons_succ])
      refine wpAnyE_take (i := 11) (oi := _) (v := .int .i64 1) rfl (by kernel_rfl) (by kernel_rfl) (by kernel_rfl) (by kernel_rfl) (fun _ _ _ h => h) (Or.inl ⟨by rfl, ?_⟩) (Below.refl _ _) ?_
      · intro w' hSw
        (try simp only [List.getElem_toArray, List.getElem_cons_succ, List.getElem_cons_zero])
        go_simp
      (try simp only [List.getElem_toArray, List.getElem_cons_succ, List.getElem_cons_zero, Act.put, List.setIfInBounds_toArray, List.set_cons_zero, List.set_cons_succ])
      refine wpAnyE_take (i := 12) (oi := _) (v := .bool true) rfl (by kernel_rfl) (by kernel_rfl) (by kernel_rfl) (by kernel_rfl) (fun _ _ _ h => h) (Or.inl ⟨by rfl, ?_⟩) (Below.refl _ _) ?_
      · intro w' hSw
        (try simp only [List.getElem_toArray, List.getElem_cons_succ, List.getElem_cons_zero])
        go_simp
      (try simp only [List.getElem_toArray, List.getElem_cons_succ, List.getElem_cons_zero, Act.put, List.setIfInBounds_toArray, List.set_cons_zero, List.set_cons_succ])
      refine wpAnyE_take (i := 13) (oi := _) (v := .bool true) rfl (by kernel_rfl) (by kernel_rfl) (by kernel_rfl) (by kernel_rfl) (fun _ _ _ h => h) (Or.inl ⟨by rfl, ?_⟩) (Below.refl _ _) ?_
      · intro w' hSw
        (try simp only [List.getElem_toArray, List.getElem_cons_succ, List.getElem_cons_zero])
        go_simp
      (try simp only [List.getElem_toArray, List.getElem_cons_succ, List.getElem_cons_zero, Act.put, List.setIfInBounds_toArray, List.set_cons_zero, List.set_cons_succ])
      refine wpAnyE_take (i := 14) (oi := _) (v := .bool true) rfl (by kernel_rfl) (by kernel_rfl) (by kernel_rfl) (by kernel_rfl) (fun _ _ _ h => h) (Or.inl ⟨by rfl, ?_⟩) (Below.refl _ _) ?_
      · intro w' hSw
        (try simp only [List.getElem_toArray, List.getElem_cons_succ, List.getElem_cons_zero])
        go_simp
      (try simp only [List.getElem_toArray, List.getElem_cons_succ, List.getElem_cons_zero, Act.put, List.setIfInBounds_toArray, List.set_cons_zero, List.set_cons_succ])
      refine wpAnyE_take (i := 15) (oi := _) (v := ptr gt) rfl (by kernel_rfl) (by kernel_rfl) (by kernel_rfl) (by kernel_rfl) (fun _ _ _ h => h) (Or.inl ⟨by rfl, ?_⟩) (Below.refl _ _) ?_
      · intro w' hSw
        (try simp only [List.getElem_toArray, List.getElem_cons_succ, List.getElem_cons_zero])
        go_simp
      (try simp only [List.getElem_toArray, List.getElem_cons_succ, List.getElem_cons_zero, Act.put, List.setIfInBounds_toArray, List.set_cons_zero, List.set_cons_succ])
      refine wpAnyE_take (i := 16) (oi := _) (v := ptr gt) rfl (by kernel_rfl) (by kernel_rfl) (by kernel_rfl) (by kernel_rfl) (fun _ _ _ h => h) (Or.inl ⟨by rfl, ?_⟩) (Below.refl _ _) ?_
      · intro w' hSw
        (try simp only [List.getElem_toArray, List.getElem_cons_succ, List.getElem_cons_zero])
        go_simp
      (try simp only [List.getElem_toArray, List.getElem_cons_succ, List.getElem_cons_zero, Act.put, List.setIfInBounds_toArray, List.set_cons_zero, List.set_cons_succ])
      refine wpAnyE_take (i := 17) (oi := _) (v := .pointer (some ⟨gt, 4, none⟩)) rfl (by kernel_rfl) (by kernel_rfl) (by kernel_rfl) (by kernel_rfl) (fun _ _ _ h => h) (Or.inl ⟨by rfl, ?_⟩) (Below.refl _ _) ?_
      · intro w' hSw
        (try simp only [List.getElem_toArray, List.getElem_cons_succ, List.getElem_cons_zero])
        go_simp
      (try simp only [List.getElem_toArray, List.getElem_cons_succ, List.getElem_cons_zero, Act.put, List.setIfInBounds_toArray, List.set_cons_zero, List.set_cons_succ])
      refine wpAnyE_take (i := 18) (oi := _) (v := .slice (some ⟨gh, 0, none⟩) 1 1) rfl (by kernel_rfl) (by kernel_rfl) (by kernel_rfl) (by kernel_rfl) (fun _ _ _ h => h) (Or.inl ⟨by rfl, ?_⟩) (Below.refl _ _) ?_
      · intro w' hSw
        have s1 := (kT.keep hSw).cell 4
        (try simp at s1)
        (try simp only [List.getElem_toArray, List.getElem_cons_succ, List.getElem_cons_zero])
        go_simp
      (try simp only [List.getElem_toArray, List.getElem_cons_succ, List.getElem_cons_zero, Act.put, List.setIfInBounds_toArray, List.set_cons_zero, List.set_cons_succ])
      refine wpAnyE_take (i := 19) (oi := _) (v := .pointer (some ⟨gh, 0, none⟩)) rfl (by kernel_rfl) (by kernel_rfl) (by kernel_rfl) (by kernel_rfl) (fun _ _ _ h => h) (Or.inl ⟨by rfl, ?_⟩) (Below.refl _ _) ?_
      · intro w' hSw
        (try simp only [List.getElem_toArray, List.getElem_cons_succ, List.getElem_cons_zero])
        go_simp
      (try simp only [List.getElem_toArray, List.getElem_cons_succ, List.getElem_cons_zero, Act.put, List.setIfInBounds_toArray, List.set_cons_zero, List.set_cons_succ])
      refine wpAnyE_take (i := 20) (oi := _) (v := .slice GH 2 cH) rfl (by kernel_rfl) (by kernel_rfl) (by kernel_rfl) (by kernel_rfl) (fun _ _ _ h => h) (Or.inl ⟨by rfl, ?_⟩) (Below.refl _ _) ?_
      · intro w' hSw
        have s1 := cell_keep hSw q8
        (try simp at s1)
        (try simp only [List.getElem_toArray, List.getElem_cons_succ, List.getElem_cons_zero])
        go_simp
      (try simp only [List.getElem_toArray, List.getElem_cons_succ, List.getElem_cons_zero, Act.put, List.setIfInBounds_toArray, List.set_cons_zero, List.set_cons_succ])
      have kA := Bk.made w3 3 #[.int .i64 2, .int .i64 1]
      have hb5 := below_al (Below.refl w3.heap.size w3) (.cells #[.int .i64 2, .int .i64 1] 3)
      refine wpAnyE_one (i := 21) (o := _) (by kernel_rfl) rfl (fun K hK => ?_)
      (try simp only [List.getElem_toArray, List.getElem_cons_succ, List.getElem_cons_zero])
      go_simp
      refine hK.out _ _ (fun _ => hb5) ?_
      clear hK K
      (try simp only [List.getElem_toArray, List.getElem_cons_succ, List.getElem_cons_zero, Act.put, List.setIfInBounds_toArray, List.set_cons_zero, List.set_cons_succ])
      have hsl1 := (own_slInt (own_keepb' HE'.out hb5) rfl)
      have hsl2 := SlInt.of_bk (zs := [2, 1]) kA
      generalize w3.alloc (.cells #[.int .i64 2, .int .i64 1] 3) = w5 at *
      refine wpAnyE_one (i := 22) (o := _) (by kernel_rfl) rfl (fun K hK => ?_)
      (try simp only [List.getElem_toArray, List.getElem_cons_succ, List.getElem_cons_zero])
      go_simp
      (with_reducible refine (ints_n GH (some ⟨w3.heap.size, 0, none⟩) cH 2 2 2 [2, 1] [2, 1] _ rfl rfl hsl1 hsl2 (by decide) (by decide)).mono ?_)
      rintro e w6 ⟨rfl, hb6⟩
      rw [show decide (([2, 1] : List Int) = [2, 1]) = true from rfl]
      replace hb6 := below_tr hb5 hb6
      clear hsl1 hsl2 kA hb5
      refine hK.out _ _ (fun _ => hb6) ?_
      clear hK K
      (try simp only [List.getElem_toArray, List.getElem_cons_succ, List.getElem_cons_zero, Act.put, List.setIfInBounds_toArray, List.set_cons_zero, List.set_cons_succ])
      refine wpAnyE_take (i := 23) (oi := _) (v := .bool true) rfl (by kernel_rfl) (by kernel_rfl) (by kernel_rfl) (by kernel_rfl) (fun _ _ _ h => h) (Or.inl ⟨by rfl, ?_⟩) hb6 ?_
      · intro w' hSw
        (try simp only [List.getElem_toArray, List.getElem_cons_succ, List.getElem_cons_zero])
        go_simp
      (try simp only [List.getElem_toArray, List.getElem_cons_succ, List.getElem_cons_zero, Act.put, List.setIfInBounds_toArray, List.set_cons_zero, List.set_cons_succ])
      refine wpAnyE_take (i := 24) (oi := _) (v := .bool true) rfl (by kernel_rfl) (by kernel_rfl) (by kernel_rfl) (by kernel_rfl) (fun _ _ _ h => h) (Or.inl ⟨by rfl, ?_⟩) hb6 ?_
      · intro w' hSw
        (try simp only [List.getElem_toArray, List.getElem_cons_succ, List.getElem_cons_zero])
        go_simp
      (try simp only [List.getElem_toArray, List.getElem_cons_succ, List.getElem_cons_zero, Act.put, List.setIfInBounds_toArray, List.set_cons_zero, List.set_cons_succ])
      refine wpAnyE_take (i := 28) (oi := _) (v := ptr gt) rfl (by kernel_rfl) (by kernel_rfl) (by kernel_rfl) (by kernel_rfl) (fun _ _ _ h => h) (Or.inl ⟨by rfl, ?_⟩) hb6 ?_
      · intro w' hSw
        (try simp only [List.getElem_toArray, List.getElem_cons_succ, List.getElem_cons_zero])
        go_simp
      (try simp only [List.getElem_toArray, List.getElem_cons_succ, List.getElem_cons_zero, Act.put, List.setIfInBounds_toArray, List.set_cons_zero, List.set_cons_succ])
      refine wpAnyE_take (i := 29) (oi := _) (v := ptr gt) rfl (by kernel_rfl) (by kernel_rfl) (by kernel_rfl) (by kernel_rfl) (fun _ _ _ h => h) (Or.inl ⟨by rfl, ?_⟩) hb6 ?_
      · intro w' hSw
        (try simp only [List.getElem_toArray, List.getElem_cons_succ, List.getElem_cons_zero])
        go_simp
      (try simp only [List.getElem_toArray, List.getElem_cons_succ, List.getElem_cons_zero, Act.put, List.setIfInBounds_toArray, List.set_cons_zero, List.set_cons_succ])
      refine wpAnyE_take (i := 30) (oi := _) (v := .pointer (some ⟨gt, 0, none⟩)) rfl (by kernel_rfl) (by kernel_rfl) (by kernel_rfl) (by kernel_rfl) (fun _ _ _ h => h) (Or.inl ⟨by rfl, ?_⟩) hb6 ?_
      · intro w' hSw
        (try simp only [List.getElem_toArray, List.getElem_cons_succ, List.getElem_cons_zero])
        go_simp
      (try simp only [List.getElem_toArray, List.getElem_cons_succ, List.getElem_cons_zero, Act.put, List.setIfInBounds_toArray, List.set_cons_zero, List.set_cons_succ])
      refine wpAnyE_take (i := 31) (oi := _) (v := .agg #[.slice (some ⟨gm, 0, none⟩) M cm]) rfl (by kernel_rfl) (by kernel_rfl) (by kernel_rfl) (by kernel_rfl) (fun _ _ _ h => h) (Or.inl ⟨by rfl, ?_⟩) hb6 ?_
      · intro w' hSw
        have s1 := (kT.keep hSw).cell 0
        (try simp at s1)
        (try simp only [List.getElem_toArray, List.getElem_cons_succ, List.getElem_cons_zero])
        go_simp
      (try simp only [List.getElem_toArray, List.getElem_cons_succ, List.getElem_cons_zero, Act.put, List.setIfInBounds_toArray, List.set_cons_zero, List.set_cons_succ])
      have HB6 := below_tr HB'.out hb6
      have HA6 := Lib.hid (own_slInt (own_keepb' HA'.out hb6) HM.out)
      refine wpAnyE_dagB (U := [25, 26, 27, 32, 33, 34]) (tmp := awT) (pre := awP) (R := awD ll) (by kernel_rfl) (fun _ _ => rfl) (fun w2 h => below_tr hb6 h) (awD_keep ll) (fun i hi => ?_) 2 (fun val w7 hall hb7 => ?_)
      · simp only [List.mem_cons, List.not_mem_nil, or_false] at hi
        rcases hi with rfl | rfl | rfl | rfl | rfl | rfl
        · refine ⟨_, rfl, fun val w2 K hb2 hpre hK => ?_⟩
          simp only [awP, actOf] at hK ⊢
          go_simp
          exact hK _ _ ⟨_, rfl, Bk.made _ _ _⟩ (below_al (Below.refl _ _) _)
        · refine ⟨_, rfl, fun val w2 K hb2 hpre hK => ?_⟩
          obtain ⟨v, e, g, rfl, k⟩ := hpre 25 (by simp [awP])
          simp only [awP, actOf, e, awT] at hK ⊢
          go_simp
          exact hK _ _ ⟨g, rfl⟩ (Below.refl _ _)
        · refine ⟨_, rfl, fun val w2 K hb2 hpre hK => ?_⟩
          obtain ⟨v, e, g, rfl⟩ := hpre 26 (by simp [awP])
          simp only [awP, actOf, e, awT] at hK ⊢
          go_simp
          (with_reducible refine (where_any 2 (some ⟨g, 0, none⟩) 1 1 none 0 0 _ (by omega) (by omega) (by omega) (by omega)).mono ?_)
          rintro e w8 ⟨rfl, hb8⟩
          exact hK _ _ (by rw [HLL.out]; rfl) hb8
        · refine ⟨_, rfl, fun val w2 K hb2 hpre hK => ?_⟩
          obtain ⟨v, e, hv⟩ := hpre 27 (by simp [awP])
          obtain rfl : v = lyV ll := hv
          simp only [awP, actOf, e, awT] at hK ⊢
          go_simp
          have h6 := H6.out
          rw [HM.out] at h6
          have hnn := h6.2.2.1
          have hall := List.all_eq_true.1 h6.2.2.2
          have hF : LyFull ll := by rw [← HLL.out]; exact lyFull_of _ (playCf_can 1 2 (by omega) (by omega))
          have hsl := (HA6.out.below hb2).more hb2.size
          (with_reducible refine (list_any ll (some ⟨gm, 0, none⟩) cm M m [3] _ hF (by omega) hsl HM.out h6.2.1 (fun a ha => ?_) (by rw [h6.1.1, List.headD_cons]) (chain_one h6.1.2.1) (fun a ha => ?_) (by decide) (by decide)).mono ?_)
          · have hc : a = 1 ∨ a = 2 ∨ a = 3 := by omega
            have := hall a (by rcases hc with rfl | rfl | rfl <;> decide)
            simpa using this
          · simp at ha; omega
          · rintro e w8 ⟨B, d, rfl, hown, hb8⟩
            exact hK _ _ ⟨B, d, rfl, own_slInt hown rfl⟩ hb8
        · refine ⟨_, rfl, fun val w2 K hb2 hpre hK => ?_⟩
          simp only [awP, actOf] at hK ⊢
          go_simp
          exact hK _ _ ⟨_, rfl, Bk.made _ _ _⟩ (below_al (Below.refl _ _) _)
        · refine ⟨_, rfl, fun val w2 K hb2 hpre hK => ?_⟩
          obtain ⟨v, e, B, d, rfl, hs1⟩ := hpre 32 (by simp [awP])
          obtain ⟨v', e', g, rfl, k⟩ := hpre 33 (by simp [awP])
          simp only [awP, actOf, e, e', awT] at hK ⊢
          go_simp
          (with_reducible refine (ints_n B (some ⟨g, 0, none⟩) d 1 1 1 [3] [3] _ rfl rfl hs1 (SlInt.of_bk (zs := [3]) k) (by decide) (by decide)).mono ?_)
          rintro e w8 ⟨rfl, hb8⟩
          exact hK _ _ rfl hb8
      obtain ⟨v25, e25, -⟩ := hall 25 (by simp)
      obtain ⟨v26, e26, -⟩ := hall 26 (by simp)
      obtain ⟨v27, e27, -⟩ := hall 27 (by simp)
      obtain ⟨v32, e32, -⟩ := hall 32 (by simp)
      obtain ⟨v33, e33, -⟩ := hall 33 (by simp)
      obtain ⟨v34, e34, h34⟩ := hall 34 (by simp)
      obtain rfl : v34 = .bool true := h34
      clear hall
      simp only [actOf, lstOf, e25, e26, e27, e32, e33, e34, awT, Option.isSome_some, if_true]
      clear e25 e26 e27 e32 e33 e34
      (try simp only [Act.put, List.setIfInBounds_toArray, List.set_cons_zero, List.set_cons_succ])
      have hb9 := below_tr hb6 hb7
      refine wpAnyE_take (i := 35) (oi := _) (v := .bool true) rfl (by kernel_rfl) (by kernel_rfl) (by kernel_rfl) (by kernel_rfl) (fun _ _ _ h => h) (Or.inl ⟨by rfl, ?_⟩) hb9 ?_
      · intro w' hSw
        (try simp only [List.getElem_toArray, List.getElem_cons_succ, List.getElem_cons_zero])
        go_simp
      (try simp only [List.getElem_toArray, List.getElem_cons_succ, List.getElem_cons_zero, Act.put, List.setIfInBounds_toArray, List.set_cons_zero, List.set_cons_succ])
      refine wpAnyE_take (i := 36) (oi := _) (v := .bool true) rfl (by kernel_rfl) (by kernel_rfl) (by kernel_rfl) (by kernel_rfl) (fun _ _ _ h => h) (Or.inl ⟨by rfl, ?_⟩) hb9 ?_
      · intro w' hSw
        (try simp only [List.getElem_toArray, List.getElem_cons_succ, List.getElem_cons_zero])
        go_simp
      (try simp only [List.getElem_toArray, List.getElem_cons_succ, List.getElem_cons_zero, Act.put, List.setIfInBounds_toArray, List.set_cons_zero])
      refine wpAnyE_done (by kernel_rfl) ?_ _
      go_wp2
      go_ret
      exact ⟨rfl, below_tr HB6 hb7⟩
end Go.Proofs.Ytbcgjolcfagboaa
