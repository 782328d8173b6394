/- ring.Moves in one form; where and awake of the ring's statements. -/
import Derived.Test.YtekibkfpamfmoaaRingC
import Derived.Test.YtekibkfpamfmoaaLayC
import Derived.Laws.OwnMore
import Derived.Laws.StructEq
import Derived.Laws.Cover2
import Derived.Deep.AppendLies
namespace Go.Proofs.Ytekibkfpamfmoaa
open Go.RowKit
attribute [local go_sem ↓] Go.wp_at_zero Go.wp_at_succ

theorem wpList_load_rowG {P : Program} {ops : Array Oper} {rest : List Oper} {o : Oper} {a : Act} {w : World} {Q : Exit → Act → World → Prop} (hgd : Region.wanted o (yielded ops a.tmps) = true) (ty : TypeId) (x : Operand) (ho : o.op = .load ty x)
    (g : Nat) (hx : a.eval x = .pointer (some ⟨g, 0, none⟩)) (t : TypeId) (cs : Array Value) (fr : Nat × Nat) (d : TypeDesc) (hg : w.heap[g]? = some (.cells cs t fr))
    (hu : P.underlying ty = some d) (hd : (match d with | .struct _ | .array _ _ => true | _ => false) = true) (hi : (P.info? ty).map (·.size) = some cs.size)
    (h : wpList P ops Q rest (a.put o.dst (.agg cs)) w) : wpList P ops Q (o :: rest) a w := by
  simp only [wpList, hgd, if_true]
  exact .inl (wp_load_row ty x ho g hx t cs fr d hg hu hd hi h)

set_option maxRecDepth 100000 in
set_option maxHeartbeats 4000000 in
theorem moves_any (l : Ly) (s r t b : Int) (w : World) (f : LyFit l) (hb : b ≤ 9223372036854775807) (hr : -9223372036854775808 ≤ r) :
    Calls Try.prog 15 #[lyV l, .int .i64 s, .int .i64 r, .int .i64 t, .int .i64 b] w (MovesPost (movesOf l s r t b) w) := by
  by_cases h1 : ringAt l s r = -1
  · have e : movesOf l s r t b = [] := by unfold movesOf; rw [if_neg (fun h => h.1 h1)]
    rw [e]
    have H1 := Lib.hid h1
    clear h1 e
    go_enter Try.func15, Try.ntmps15
    go_wp2_with (refine wpList_load_row rfl 26 (.tmp 5) rfl w.heap.size rfl 26 (lyC l) (0, 0) _ (Bk.made w _ _) Try.underlying26 rfl (by kernel_rfl) ?_)
    (with_reducible refine (places_no l s r _ f H1.out).mono ?_)
    rintro e w1 ⟨rfl, hb1⟩
    have hbl := below_tr (below_al (Below.refl w.heap.size w) (.cells (lyC l) 26)) hb1
    clear hb1
    go_wp2
    go_ret
    exact movesPost_nil hbl
  · have hof := ringAt_of l s r h1
    have hn := ringsN_in l.c.tasks
    have hr0 : 0 ≤ r ∧ r ≤ 4 := by omega
    by_cases h2 : fitsB r t b = true
    · by_cases h3 : ringAt l s (r + 1) = -1
      · have e : movesOf l s r t b = [] := by unfold movesOf; rw [if_neg (fun h => h.2.2 h3)]
        rw [e]
        have H1 := Lib.hid h1
        have H2 := Lib.hid h2
        have H3 := Lib.hid h3
        clear h1 h2 h3 e hof hn
        go_enter Try.func15, Try.ntmps15
        go_wp2_with (refine wpList_load_row rfl 26 (.tmp 5) rfl w.heap.size rfl 26 (lyC l) (0, 0) _ (Bk.made w _ _) Try.underlying26 rfl (by kernel_rfl) ?_)
        (with_reducible refine (places_ok l s r _ f H1.out).mono ?_)
        rintro e w1 ⟨g, h, rfl, hg, hh, k1, k2, hb1⟩
        have k0 := (Bk.made w 26 (lyC l)).keep hb1
        have hbl := below_tr (below_al (Below.refl w.heap.size w) (.cells (lyC l) 26)) hb1
        clear hb1 k1 k2
        go_wp2_with fail
        (with_reducible refine (fits_any r t b _ (by omega)).mono ?_)
        rintro e w2 ⟨rfl, rfl⟩
        rw [H2.out]
        go_wp2_with (refine wpList_load_row rfl 26 (.tmp 5) rfl w.heap.size rfl 26 (lyC l) (0, 0) _ k0 Try.underlying26 rfl (by kernel_rfl) ?_)
        (with_reducible refine (places_no l s (r + 1) _ f H3.out).mono ?_)
        rintro e w3 ⟨rfl, hb2⟩
        replace hbl := below_tr hbl hb2
        clear hb2 k0
        go_wp2
        go_ret
        exact movesPost_nil hbl
      · have e : movesOf l s r t b = (List.range (b - t).toNat).map (moveAt l s r t) := by unfold movesOf; rw [if_pos ⟨h1, h2, h3⟩]
        rw [e]
        exact moves_go l s r t b w f hb h1 h2 h3
    · have e : movesOf l s r t b = [] := by unfold movesOf; rw [if_neg (fun h => h2 h.2.1)]
      rw [e]
      have h2' : fitsB r t b = false := by simpa using h2
      have H1 := Lib.hid h1
      have H2 := Lib.hid h2'
      clear h1 h2 h2' e hof hn
      go_enter Try.func15, Try.ntmps15
      go_wp2_with (refine wpList_load_row rfl 26 (.tmp 5) rfl w.heap.size rfl 26 (lyC l) (0, 0) _ (Bk.made w _ _) Try.underlying26 rfl (by kernel_rfl) ?_)
      (with_reducible refine (places_ok l s r _ f H1.out).mono ?_)
      rintro e w1 ⟨g, h, rfl, hg, hh, k1, k2, hb1⟩
      have hbl := below_tr (below_al (Below.refl w.heap.size w) (.cells (lyC l) 26)) hb1
      clear hb1 k1 k2
      go_wp2_with fail
      (with_reducible refine (fits_any r t b _ (by omega)).mono ?_)
      rintro e w2 ⟨rfl, rfl⟩
      rw [H2.out]
      go_wp2
      go_ret
      exact movesPost_nil hbl

/-- The conf of so many seats and tasks. -/
abbrev cfOf (a b : Int) : Cf := ⟨a, 0, 1, 1, b, 0, 0, 0, 0⟩
theorem cfOf_can (a b : Int) (h0 : 1 ≤ a) (h1 : a ≤ 8) (h2 : 1 ≤ b) (h3 : b ≤ 64) : (cfOf a b).can := by
  refine ⟨⟨fun j hj => ?_, rfl⟩, by simp [cfOf], by simp [cfOf]⟩
  have hj' : j = 0 ∨ j = 1 ∨ j = 2 ∨ j = 3 ∨ j = 4 ∨ j = 5 ∨ j = 6 ∨ j = 7 := by omega
  rcases hj' with rfl | rfl | rfl | rfl | rfl | rfl | rfl | rfl <;> simp only [Cf.rowOk, cfOf] <;> omega
def whereL (a b : Int) : Ly := lyOf (cfOf a b)
theorem lyFit_of (c : Cf) (h : c.can) : LyFit (lyOf c) := by
  have hl := lyOk_of c h
  have r0 : 1 ≤ c.seats ∧ c.seats ≤ 8 := h.1.1 0 (by omega)
  have r3 : 1 ≤ c.tasks ∧ c.tasks ≤ 64 := h.1.1 3 (by omega)
  have hb := hl.b0
  exact ⟨r3.1, r3.2, by show 0 ≤ c.seats; omega, r0.2, by omega, by omega⟩
theorem whereL_fit (a b : Int) (h0 : 1 ≤ a) (h1 : a ≤ 8) (h2 : 1 ≤ b) (h3 : b ≤ 64) : LyFit (whereL a b) := lyFit_of _ (cfOf_can a b h0 h1 h2 h3)

def LyBelow (l : Ly) (w : World) (e : Ending) (w' : World) : Prop := e = .returned (lyV l) ∧ Below w.heap.size w w'
set_option maxRecDepth 100000 in
set_option maxHeartbeats 4000000 in
theorem where_any (x y : Int) (w : World) (h0 : 0 ≤ x) (h1 : x < 256) (h2 : 0 ≤ y) (h3 : y < 256) : Calls Try.prog 9 #[.int .u8 x, .int .u8 y] w (LyBelow (whereL (1 + x % 3) (1 + y % 64)) w) := by
  have m0 : 0 ≤ x % 3 := Int.emod_nonneg _ (by omega)
  have m1 : x % 3 < 3 := Int.emod_lt_of_pos _ (by omega)
  have m2 : 0 ≤ y % 64 := Int.emod_nonneg _ (by omega)
  have m3 : y % 64 < 64 := Int.emod_lt_of_pos _ (by omega)
  have hc := cfOf_can (1 + x % 3) (1 + y % 64) (by omega) (by omega) (by omega) (by omega)
  have HC := Lib.hid hc
  clear hc
  go_enter Try.func9, Try.ntmps9
  go_wp2_with fail
  (with_reducible refine (of_ok ⟨1 + x % 3, 0, 1, 1, 1 + y % 64, 0, 0, 0, 0⟩ _ HC.out).mono ?_)
  rintro e w1 ⟨rfl, hb1⟩
  have k0 := (Bk.made w 26 (lyC zeroLy)).keep hb1
  have hbl := below_tr (below_al (Below.refl w.heap.size w) (.cells (lyC zeroLy) 26)) hb1
  have hg := k0.lt
  clear hb1
  have hwl : lyOf ⟨1 + x % 3, 0, 1, 1, 1 + y % 64, 0, 0, 0, 0⟩ = whereL (1 + x % 3) (1 + y % 64) := rfl
  rw [hwl]
  clear hwl HC
  generalize whereL (1 + x % 3) (1 + y % 64) = l at *
  have k1 := k0.alloc (.cells (lyC l) 26)
  have hne : ¬ w1.heap.size = w.heap.size := by omega
  go_wp2_with (first
    | (refine wpList_store_new rfl 26 (.tmp 5) (.tmp 18) rfl rfl w1.heap.size _ _ (lyC l) rfl rfl rfl rfl (by kernel_rfl) rfl (by simp [Value.oneCell']) ?_)
    | (refine wpList_load_row rfl 26 (.tmp 5) rfl w1.heap.size rfl 26 (lyC l) (0, 0) _ (Bk.made w1 _ _) Try.underlying26 rfl (by kernel_rfl) ?_)
    | (refine wpList_store_rowTo rfl 26 (.tmp 4) (.tmp 20) rfl rfl w.heap.size (lyC l) rfl rfl 26 (lyC zeroLy) k1 (by kernel_rfl) rfl (by simp [Value.oneCell']) ?_))
  exact bodyPost_ret (v := lyV l) (results_cell_row (p := 4) (ty := 26) rfl _ _ w.heap.size 26 (lyC l) (0, 0) _ rfl (setRow_heap _ _ _ _ _ _ k1) Try.underlying26 rfl (by kernel_rfl)) rfl ⟨rfl, below_setRow (below_al hbl _) (Nat.le_refl _) _⟩

theorem pair_eq (a b c d : Int) (w : World) : (Op.equalIn 10000 47 (.agg #[.int .i64 a, .int .i64 b]) (.agg #[.int .i64 c, .int .i64 d])).run Try.prog w = .ok (a == c && b == d) w := by
  have u3 := Try.underlying3
  have a3 := Try.isAgg3
  have z3 := Try.sizeOf3
  rw [show (10000 : Nat) = 9999 + 1 from rfl, Op.equalIn]
  simp only [Sem.run_bind, run_underlying Try.underlying47, Result.andThen_ok]
  simp only [Std.Legacy.Range.forIn_eq_forIn_range', Std.Legacy.Range.size, Nat.sub_zero, Nat.add_sub_cancel, Nat.div_one, List.range'_succ, List.range'_zero, List.forIn_cons, List.forIn_nil]
  go_simp
  by_cases h1 : a = c <;> by_cases h2 : b = d <;> simp [h1, h2]

theorem awake_vals : movesOf (whereL 1 21) 0 0 3 5 = [(15, 19), (12, 20)] ∧ ringAt (whereL 1 21) 0 0 = 12 ∧ ringAt (whereL 1 21) 0 1 = 16 ∧ placeAt (whereL 1 21) 0 0 5 = 13 ∧ placeAt (whereL 1 21) 0 9 5 = -1 := by decide
set_option maxRecDepth 100000 in
set_option maxHeartbeats 4000000 in
theorem awake_any (w : World) : Calls Try.prog 8 #[] w (BoolBelow true w) := by
  have f := whereL_fit 1 21 (by omega) (by omega) (by omega) (by omega)
  obtain ⟨v1, v2, v3, v4, v5⟩ := awake_vals
  have HV := Lib.hid (And.intro v1 (And.intro v2 (And.intro v3 (And.intro v4 v5))))
  have HF := Lib.hid f
  clear v1 v2 v3 v4 v5 f
  go_enter Try.func8, Try.ntmps8
  go_wp2_with fail
  (with_reducible refine (where_any 0 20 _ (by omega) (by omega) (by omega) (by omega)).mono ?_)
  rintro e w1 ⟨rfl, hbl⟩
  rw [show (1 + (0 : Int) % 3) = 1 from rfl, show (1 + (20 : Int) % 64) = 21 from rfl]
  generalize whereL 1 21 = l at *
  go_wp2_with (first
    | (refine wpList_store_new rfl 26 (.tmp 1) (.tmp 5) rfl rfl w1.heap.size _ _ (lyC l) rfl rfl rfl rfl (by kernel_rfl) rfl (by simp [Value.oneCell']) ?_)
    | (refine wpList_load_row rfl 26 (.tmp 1) rfl w1.heap.size rfl 26 (lyC l) (0, 0) _ (Bk.made w1 _ _) Try.underlying26 rfl (by kernel_rfl) ?_))
  (with_reducible refine (moves_any l 0 0 3 5 _ HF.out (by omega) (by omega)).mono ?_)
  rintro e w2 ⟨A, c, rfl, hown, hb2⟩
  rw [HV.out.1] at hown ⊢
  have k0 := (Bk.made w1 26 (lyC l)).keep hb2
  replace hbl := below_tr (below_al hbl (.cells (lyC l) 26)) hb2
  have hl := hbl.size
  have e0 := k0.lt
  obtain ⟨g, cap, hv, hg1, hg2⟩ := World.ownsRow.form hown (by simp)
  injection hv with hA _ hcap
  subst hA
  have c0 := World.ownsRow.cellAt hown 0 (by simp)
  have c1 := World.ownsRow.cellAt hown 1 (by simp)
  have c2 := World.ownsRow.cellAt hown 2 (by simp)
  have c3 := World.ownsRow.cellAt hown 3 (by simp)
  simp [pairCells] at c0 c1 c2 c3
  clear hb2 hown hcap hl
  go_wp2_with (refine wpList_load_row rfl 26 (.tmp 1) rfl w1.heap.size rfl 26 (lyC l) (0, 0) _ k0 Try.underlying26 rfl (by kernel_rfl) ?_)
  clear e0 hg1
  (with_reducible refine (ring_any l 0 0 _ HF.out).mono ?_)
  rintro e w3 ⟨rfl, hb⟩
  rw [HV.out.2.1]
  replace k0 := k0.keep hb
  replace c0 := (bcellA hb hg2).trans c0
  replace c1 := (bcellA hb hg2).trans c1
  replace c2 := (bcellA hb hg2).trans c2
  replace c3 := (bcellA hb hg2).trans c3
  replace hg2 := Nat.lt_of_lt_of_le hg2 hb.size
  replace hbl := below_tr hbl hb
  clear hb w2
  go_wp2_with (refine wpList_load_row rfl 26 (.tmp 1) rfl w1.heap.size rfl 26 (lyC l) (0, 0) _ k0 Try.underlying26 rfl (by kernel_rfl) ?_)
  (with_reducible refine (ring_any l 0 1 _ HF.out).mono ?_)
  rintro e w4 ⟨rfl, hb⟩
  rw [HV.out.2.2.1]
  replace k0 := k0.keep hb
  replace c0 := (bcellA hb hg2).trans c0
  replace c1 := (bcellA hb hg2).trans c1
  replace c2 := (bcellA hb hg2).trans c2
  replace c3 := (bcellA hb hg2).trans c3
  replace hg2 := Nat.lt_of_lt_of_le hg2 hb.size
  replace hbl := below_tr hbl hb
  clear hb w3
  go_wp2_with fail
  (with_reducible refine (size_any 0 _).mono ?_)
  rintro e w5 ⟨rfl, rfl⟩
  rw [show sizeN 0 = 4 from rfl]
  go_wp2_with fail
  (with_reducible refine (size_any 1 _).mono ?_)
  rintro e w5 ⟨rfl, rfl⟩
  rw [show sizeN 1 = 8 from rfl]
  go_wp2_with fail
  (with_reducible refine (size_any 2 _).mono ?_)
  rintro e w5 ⟨rfl, rfl⟩
  rw [show sizeN 2 = 16 from rfl]
  go_wp2_with (refine wpList_load_rowG (by rfl) 26 (.tmp 1) rfl w1.heap.size rfl 26 (lyC l) (0, 0) _ k0 Try.underlying26 rfl (by kernel_rfl) ?_)
  (with_reducible refine (place_any l 0 0 5 _ HF.out).mono ?_)
  rintro e w6 ⟨rfl, hb⟩
  rw [HV.out.2.2.2.1]
  replace k0 := k0.keep hb
  replace c0 := (bcellA hb hg2).trans c0
  replace c1 := (bcellA hb hg2).trans c1
  replace c2 := (bcellA hb hg2).trans c2
  replace c3 := (bcellA hb hg2).trans c3
  replace hg2 := Nat.lt_of_lt_of_le hg2 hb.size
  replace hbl := below_tr hbl hb
  clear hb
  go_wp2_with (refine wpList_load_rowG (by rfl) 26 (.tmp 1) rfl w1.heap.size rfl 26 (lyC l) (0, 0) _ k0 Try.underlying26 rfl (by kernel_rfl) ?_)
  (with_reducible refine (place_any l 0 9 5 _ HF.out).mono ?_)
  rintro e w7 ⟨rfl, hb⟩
  rw [HV.out.2.2.2.2]
  replace k0 := k0.keep hb
  replace c0 := (bcellA hb hg2).trans c0
  replace c1 := (bcellA hb hg2).trans c1
  replace c2 := (bcellA hb hg2).trans c2
  replace c3 := (bcellA hb hg2).trans c3
  replace hg2 := Nat.lt_of_lt_of_le hg2 hb.size
  replace hbl := below_tr hbl hb
  clear hb
  have pe := pair_eq
  go_wp2
  go_ret
  exact ⟨rfl, hbl⟩
end Go.Proofs.Ytekibkfpamfmoaa
