/- arena.Init, law15.begin. -/
import Derived.Test.YtbcgjolcfagboaaMemN
import Derived.Test.YtbcgjolcfagboaaLayN
import Derived.Test.YtbcgjolcfagboaaTab
import Derived.Test.YtbcgjolcfagboaaDag
namespace Go.Proofs.Ytbcgjolcfagboaa
open Go.RowKit
set_option linter.unusedVariables false
attribute [local go_sem ↓] Go.wp_at_zero Go.wp_at_succ

theorem accCells_append (l m : List Acc) : accCells (l ++ m) = accCells l ++ accCells m := by simp [accCells]
theorem accCells_get : ∀ (l : List Acc) (k : Nat) (a : Acc), l[k]? = some a → (accCells l)[k * 4]? = some (.int .i64 a.kind) ∧ (accCells l)[k * 4 + 1]? = some (.int .i64 a.cell) ∧ (accCells l)[k * 4 + 2]? = some (.int .i64 a.old) ∧ (accCells l)[k * 4 + 3]? = some (.int .i64 a.new)
  | [], k, a, h => by simp at h
  | b :: l, 0, a, h => by simp at h; subst h; simp [accCells]
  | b :: l, k + 1, a, h => by
    simp at h
    have := accCells_get l k a h
    rw [show (k + 1) * 4 = k * 4 + 1 + 1 + 1 + 1 from by omega]
    simpa [accCells] using this
theorem own_slAcc {w : World} {base cap n : Nat} {G : Option Addr} {l : List Acc} (h : w.ownsRow base 41 4 (.slice G n cap) n (accCells l)) (hn : l.length = n) : SlAcc w w.heap.size G l := by
  intro hl
  rcases h.2 with ⟨h1, h2⟩ | ⟨g, cap', cur, h1, _⟩
  · omega
  · injection h1 with h1 _ h3
    subst h1 h3
    have hlt : g < w.heap.size := by
      rcases h.2 with ⟨h2, _⟩ | ⟨g', cap2, cur', h2, _, h4, _⟩
      · cases h2
      · injection h2 with h2 _ _
        injection h2 with h2
        injection h2 with h2
        subst h2
        exact (Array.getElem?_eq_some_iff.1 h4).1
    refine ⟨g, 0, rfl, hlt, fun k a hk => ?_⟩
    have hkl : k < l.length := (List.getElem?_eq_some_iff.1 hk).1
    obtain ⟨h1, h2, h3, h4⟩ := accCells_get l k a hk
    have hc : ∀ (d : Nat) (v : Value), d < 4 → (accCells l)[k * 4 + d]? = some v → w.cell? ⟨g, 0 + k * 4 + d, none⟩ = some v := fun d v hd hv => by
      rw [Nat.zero_add, World.ownsRow.cellAt h (k * 4 + d) (by omega)]
      exact hv
    exact ⟨hc 0 _ (by omega) h1, hc 1 _ (by omega) h2, hc 2 _ (by omega) h3, hc 3 _ (by omega) h4⟩
def linkA (l : Ly) (k : Nat) : Acc := ⟨2, nodeAt l (k + 1) 7, 0, if (k : Int) + 1 = l.c.nodes then 0 else (k : Int) + 2⟩
def linksA (l : Ly) (k : Nat) : List Acc := (List.range k).map (linkA l)
theorem linksA_succ (l : Ly) (k : Nat) : linksA l (k + 1) = linksA l k ++ [linkA l k] := by simp [linksA, List.range_succ]
theorem initA_eq (l : Ly) : initA l = linksA l l.c.nodes.toNat ++ [⟨2, l.free, 0, packI (if 1 ≤ l.c.nodes then 1 else 0) false 0⟩] := rfl
theorem acc_info : (Try.prog.info? 41).map (fun i => (i.zero, i.size, i.bytes)) = some (some (.agg #[.int .i64 0, .int .i64 0, .int .i64 0, .int .i64 0]), 4, 32) := by kernel_rfl
theorem acc_rowT : ∃ i, RowT Try.prog 82 41 i (.agg #[.int .i64 0, .int .i64 0, .int .i64 0, .int .i64 0]) 4 32 := RowT.of Try.underlying82 acc_info rfl (by decide)
theorem acc_news (w : World) (cs : Array Value) : ∀ (j : Nat) (u : Value), cs.toList[j]? = some u → (w.alloc (.cells cs 41)).cell? ((⟨w.heap.size, 0, none⟩ : Addr).add j) = some u := by
  intro j u hu
  rw [Go.WideShapes.add_plain, Nat.zero_add, (Bk.made w 41 cs).cell j]
  simpa using hu
def InitRel (w : World) (l : Ly) (v5 v6 v7 : Value) (wr : World) : Prop :=
  ∃ k : Nat, (k : Int) ≤ l.c.nodes ∧ v7 = .int .i64 (k + 1 : Nat) ∧ v5 = .int .i64 (if k = 0 then 0 else 1) ∧ Below w.heap.size w wr ∧ Bk wr w.heap.size 31 (lyC l) ∧ wr.ownsRow w.heap.size 41 4 v6 k (accCells (linksA l k))
/-- What Init hands back. -/
def AccsPost (as_ : List Acc) (w : World) (e : Ending) (w' : World) : Prop := ∃ A c, e = .returned (.slice A as_.length c) ∧ SlAcc w' w'.heap.size A as_ ∧ Below w.heap.size w w'
set_option maxRecDepth 100000 in
set_option maxHeartbeats 4000000 in
theorem init_any (l : Ly) (w : World) (f : LyFull l) (h1 : 1 ≤ l.c.nodes) (h2 : l.c.nodes ≤ 1000) : Calls Try.prog 29 #[lyV l, .int .i64 1] w (AccsPost (initA l) w) := by
  have k0 := Bk.made w 31 (lyC l)
  have hbl := below_al (Below.refl w.heap.size w) (.cells (lyC l) 31)
  obtain ⟨i0, hi0, hz0, hz1, hz2⟩ := info_parts acc_info
  obtain ⟨inf, hri⟩ := acc_rowT
  go_enter Try.func29, Try.ntmps29
  go_wp2_with fail
  generalize w.alloc (.cells (lyC l) 31) = w1 at *
  go_loopw [5, 6, 7] (fun v5 v6 v7 wr => InitRel w l v5 v6 v7 wr) (fun _ _ v7 _ => (l.c.nodes.toNat + 1) - (intOf v7).toNat)
  case atStart => exact ⟨0, by omega, rfl, rfl, hbl, k0, World.ownsRow_nil _ _ _ _⟩
  case round =>
    obtain ⟨k, hk, rfl, rfl, hb1, k1, hown⟩ := hrel
    obtain ⟨kk, hkk⟩ : ∃ kk : Int, ((k + 1 : Nat) : Int) = kk := ⟨_, rfl⟩
    obtain ⟨z5, hz5⟩ : ∃ z : Int, (if k = 0 then 0 else 1 : Int) = z := ⟨_, rfl⟩
    rw [hkk, hz5]
    have b1 : 1 ≤ kk ∧ kk ≤ 1001 := by omega
    have q1 := k1.cell 1
    simp at q1
    by_cases hlt : kk ≤ l.c.nodes
    · have g1 : decide (kk ≤ l.c.nodes) = true := by simp; omega
      have HO := Lib.hid hown
      have F := Lib.hid f
      have HKK := Lib.hid hkk
      have hk2 : k < 1000 := by omega
      clear hown f hkk hz5
      rcases Classical.em (kk = l.c.nodes) with hq | hq
      · have g2 : (kk == l.c.nodes) = true := by simp; exact hq
        have g3 : decide (kk = l.c.nodes) = true := by simp; exact hq
        have HQ := Lib.hid hq
        clear hq
        go_wp2_with (refine wpList_load_row rfl 31 (.tmp 2) rfl w.heap.size rfl 31 (lyC l) (0, 0) _ k1 Try.underlying31 rfl (by kernel_rfl) ?_)
        (with_reducible refine (node_any l kk 7 _ F.out (by omega)).mono ?_)
        rintro e w2 ⟨rfl, hb2⟩
        obtain ⟨c7, hc7⟩ : ∃ c, nodeAt l kk 7 = c := ⟨_, rfl⟩
        rw [hc7]
        have HC7 := Lib.hid hc7
        clear hc7
        have hb3 := below_tr hb1 hb2
        have k2 := (k1.keep hb2).alloc (.cells #[.int .i64 2, .int .i64 c7, .int .i64 0, .int .i64 0] 41)
        have hown1 := World.ownsRow.alloc (own_keepb HO.out hb2) (.cells #[.int .i64 2, .int .i64 c7, .int .i64 0, .int .i64 0] 41)
        have hb4 := below_al hb3 (.cells #[.int .i64 2, .int .i64 c7, .int .i64 0, .int .i64 0] 41)
        clear hb1 hb2 q1
        go_wp2_with (at_builtin; go_must (refine wpList_append_own_at _ rfl (.tmp 26) (.tmp 32) _ rfl w.heap.size 41 i0 _ 4 32 Try.underlying82 hi0 hz0 hz1 hz2 rfl (by omega) u6 k (accCells (linksA l k)) rfl hown1 ⟨w2.heap.size, 0, none⟩ 1 1 [.int .i64 2, .int .i64 c7, .int .i64 0, .int .i64 0] rfl rfl (acc_news w2 _) (by simp [Value.oneCell']) (by simp only [maxLen]; omega) (by omega) (by simp; have := hb3.size; omega) ?_; intro v9 w5 hrow4 hgrow4 _ _))
        have hkt := keptT_grown hown1 hgrow4
        refine ⟨⟨k + 1, by have := HKK.out; omega, by have := HKK.out; go_num, by simp, below_grow hb4 hown1 hgrow4 hb4.size (Nat.le_refl _), k2.keptT hkt (by decide), ?_⟩, by simp [intOf]; omega⟩
        rw [linksA_succ, accCells_append]
        have e : linkA l k = ⟨2, c7, 0, 0⟩ := by
          have h1 := HKK.out
          have h2 := HQ.out
          have h3 := HC7.out
          have h4 : (k : Int) + 1 = kk := by omega
          unfold linkA
          rw [h4, h3, if_pos h2]
        rw [e]
        exact hrow4
      · have g2 : (kk == l.c.nodes) = false := by simp; exact hq
        have g3 : decide (kk = l.c.nodes) = false := by simp; exact hq
        have HQ := Lib.hid hq
        clear hq
        go_wp2_with (refine wpList_load_row rfl 31 (.tmp 2) rfl w.heap.size rfl 31 (lyC l) (0, 0) _ k1 Try.underlying31 rfl (by kernel_rfl) ?_)
        (with_reducible refine (node_any l kk 7 _ F.out (by omega)).mono ?_)
        rintro e w2 ⟨rfl, hb2⟩
        obtain ⟨c7, hc7⟩ : ∃ c, nodeAt l kk 7 = c := ⟨_, rfl⟩
        rw [hc7]
        have HC7 := Lib.hid hc7
        clear hc7
        have hb3 := below_tr hb1 hb2
        have k2 := (k1.keep hb2).alloc (.cells #[.int .i64 2, .int .i64 c7, .int .i64 0, .int .i64 (kk + 1)] 41)
        have hown1 := World.ownsRow.alloc (own_keepb HO.out hb2) (.cells #[.int .i64 2, .int .i64 c7, .int .i64 0, .int .i64 (kk + 1)] 41)
        have hb4 := below_al hb3 (.cells #[.int .i64 2, .int .i64 c7, .int .i64 0, .int .i64 (kk + 1)] 41)
        clear hb1 hb2 q1
        go_wp2_with (at_builtin; go_must (refine wpList_append_own_at _ rfl (.tmp 26) (.tmp 32) _ rfl w.heap.size 41 i0 _ 4 32 Try.underlying82 hi0 hz0 hz1 hz2 rfl (by omega) u6 k (accCells (linksA l k)) rfl hown1 ⟨w2.heap.size, 0, none⟩ 1 1 [.int .i64 2, .int .i64 c7, .int .i64 0, .int .i64 (kk + 1)] rfl rfl (acc_news w2 _) (by simp [Value.oneCell']) (by simp only [maxLen]; omega) (by omega) (by simp; have := hb3.size; omega) ?_; intro v9 w5 hrow4 hgrow4 _ _))
        have hkt := keptT_grown hown1 hgrow4
        refine ⟨⟨k + 1, by have := HKK.out; omega, by have := HKK.out; go_num, by simp, below_grow hb4 hown1 hgrow4 hb4.size (Nat.le_refl _), k2.keptT hkt (by decide), ?_⟩, by simp [intOf]; omega⟩
        rw [linksA_succ, accCells_append]
        have e : linkA l k = ⟨2, c7, 0, (kk + 1)⟩ := by
          have h1 := HKK.out
          have h2 := HQ.out
          have h3 := HC7.out
          have h4 : (k : Int) + 1 = kk := by omega
          unfold linkA
          rw [h4, h3, if_neg h2]
          congr 1
          omega
        rw [e]
        exact hrow4
    · have g1 : decide (kk ≤ l.c.nodes) = false := by simp; omega
      go_upto_region 12 with fail
      refine wp_region_E (S := fun w' => Bk w' w.heap.size 31 (lyC l)) (E := fun _ => false) (by kernel_rfl) ?_
      replace k1 := k1.drew
      replace hb1 := hb1.drew
      replace hown : wr.drew.ownsRow w.heap.size 41 4 u6 k (accCells (linksA l k)) := hown
      clear q1
      generalize wr.drew = w3 at *
      refine wpAnyE_take (i := 0) (oi := _) (v := u6) rfl (by kernel_rfl) (by kernel_rfl) (by kernel_rfl) (by kernel_rfl) (fun _ _ _ h => h) (Or.inl ⟨by rfl, ?_⟩) k1 ?_
      · intro w' hSw
        (try simp only [List.getElem_toArray, List.getElem_cons_zero])
        go_simp
      (try simp only [List.getElem_toArray, List.getElem_cons_zero, Act.put, List.setIfInBounds_toArray, List.set_cons_zero, List.set_cons_succ])
      refine wpAnyE_take (i := 1) (oi := _) (v := .pointer (some ⟨w.heap.size, 12, none⟩)) rfl (by kernel_rfl) (by kernel_rfl) (by kernel_rfl) (by kernel_rfl) (fun _ _ _ h => h) (Or.inl ⟨by rfl, ?_⟩) k1 ?_
      · intro w' hSw
        (try simp only [List.getElem_toArray, List.getElem_cons_succ, List.getElem_cons_zero])
        go_simp
      (try simp only [List.getElem_toArray, List.getElem_cons_succ, List.getElem_cons_zero, Act.put, List.setIfInBounds_toArray, List.set_cons_zero, List.set_cons_succ])
      refine wpAnyE_take (i := 2) (oi := _) (v := .int .i64 l.free) rfl (by kernel_rfl) (by kernel_rfl) (by kernel_rfl) (by kernel_rfl) (fun _ _ _ h => h) (Or.inl ⟨by rfl, ?_⟩) k1 ?_
      · intro w' hSw
        have s1 := hSw.cell 12
        (try simp at s1)
        (try simp only [List.getElem_toArray, List.getElem_cons_succ, List.getElem_cons_zero])
        go_simp
      (try simp only [List.getElem_toArray, List.getElem_cons_succ, List.getElem_cons_zero, Act.put, List.setIfInBounds_toArray, List.set_cons_zero, List.set_cons_succ])
      refine wpAnyE_take (i := 3) (oi := _) (v := .int .i64 z5) rfl (by kernel_rfl) (by kernel_rfl) (by kernel_rfl) (by kernel_rfl) (fun _ _ _ h => h) (Or.inl ⟨by rfl, ?_⟩) k1 ?_
      · intro w' hSw
        (try simp only [List.getElem_toArray, List.getElem_cons_succ, List.getElem_cons_zero])
        go_simp
      (try simp only [List.getElem_toArray, List.getElem_cons_succ, List.getElem_cons_zero, Act.put, List.setIfInBounds_toArray, List.set_cons_zero, List.set_cons_succ])
      refine wpAnyE_take (i := 4) (oi := _) (v := .agg #[.int .i64 z5, .bool false, .int .i64 0]) rfl (by kernel_rfl) (by kernel_rfl) (by kernel_rfl) (by kernel_rfl) (fun _ _ _ h => h) (Or.inl ⟨by rfl, ?_⟩) k1 ?_
      · intro w' hSw
        (try simp only [List.getElem_toArray, List.getElem_cons_succ, List.getElem_cons_zero])
        go_simp
      (try simp only [List.getElem_toArray, List.getElem_cons_succ, List.getElem_cons_zero, Act.put, List.setIfInBounds_toArray, List.set_cons_zero, List.set_cons_succ])
      refine wpAnyE_one (i := 5) (o := _) (by kernel_rfl) rfl (fun K hK => ?_)
      (try simp only [List.getElem_toArray, List.getElem_cons_succ, List.getElem_cons_zero])
      go_simp
      (with_reducible refine (pack_any z5 false 0 _).mono ?_)
      rintro e w4 ⟨rfl, hb4⟩
      obtain ⟨pk, hpk⟩ : ∃ p, packI z5 false 0 = p := ⟨_, rfl⟩
      rw [hpk]
      refine hK.out _ _ (fun _ => k1.keep hb4) ?_
      clear hK K
      (try simp only [List.getElem_toArray, List.getElem_cons_succ, List.getElem_cons_zero, Act.put, List.setIfInBounds_toArray, List.set_cons_zero, List.set_cons_succ])
      refine wpAnyE_take (i := 6) (oi := _) (v := .agg #[.int .i64 2, .int .i64 l.free, .int .i64 0, .int .i64 pk]) rfl (by kernel_rfl) (by kernel_rfl) (by kernel_rfl) (by kernel_rfl) (fun _ _ _ h => h) (Or.inl ⟨by rfl, ?_⟩) (k1.keep hb4) ?_
      · intro w' hSw
        (try simp only [List.getElem_toArray, List.getElem_cons_succ, List.getElem_cons_zero])
        go_simp
      (try simp only [List.getElem_toArray, List.getElem_cons_succ, List.getElem_cons_zero, Act.put, List.setIfInBounds_toArray, List.set_cons_zero, List.set_cons_succ])
      have ha : Bk (w4.alloc (.cells #[.int .i64 2, .int .i64 l.free, .int .i64 0, .int .i64 pk] 41)) w4.heap.size 41 #[.int .i64 2, .int .i64 l.free, .int .i64 0, .int .i64 pk] := Bk.made _ _ _
      have hown1 := World.ownsRow.alloc (own_keepb hown hb4) (.cells #[.int .i64 2, .int .i64 l.free, .int .i64 0, .int .i64 pk] 41)
      have hb5 := below_al hb4 (.cells #[.int .i64 2, .int .i64 l.free, .int .i64 0, .int .i64 pk] 41)
      have hb6 := below_tr hb1 hb5
      have k5 := (k1.keep hb4).alloc (.cells #[.int .i64 2, .int .i64 l.free, .int .i64 0, .int .i64 pk] 41)
      refine wpAnyE_one (i := 7) (o := _) (by kernel_rfl) rfl (fun K hK => ?_)
      (try simp only [List.getElem_toArray, List.getElem_cons_succ, List.getElem_cons_zero])
      go_simp
      refine hK.out _ _ (fun _ => k5) ?_
      clear hK K
      (try simp only [List.getElem_toArray, List.getElem_cons_succ, List.getElem_cons_zero, Act.put, List.setIfInBounds_toArray, List.set_cons_zero, List.set_cons_succ])
      generalize w4.alloc (.cells #[.int .i64 2, .int .i64 l.free, .int .i64 0, .int .i64 pk] 41) = w5 at *
      generalize w4.heap.size = ga at *
      refine wpAnyE_one (i := 8) (o := _) (by kernel_rfl) rfl (fun K hK => ?_)
      rw [if_pos (by rfl)]
      refine oper_append hri (.tmp 35) (.tmp 42) rfl w.heap.size u6 k (accCells (linksA l k)) rfl hown1 (some ⟨ga, 0, none⟩) 1 1 _ rfl (row_src ha rfl ha.lt) (by simp [Value.oneCell']) (by omega) (by omega) hb6.size (fun v9 w6 hrow hgrow => ?_)
      have hb7 := below_grow hb6 hown1 hgrow hb6.size (Nat.le_refl _)
      have k6 := k5.keptT (keptT_grown hown1 hgrow) (by decide)
      refine hK.out _ _ (fun _ => k6) ?_
      clear hK K
      (try simp only [List.getElem_toArray, List.getElem_cons_succ, List.getElem_cons_zero, Act.put, List.setIfInBounds_toArray, List.set_cons_zero, List.set_cons_succ])
      refine wpAnyE_take (i := 9) (oi := _) (v := v9) rfl (by kernel_rfl) (by kernel_rfl) (by kernel_rfl) (by kernel_rfl) (fun _ _ _ h => h) (Or.inl ⟨by rfl, ?_⟩) k6 ?_
      · intro w' hSw
        go_simp
      refine wpAnyE_done (by kernel_rfl) ?_ _
      (try simp only [List.getElem_toArray, List.getElem_cons_succ, List.getElem_cons_zero, Act.put, List.setIfInBounds_toArray, List.set_cons_zero, List.set_cons_succ])
      obtain ⟨GA, cA, rfl⟩ := own_slice hrow
      have hN : l.c.nodes.toNat = k := by omega
      have hlen : (initA l).length = k + 1 := by rw [initA_eq, hN]; simp [linksA]
      have hsl : SlAcc w6 w6.heap.size GA (initA l) := by
        refine own_slAcc (base := w.heap.size) (cap := cA) (n := k + 1) ?_ hlen
        rw [initA_eq, hN, accCells_append]
        have e : packI (if 1 ≤ l.c.nodes then 1 else 0) false 0 = pk := by
          rw [← hpk, ← hz5, if_pos h1, if_neg (by omega)]
        rw [e]
        exact hrow
      go_wp2
      go_ret
      exact ⟨GA, cA, by rw [hlen]; rfl, hsl, hb7⟩
theorem allErr_of (n : Nat) : ∀ (l : List Acc) (zs : List Int), zs.length = n → (∀ a ∈ l, a.err n = 0) → allErr zs l = 0
  | [], _, _, _ => rfl
  | a :: l, zs, hn, h => by
    have h1 := h a (by simp)
    simp only [allErr, hn, h1, if_true]
    exact allErr_of n l _ (by rw [Acc.make_length]; exact hn) (fun b hb => h b (by simp [hb]))
def beginM (l : Ly) : List Int := allCells (List.replicate l.size.toNat 0) (initA l)
theorem beginM_length (l : Ly) : (beginM l).length = l.size.toNat := by simp [beginM, allCells_length]
def bgT : Nat → Nat | 4 => 11 | 6 => 13 | 7 => 14 | 8 => 6 | 9 => 15 | 10 => 16 | 11 => 17 | 12 => 3 | 14 => 4 | 15 => 5 | _ => 19
def bgP : Nat → List Nat | 7 => [4, 6] | 8 => [7] | 9 => [8] | 10 => [8] | 11 => [8] | 13 => [7, 9, 12] | 14 => [10] | 15 => [11] | _ => []
def bgR (B N : Nat) (l : Ly) (i : Nat) (val : Nat → Option Value) (v : Value) (w : World) : Prop :=
  match i with
  | 4 => val 7 = none → ∃ g, v = memV (some ⟨g, 0, none⟩) N N ∧ OwnInts w 0 (.slice (some ⟨g, 0, none⟩) N N) (List.replicate N 0)
  | 6 => val 7 = none → ∃ A c, v = .slice A (initA l).length c ∧ SlAcc w w.heap.size A (initA l)
  | 7 => ∃ g c r e, v = .tuple #[memV (some ⟨g, 0, none⟩) N c, r, e] ∧ OwnInts w 0 (.slice (some ⟨g, 0, none⟩) N c) (beginM l)
  | 8 => ∃ a b c, v = .tuple #[a, b, c] ∧ val 7 = some v
  | 9 => ∃ b c, val 7 = some (.tuple #[v, b, c])
  | 12 => ∃ g, v = .pointer (some ⟨g, 0, none⟩) ∧ B ≤ g ∧ (val 13 = none → Bk w g 53 #[.slice none 0 0])
  | 13 => ∃ g A c b d, val 12 = some (.pointer (some ⟨g, 0, none⟩)) ∧ val 7 = some (.tuple #[memV A N c, b, d]) ∧ Bk w g 53 #[.slice A N c]
  | _ => True
def bgG (B i : Nat) (w1 w2 : World) : Prop := if i = 13 then KeptT 53 w1 w2 ∧ Below B w1 w2 else Below w1.heap.size w1 w2
theorem bgR_keep (B N : Nat) (l : Ly) (i j : Nat) (hij : i ≠ j) (val : Nat → Option Value) (v u : Value) (w1 w2 : World) (hi : val i = some v) (hj : val j = none) (hp : ∀ p ∈ bgP j, ∃ x, val p = some x) (h : bgR B N l i val v w1) (hg : bgG B j w1 w2) : bgR B N l i (upd val j u) v w2 := by
  have hv : ∀ k x, val k = some x → upd val j u k = some x := fun k x hk => by
    simp only [upd]
    split
    · rename_i e; subst e; rw [hj] at hk; cases hk
    · exact hk
  have hn : ∀ k, upd val j u k = none → val k = none ∧ k ≠ j := fun k hk => by
    simp only [upd] at hk
    split at hk
    · cases hk
    · rename_i e; exact ⟨hk, e⟩
  have hown : ∀ {b sz n : Nat} {v : Value} {xs : List Value} {t : TypeId}, t ≠ 53 → w1.ownsRow b t sz v n xs → w2.ownsRow b t sz v n xs := by
    intro b sz n v xs t ht ho
    unfold bgG at hg
    split at hg
    · exact own_keptT ho hg.1 ht
    · exact own_keepb ho hg
  have hbelow : j ≠ 13 → Below w1.heap.size w1 w2 := fun e => by unfold bgG at hg; rwa [if_neg e] at hg
  have h7 : j = 13 → ∃ x, val 7 = some x := fun e => hp 7 (by rw [e]; simp [bgP])
  have hcase : i = 4 ∨ i = 6 ∨ i = 7 ∨ i = 8 ∨ i = 9 ∨ i = 12 ∨ i = 13 ∨ (i ≠ 4 ∧ i ≠ 6 ∧ i ≠ 7 ∧ i ≠ 8 ∧ i ≠ 9 ∧ i ≠ 12 ∧ i ≠ 13) := by omega
  rcases hcase with rfl | rfl | rfl | rfl | rfl | rfl | rfl | ⟨n1, n2, n3, n4, n5, n6, n7⟩
  · intro hq
    obtain ⟨g, h1, h2⟩ := h (hn 7 hq).1
    exact ⟨g, h1, hown (by decide) h2⟩
  · intro hq
    obtain ⟨A, c, h1, h2⟩ := h (hn 7 hq).1
    refine ⟨A, c, h1, h2.keepb (hbelow fun e => ?_)⟩
    obtain ⟨x, hx⟩ := h7 e
    rw [(hn 7 hq).1] at hx
    cases hx
  · obtain ⟨g, c, r, e, h1, h2⟩ := h
    exact ⟨g, c, r, e, h1, hown (by decide) h2⟩
  · obtain ⟨a, b, c, h1, h2⟩ := h
    exact ⟨a, b, c, h1, hv _ _ h2⟩
  · obtain ⟨b, c, h1⟩ := h
    exact ⟨b, c, hv _ _ h1⟩
  · obtain ⟨g, h1, h2, h3⟩ := h
    exact ⟨g, h1, h2, fun hq => (h3 (hn 13 hq).1).keep (hbelow fun e => (hn 13 hq).2 e.symm)⟩
  · obtain ⟨g, A, c, b, d, h1, h2, h3⟩ := h
    exact ⟨g, A, c, b, d, hv _ _ h1, hv _ _ h2, h3.keep (hbelow fun e => hij e.symm)⟩
  · unfold bgR
    split <;> first | contradiction | trivial
theorem below_trans {B : Nat} {a w w' : World} (h1 : Below B a w) (h2 : Below B w w') : Below B a w' := ⟨h2.os.trans h1.os, h2.tape.trans h1.tape, h2.output.trans h1.output, Nat.le_trans h1.size h2.size, fun b hb => (h2.block b hb).trans (h1.block b hb)⟩
set_option maxRecDepth 100000 in
set_option maxHeartbeats 4000000 in
theorem begin_any (l : Ly) (w : World) (f : LyFull l) (h1 : 1 ≤ l.c.nodes) (h2 : l.c.nodes ≤ 1000) (hs0 : 1 ≤ l.size) (hs1 : l.size ≤ 1000) (hE : allErr (List.replicate l.size.toNat 0) (initA l) = 0) : Calls Try.prog 18 #[lyV l] w (MemIs (beginM l) w) := by
  have F := Lib.hid f
  have HB := Lib.hid hE
  have k0 := (Bk.made w 31 (lyC l)).alloc (.cells #[.slice none 0 0] 53)
  have k1 := Bk.new (w.alloc (.cells (lyC l) 31)) (g := w.heap.size + 1) (by simp) 53 #[.slice none 0 0]
  have hbl := below_al (below_al (Below.refl w.heap.size w) (.cells (lyC l) 31)) (.cells #[.slice none 0 0] 53)
  clear f hE
  go_enter Try.func18, Try.ntmps18
  go_upto_region 1 with fail
  refine wp_region_E (S := fun w' => Below ((w.alloc (.cells (lyC l) 31)).alloc (.cells #[.slice none 0 0] 53)).drew.heap.size ((w.alloc (.cells (lyC l) 31)).alloc (.cells #[.slice none 0 0] 53)).drew w') (E := fun _ => false) (by kernel_rfl) ?_
  replace k0 := k0.drew
  replace k1 := k1.drew
  replace hbl := hbl.drew
  generalize ((w.alloc (.cells (lyC l) 31)).alloc (.cells #[.slice none 0 0] 53)).drew = w1 at *
  obtain ⟨N, hN⟩ : ∃ N : Nat, l.size = N := ⟨l.size.toNat, by omega⟩
  have hN1 : 1 ≤ N ∧ N ≤ 1000 := by omega
  have HN := Lib.hid hN
  have hmin : ∀ (w : World) (ts : Array TypeId) (t : TypeId), (Builtin.min_ ts t #[.int .i64 N, .int .i64 1000]).run Try.prog w = .ok (.int .i64 N) w := fun w ts t => by
    rw [run_min_int2]
    split <;> first | rfl | (congr 2; omega)
  have hmax : ∀ (w : World) (ts : Array TypeId) (t : TypeId), (Builtin.max_ ts t #[.int .i64 0, .int .i64 N]).run Try.prog w = .ok (.int .i64 N) w := fun w ts t => by
    rw [run_max_int2]
    split <;> first | rfl | (congr 2; omega)
  refine wpAnyE_take (i := 0) (oi := _) (v := .pointer (some ⟨w.heap.size, 24, none⟩)) rfl (by kernel_rfl) (by kernel_rfl) (by kernel_rfl) (by kernel_rfl) (fun _ _ _ h => h) (Or.inl ⟨by rfl, ?_⟩) (Below.refl _ _) ?_
  · intro w' hSw
    (try simp only [List.getElem_toArray, List.getElem_cons_zero])
    go_simp
  (try simp only [List.getElem_toArray, List.getElem_cons_zero, Act.put, List.setIfInBounds_toArray, List.set_cons_zero, List.set_cons_succ])
  refine wpAnyE_take (i := 1) (oi := _) (v := .int .i64 N) rfl (by kernel_rfl) (by kernel_rfl) (by kernel_rfl) (by kernel_rfl) (fun _ _ _ h => h) (Or.inl ⟨by rfl, ?_⟩) (Below.refl _ _) ?_
  · intro w' hSw
    have s1 := (k0.keep hSw).cell 24
    (try simp at s1)
    (try simp only [List.getElem_toArray, List.getElem_cons_succ, List.getElem_cons_zero])
    go_simp
  (try simp only [List.getElem_toArray, List.getElem_cons_succ, List.getElem_cons_zero, Act.put, List.setIfInBounds_toArray, List.set_cons_zero, List.set_cons_succ])
  refine wpAnyE_take (i := 2) (oi := _) (v := .int .i64 N) rfl (by kernel_rfl) (by kernel_rfl) (by kernel_rfl) (by kernel_rfl) (fun _ _ _ h => h) (Or.inl ⟨by rfl, ?_⟩) (Below.refl _ _) ?_
  · intro w' hSw
    (try simp only [List.getElem_toArray, List.getElem_cons_succ, List.getElem_cons_zero])
    go_simp
  (try simp only [List.getElem_toArray, List.getElem_cons_succ, List.getElem_cons_zero, Act.put, List.setIfInBounds_toArray, List.set_cons_zero, List.set_cons_succ])
  refine wpAnyE_take (i := 3) (oi := _) (v := .int .i64 N) rfl (by kernel_rfl) (by kernel_rfl) (by kernel_rfl) (by kernel_rfl) (fun _ _ _ h => h) (Or.inl ⟨by rfl, ?_⟩) (Below.refl _ _) ?_
  · intro w' hSw
    (try simp only [List.getElem_toArray, List.getElem_cons_succ, List.getElem_cons_zero])
    go_simp
  (try simp only [List.getElem_toArray, List.getElem_cons_succ, List.getElem_cons_zero, Act.put, List.setIfInBounds_toArray, List.set_cons_zero, List.set_cons_succ])
  refine wpAnyE_take (i := 5) (oi := _) (v := .agg (lyC l)) rfl (by kernel_rfl) (by kernel_rfl) (by kernel_rfl) (by kernel_rfl) (fun _ _ _ h => h) (Or.inl ⟨by rfl, ?_⟩) (Below.refl _ _) ?_
  · intro w' hSw
    (try simp only [List.getElem_toArray, List.getElem_cons_succ, List.getElem_cons_zero])
    simp only [execOp, Instr.loadAt, Instr.sureAddr, Sem.run_bind, Sem.run_pure]
    rw [show (Act.eval _ (Operand.tmp 1)) = Value.pointer (some ⟨w.heap.size, 0, none⟩) from rfl]
    simp only [Sem.run_pure, Result.andThen_ok, run_loadVar_row w' w.heap.size 31 31 (lyC l) (0, 0) _ (k0.keep hSw) Try.underlying31 rfl (by kernel_rfl)]
  (try simp only [List.getElem_toArray, List.getElem_cons_succ, List.getElem_cons_zero, Act.put, List.setIfInBounds_toArray, List.set_cons_zero, List.set_cons_succ])
  clear hmin hmax hs0 hs1
  refine wpAnyE_dag (U := [4, 6, 7, 8, 9, 10, 11, 12, 13, 14, 15]) (tmp := bgT) (pre := bgP) (T := fun w2 => Below w1.heap.size w1 w2) (N := fun _ _ => True) (G := bgG w1.heap.size) (R := bgR w1.heap.size N l) (by kernel_rfl) (fun _ _ => rfl) (fun w2 h => h) (Below.refl _ _) (fun i hi w2 w3 h1 h2 => ?_) (fun _ _ => trivial) (fun _ _ _ _ _ _ _ _ _ _ => trivial)
    (fun i hi j hj hij val v u w2 w3 hT hvi hvj hp hr hg => bgR_keep _ _ _ i j hij val v u w2 w3 hvi hvj hp hr hg) (fun i hi o ho val w2 K hvn hb2 _ hpre hK => ?_) 0 (fun val w2 hall hb2 => ?_)
  · unfold bgG at h2
    split at h2
    · exact below_trans h1 h2.2
    · exact below_tr h1 h2
  · simp only [List.mem_cons, List.not_mem_nil, or_false] at hi
    rcases hi with rfl | rfl | rfl | rfl | rfl | rfl | rfl | rfl | rfl | rfl | rfl
    · obtain rfl := Option.some.inj ho
      simp only [bgP, actOf]
      go_simp
      (with_reducible refine (new_any N _ (by omega)).mono ?_)
      rintro e w3 ⟨g, rfl, hown, hb⟩
      exact hK _ _ (fun _ => ⟨g, rfl, own_lower hown (Nat.zero_le _)⟩) hb
    · obtain rfl := Option.some.inj ho
      simp only [bgP, actOf]
      go_simp
      (with_reducible refine (init_any l _ F.out h1 h2).mono ?_)
      rintro e w3 ⟨A, c, rfl, hsl, hb⟩
      exact hK _ _ (fun _ => ⟨A, c, rfl, hsl⟩) hb
    · obtain rfl := Option.some.inj ho
      obtain ⟨v4, e4, r4⟩ := hpre 4 (by simp [bgP])
      obtain ⟨g, rfl, hown⟩ := r4 hvn
      obtain ⟨v6, e6, r6⟩ := hpre 6 (by simp [bgP])
      obtain ⟨A, c, rfl, hsl⟩ := r6 hvn
      simp only [bgP, actOf, e4, e6, bgT] at hK ⊢
      go_simp
      have hB := HB.out
      rw [HN.out, Int.toNat_natCast] at hB
      have hil : (initA l).length ≤ 1000000 := by rw [initA_eq]; simp [linksA]; omega
      (with_reducible refine (all_n (some ⟨g, 0, none⟩) A 0 N c N (initA l).length (List.replicate N 0) (initA l) _ (by simp) rfl (Nat.zero_le _) (MemAt.of_own hown (by simp) (Nat.zero_le _)) hsl (by omega) hil).mono ?_)
      rintro e w3 ⟨A', c', R, d, rfl, hM, -, hb⟩
      unfold allCellsOut at hM
      rw [if_pos hB] at hM
      have he : (List.replicate N (0 : Int)).length = N := by simp
      have hbm : allCells (List.replicate N 0) (initA l) = beginM l := by rw [beginM, HN.out]; rfl
      rw [hbm, he] at hM
      obtain ⟨g2, rfl, hown2⟩ := memAt_own hM (by omega)
      refine hK _ _ ⟨g2, c', _, _, by rw [he], hown2⟩ hb
    · obtain rfl := Option.some.inj ho
      obtain ⟨v7, e7, g, c, r, e, rfl, hown⟩ := hpre 7 (by simp [bgP])
      simp only [bgP, actOf, e7, bgT] at hK ⊢
      go_simp
      exact hK _ _ ⟨_, _, _, rfl, by simp [upd, e7]⟩ (Below.refl _ _)
    · obtain rfl := Option.some.inj ho
      obtain ⟨v8, e8, a, b, c, rfl, e7⟩ := hpre 8 (by simp [bgP])
      simp only [bgP, actOf, e8, bgT] at hK ⊢
      go_simp
      exact hK _ _ ⟨b, c, by simp [upd, e7]⟩ (Below.refl _ _)
    · obtain rfl := Option.some.inj ho
      obtain ⟨v8, e8, a, b, c, rfl, e7⟩ := hpre 8 (by simp [bgP])
      simp only [bgP, actOf, e8, bgT] at hK ⊢
      go_simp
      exact hK _ _ trivial (Below.refl _ _)
    · obtain rfl := Option.some.inj ho
      obtain ⟨v8, e8, a, b, c, rfl, e7⟩ := hpre 8 (by simp [bgP])
      simp only [bgP, actOf, e8, bgT] at hK ⊢
      go_simp
      exact hK _ _ trivial (Below.refl _ _)
    · obtain rfl := Option.some.inj ho
      simp only [bgP, actOf] at hK ⊢
      go_simp
      exact hK _ _ ⟨_, rfl, hb2.size, fun _ => Bk.made _ _ _⟩ (below_al (Below.refl _ _) _)
    · obtain rfl := Option.some.inj ho
      obtain ⟨v7, e7, g, c, r, e, rfl, hown⟩ := hpre 7 (by simp [bgP])
      obtain ⟨v9, e9, b9, c9, h9⟩ := hpre 9 (by simp [bgP])
      rw [e7] at h9
      injection h9 with h9
      injection h9 with h9
      obtain ⟨rfl, rfl, rfl⟩ : memV (some ⟨g, 0, none⟩) N c = v9 ∧ r = b9 ∧ e = c9 := by simpa using h9
      obtain ⟨v12, e12, ga, rfl, hga, k12⟩ := hpre 12 (by simp [bgP])
      have ka := k12 hvn
      have f0 := ka.free 0
      have l0 := ka.lt
      have q0 := ka.cell 0
      simp at q0
      simp only [bgP, actOf, e7, e9, e12, bgT] at hK ⊢
      go_simp
      refine hK undef _ ⟨ga, some ⟨g, 0, none⟩, c, r, e, by simp [upd, e12], by simp [upd, e7], ka.stored 0 _⟩ ⟨keptT_set ka 0 _, ⟨rfl, rfl, rfl, by simp [World.setCell], fun b hb => Below.heap_setCell w2 ⟨ga, 0, none⟩ _ b (show b ≠ ga by omega)⟩⟩
    · obtain rfl := Option.some.inj ho
      obtain ⟨v10, e10, -⟩ := hpre 10 (by simp [bgP])
      simp only [bgP, actOf, e10, bgT] at hK ⊢
      go_simp
      exact hK _ _ trivial (Below.refl _ _)
    · obtain rfl := Option.some.inj ho
      obtain ⟨v11, e11, -⟩ := hpre 11 (by simp [bgP])
      simp only [bgP, actOf, e11, bgT] at hK ⊢
      go_simp
      exact hK _ _ trivial (Below.refl _ _)
  · obtain ⟨v4, e4, -⟩ := hall 4 (by simp)
    obtain ⟨v6, e6, -⟩ := hall 6 (by simp)
    obtain ⟨v7, e7, g, c, r, e, rfl, hown⟩ := hall 7 (by simp)
    obtain ⟨v8, e8, -⟩ := hall 8 (by simp)
    obtain ⟨v9, e9, -⟩ := hall 9 (by simp)
    obtain ⟨v10, e10, -⟩ := hall 10 (by simp)
    obtain ⟨v11, e11, -⟩ := hall 11 (by simp)
    obtain ⟨v12, e12, ga, rfl, hga, -⟩ := hall 12 (by simp)
    obtain ⟨v13, e13, gb, A, c', b', d', h12, h7, kb⟩ := hall 13 (by simp)
    obtain ⟨v14, e14, -⟩ := hall 14 (by simp)
    obtain ⟨v15, e15, -⟩ := hall 15 (by simp)
    rw [e12] at h12
    injection h12 with h12
    injection h12 with h12
    injection h12 with h12
    injection h12 with h12
    subst h12
    rw [e7] at h7
    injection h7 with h7
    injection h7 with h7
    obtain ⟨⟨rfl, rfl⟩, rfl, rfl⟩ : (some ⟨g, 0, none⟩ = A ∧ c = c') ∧ r = b' ∧ e = d' := by simpa using h7
    clear hall h7
    refine wpAnyE_done (by simp only [lstOf, e4, e6, e7, e8, e9, e10, e11, e12, e13, e14, e15, Option.isSome_some, if_true]; kernel_rfl) ?_ _
    simp only [actOf, e4, e6, e7, e8, e9, e10, e11, e12, e13, e14, e15, bgT]
    clear e4 e6 e7 e8 e9 e10 e11 e12 e13 e14 e15
    have q0 := kb.cell 0
    have k1' := k1.keep hb2
    have z1 : w.heap.size + 1 < w1.heap.size := k1.lt
    have f1 := k1'.free 0
    have l1 := k1'.lt
    have l2 := kb.lt
    have ne1 : ¬ ga = w.heap.size + 1 := by omega
    have q1 := k1'.cell 0
    simp at q0 q1
    go_wp2
    have hlen : (beginM l).length = N := by rw [beginM_length, HN.out]; omega
    refine bodyPost_ret (v := memV (some ⟨g, 0, none⟩) N c) (by simp [results, Try.results18, go_sem, q1]) rfl ⟨g, c, by rw [hlen], ?_, ?_⟩
    · rw [hlen]
      exact own_keptT hown (keptT_set k1' 0 _) (by decide)
    · exact below_set (below_tr hbl hb2) (by simp) _
end Go.Proofs.Ytbcgjolcfagboaa
