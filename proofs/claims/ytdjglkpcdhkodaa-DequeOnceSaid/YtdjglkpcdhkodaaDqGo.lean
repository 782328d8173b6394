/- DequeOnce. Printed by dqlaws_gen.py. -/
import Derived.Test.YtdjglkpcdhkodaaDqEnd
import Derived.Test.YtdjglkpcdhkodaaDqF
import Derived.Test.YtdjglkpcdhkodaaDqNe
import Derived.Test.YtdjglkpcdhkodaaDqRow
namespace Go.Proofs.Ytdjglkpcdhkodaa
open Go.RowKit
set_option linter.unusedVariables false
attribute [local go_sem ↓] Go.wp_at_zero Go.wp_at_succ

/-- How often each number is in a list. -/
def cnt (xs : List Int) : List Int := (List.range 20).map fun (k : Nat) => ((xs.count (k : Int) : Nat) : Int)
abbrev cntC (xs : List Int) : Array Value := (ints (cnt xs)).toArray
theorem cnt_nil : List.replicate 20 (0 : Int) = cnt [] := by decide
theorem cnt_get (xs : List Int) {v : Nat} (h : v < 20) : (cntC xs)[v]? = some (.int .i64 ((xs.count (v : Int) : Nat) : Int)) := by
  simp [cntC, ints, cnt, h]
theorem cnt_set (xs : List Int) {v : Nat} (h : v < 20) : (cntC xs).setIfInBounds v (.int .i64 (((xs.count (v : Int) : Nat) : Int) + 1)) = cntC (xs ++ [(v : Int)]) := by
  apply Array.ext'
  simp only [Array.toList_setIfInBounds, cntC]
  apply List.ext_getElem?
  intro k
  have hl : v < (ints (cnt xs)).length := by simp [ints, cnt, h]
  by_cases e : v = k
  · subst e
    rw [List.getElem?_set_self hl]
    simp [ints, cnt, h, List.count_append]
  · rw [List.getElem?_set_ne e]
    by_cases hk : k < 20
    · have hne : ¬ (v : Int) = (k : Int) := by omega
      simp [ints, cnt, hk, List.count_append, List.count_cons]
      split
      · omega
      · simp
    · simp [ints, cnt, hk]
theorem takes_snoc (xs : List DoneD) (d : DoneD) : takesOf (xs ++ [d]) = takesOf xs ++ (if (decide (d.op.kind ≠ 8) && d.is) = true then [d.val] else []) := by
  unfold takesOf
  rw [List.filter_append, List.map_append]
  congr 1
  rw [List.filter_cons]
  split <;> rfl
theorem pushes_snoc (xs : List DoneD) (d : DoneD) : pushesOf (xs ++ [d]) = pushesOf xs ++ (if (decide (d.op.kind = 8) && d.is) = true then [d.op.a] else []) := by
  unfold pushesOf
  rw [List.filter_append, List.map_append]
  congr 1
  rw [List.filter_cons]
  split <;> rfl
theorem count_le (xs : List Int) (v : Int) : xs.count v ≤ xs.length := List.count_le_length
theorem takes_le (ds : List DoneD) : (takesOf ds).length ≤ ds.length := by unfold takesOf; rw [List.length_map]; exact List.length_filter_le _ _
theorem pushes_le (ds : List DoneD) : (pushesOf ds).length ≤ ds.length := by unfold pushesOf; rw [List.length_map]; exact List.length_filter_le _ _
def O1 (w5 : World) (gH gP N : Nat) (ds : List DoneD) (v8 : Value) (wr : World) : Prop := ∃ k : Nat, k ≤ N ∧ v8 = .int .i64 k ∧ Below w5.heap.size w5 wr ∧ Bk wr gH 3 (cntC (takesOf (ds.take k))) ∧ Bk wr gP 3 (cntC (pushesOf (ds.take k)))
theorem own_cells {w : World} {B n c : Nat} {A : Option Addr} {zs : List Int} (h : OwnInts w B (.slice A n c) zs) (hn : zs.length = n) : ∃ gR cur, (0 < n → A = some ⟨gR, 0, none⟩ ∧ Bk w gR 3 cur) ∧ B ≤ gR ∧ ∀ (k : Nat) (r : Int), zs[k]? = some r → cur[k]? = some (.int .i64 r) := by
  rcases h.2 with ⟨_, h0⟩ | ⟨g, cap, cur, h1, h2, h3, _, _, _, h4⟩
  · exact ⟨B, #[], fun h => by omega, Nat.le_refl _, fun k r hk => by
      have := (List.getElem?_eq_some_iff.1 hk).1
      omega⟩
  · injection h1 with h1 _ _
    refine ⟨g, cur, fun _ => ⟨h1, h3⟩, h2, fun k r hk => ?_⟩
    have h5 : (ints zs)[k]? = some (.int .i64 r) := by simp [ints, hk]
    rw [← h4, List.getElem?_take] at h5
    split at h5
    · simpa using h5
    · cases h5
def O2 (w5 : World) (gH gP gR : Nat) (cur : Array Value) (T P row : List Int) (v : Value) (wr : World) : Prop := ∃ k : Nat, k ≤ row.length ∧ v = .int .i64 k ∧ Below w5.heap.size w5 wr ∧ Bk wr gH 3 (cntC (T ++ row.take k)) ∧ Bk wr gP 3 (cntC P) ∧ (0 < row.length → Bk wr gR 3 cur)
theorem pw_get : ∀ {l : List Int} {i j : Nat} {x y : Int}, l.Pairwise (· < ·) → l[i]? = some x → l[j]? = some y → i < j → x < y := by
  intro l i j x y h hx hy hij
  obtain ⟨h1, rfl⟩ := List.getElem?_eq_some_iff.1 hx
  obtain ⟨h2, rfl⟩ := List.getElem?_eq_some_iff.1 hy
  exact List.pairwise_iff_getElem.1 h i j h1 h2 hij
def O3 (w5 : World) (gH gP : Nat) (T P : List Int) (v : Value) (wr : World) : Prop := ∃ k : Nat, k ≤ 20 ∧ v = .int .i64 k ∧ Below w5.heap.size w5 wr ∧ Bk wr gH 3 (cntC T) ∧ Bk wr gP 3 (cntC P)
set_option maxRecDepth 1000000 in
set_option maxHeartbeats 16000000 in
theorem once_any (p : PlayD) (O : Option Addr) (co : Nat) (tk : Int) (T : Option Addr) (d : Nat) (turns : List Nat) (w : World) (t0 : 0 ≤ tk) (t1 : tk < 256) (h1 : p.s1 < 256) (h2 : p.s2 < 256) (hO : SlU8 w w.heap.size O p.own) (hT : SlU8 w w.heap.size T turns) :
    Calls Try.prog 3 #[.agg (playC O p.own.length co p.s1 p.s2 tk T turns.length d)] w (BoolBelow true w) := by
  have HO := Lib.hid hO
  have HT := Lib.hid hT
  clear hO hT
  have k0 := Bk.made w 25 (playC O p.own.length co p.s1 p.s2 tk T turns.length d)
  have hbl := below_al (Below.refl w.heap.size w) (.cells (playC O p.own.length co p.s1 p.s2 tk T turns.length d) 25)
  go_enter Try.func3, Try.ntmps3
  go_wp2_with fail
  (with_reducible refine (shown_any _).mono ?_)
  rintro e w1 ⟨rfl, hb⟩
  replace k0 := k0.keep hb
  replace hbl := below_tr hbl hb
  clear hb
  go_wp2_with (refine wpList_load_row rfl 25 (.tmp 1) rfl w.heap.size rfl 25 (playC O p.own.length co p.s1 p.s2 tk T turns.length d) (0, 0) _ k0 Try.underlying25 rfl (by kernel_rfl) ?_)
  (with_reducible refine (few_any O p.own.length co p.s1 p.s2 tk T turns.length d _).mono ?_)
  rintro e w2 ⟨rfl, hb⟩
  replace k0 := k0.keep hb
  replace hbl := below_tr hbl hb
  clear hb
  by_cases hfew : p.own.length ≤ 14 ∧ turns.length ≤ 300
  rotate_left
  · have g1 : decide (p.own.length ≤ 14 ∧ turns.length ≤ 300) = false := by simp only [decide_eq_false_iff_not]; exact hfew
    rw [g1]
    go_wp2
    go_ret
    exact ⟨rfl, hbl⟩
  have g1 : decide (p.own.length ≤ 14 ∧ turns.length ≤ 300) = true := by simp only [decide_eq_true_eq]; exact hfew
  rw [g1]
  clear g1
  obtain ⟨h14, h300⟩ := hfew
  go_wp2_with (refine wpList_load_row rfl 25 (.tmp 1) rfl w.heap.size rfl 25 (playC O p.own.length co p.s1 p.s2 tk T turns.length d) (0, 0) _ k0 Try.underlying25 rfl (by kernel_rfl) ?_)
  (with_reducible refine (where_any O p.own.length co p.s1 p.s2 tk T turns.length d _ t0 t1).mono ?_)
  rintro e w3 ⟨rfl, hb⟩
  replace k0 := k0.keep hb
  replace hbl := below_tr hbl hb
  clear hb
  obtain ⟨l, hl⟩ : ∃ l, playL tk = l := ⟨_, rfl⟩
  have HL := Lib.hid hl
  rw [hl]
  clear hl
  go_upto_region 5 with (refine wpList_store_new rfl 31 (.tmp 4) (.tmp 19) rfl rfl w3.heap.size _ _ (lyC l) rfl rfl rfl rfl (by kernel_rfl) rfl (by simp [Value.oneCell']) ?_)
  have kL := Bk.made w3 31 (lyC l)
  replace k0 := k0.alloc (.cells (lyC l) 31)
  replace hbl := below_al hbl (.cells (lyC l) 31)
  generalize w3.alloc (.cells (lyC l) 31) = w4 at *
  generalize w3.heap.size = bL at *
  go_wp2_with (refine wpList_load_row rfl 25 (.tmp 1) rfl w.heap.size rfl 25 (playC O p.own.length co p.s1 p.s2 tk T turns.length d) (0, 0) _ k0 Try.underlying25 rfl (by kernel_rfl) ?_)
  (with_reducible refine (played_any p O co tk T d turns _ h14 h300 t0 t1 h1 h2 ((HO.out.below hbl).more hbl.size) ((HT.out.below hbl).more hbl.size)).mono ?_)
  rintro e w5 ⟨gt, rfl, htr, hb⟩
  have HE := Lib.hid (end_ok p turns tk t0 h14 h300)
  replace hbl := below_tr hbl hb
  clear k0
  obtain ⟨gm, cm, G, c, hsee⟩ := htr.see
  clear htr
  replace kL := kL.keep hb
  have HNE := Lib.hid (end_ne (playL tk) p turns)
  have HNX := Lib.hid (Nat.le_trans (end_next p turns tk t0 h14) h14)
  clear hb
  obtain ⟨t, ht⟩ : ∃ t, endD (playL tk) p turns = t := ⟨_, rfl⟩
  rw [ht] at hsee HE HNE HNX
  clear ht
  have hbad := HE.out.bd
  have HSEE := Lib.hid hsee
  clear hsee
  obtain ⟨N, hN⟩ : ∃ N, t.done.length = N := ⟨_, rfl⟩
  have HN := Lib.hid hN
  have hN6 : N ≤ 100000 := by rw [← hN]; exact HE.out.ln
  clear hN
  obtain ⟨hnn, ly, lf⟩ := playL_size tk t0
  have hrow := HE.out.row ly
  have hsz0 := hrow.ml
  have hsz1 := ly.big
  have HLY := Lib.hid (And.intro ly lf)
  have HONE := Lib.hid (once_ok HE.out HNE.out HNX.out)
  have HROW := Lib.hid hrow
  generalize (playL tk).size.toNat = SZ at *
  rw [HL.out] at HLY HROW HE
  clear hnn ly lf hrow HNX HNE
  have hMN : t.m.length ≤ 100000 := by omega
  go_wp2_with (refine wpList_make_row rfl _ _ rfl 20 _ rfl rfl (run_make_ints _ 20 (by omega)) ?_)
  have kH := (Bk.made w5 3 (ints (List.replicate 20 0)).toArray).alloc (.cells (ints (List.replicate 20 0)).toArray 3)
  have kP := Bk.new (w5.alloc (.cells (ints (List.replicate 20 0)).toArray 3)) (g := w5.heap.size + 1) (by simp) 3 (ints (List.replicate 20 0)).toArray
  have hb7 := below_al (below_al (Below.refl w5.heap.size w5) (.cells (ints (List.replicate 20 0)).toArray 3)) (.cells (ints (List.replicate 20 0)).toArray 3)
  rw [cnt_nil] at kH kP hb7
  show Code.wp Try.prog _ _ _ ((w5.alloc (.cells (ints (cnt [])).toArray 3)).alloc (.cells (ints (cnt [])).toArray 3))
  generalize (w5.alloc (.cells (ints (cnt [])).toArray 3)).alloc (.cells (ints (cnt [])).toArray 3) = w7 at *
  obtain ⟨gH, hgH⟩ : ∃ g, w5.heap.size = g := ⟨_, rfl⟩
  obtain ⟨gP, hgP⟩ : ∃ g, w5.heap.size + 1 = g := ⟨_, rfl⟩
  rw [hgP] at kP ⊢
  rw [hgH] at kH ⊢
  have hge : w5.heap.size ≤ gH ∧ gH < gP := by omega
  clear hgP hgH
  have HK := Lib.hid (And.intro kH (And.intro kP hb7))
  clear kH kP hb7
  go_loopw [8] (fun v8 wr => O1 w5 gH gP N t.done v8 wr) (fun v8 _ => N - (intOf v8).toNat)
  case atStart => exact ⟨0, Nat.zero_le _, rfl, HK.out.2.2, HK.out.1, HK.out.2.1⟩
  case round =>
    clear HK
    obtain ⟨i, hi, rfl, hb, kH, kP⟩ := hrel
    have hsee := HSEE.out.below hb
    by_cases hlt : i < N
    · obtain ⟨a, ha⟩ : ∃ a, t.done[i]? = some a := ⟨_, List.getElem?_eq_getElem (by rw [HN.out]; exact hlt)⟩
      have g1 : (i : Int) < N := by omega
      have htk : t.done.take (i + 1) = t.done.take i ++ [a] := by rw [List.take_add_one, ha]; rfl
      have ht1 := takes_snoc (t.done.take i) a
      have hp1 := pushes_snoc (t.done.take i) a
      have hc1 := takes_le (t.done.take i)
      have hc2 := pushes_le (t.done.take i)
      rw [List.length_take] at hc1 hc2
      have otk := HONE.out.tk a (List.mem_of_getElem? ha)
      have opu := HONE.out.pu a (List.mem_of_getElem? ha)
      rw [← htk] at ht1 hp1
      have HT := Lib.hid (And.intro ht1 (And.intro hp1 (And.intro otk opu)))
      clear ht1 hp1 otk opu htk
      generalize takesOf (t.done.take i) = TK at *
      generalize pushesOf (t.done.take i) = PU at *
      have s26 := hsee.c26
      have lt := hsee.lt
      obtain ⟨gD, hG, hgD, hcD⟩ := hsee.dn (by rw [HN.out]; omega)
      have HCL := Lib.hid (hcD i _ ha)
      have HSEEr := Lib.hid hsee
      have HXa := Lib.hid ha
      rw [hG, HN.out] at s26
      clear hG
      (try simp at s26)
      clear hcD hsee ha
      obtain ⟨a_who, ⟨a_k, a_j, a_a, a_b⟩, a_fi, a_la, a_val, a_is, a_err, a_pt⟩ := a
      have HCL := Lib.hid (show ∀ (j : Nat) (v : Value), ([.int .i64 (a_who : Nat), .int .i64 a_k, .int .i64 a_j, .int .i64 a_a, .int .i64 a_b, .int .i64 (a_fi : Nat), .int .i64 (a_la : Nat), .int .i64 a_val, .bool a_is, .int .i64 a_err, .int .i64 a_pt, .slice none 0 0] : List Value)[j]? = some v → wr.cell? ⟨gD, i * 12 + j, none⟩ = some v from HCL.out)
      go_upto_region 12 with (first
        | (refine wpList_load_mid rfl 52 (.tmp 38) rfl gD (i * 12) rfl [.int .i64 (a_who : Nat), .int .i64 a_k, .int .i64 a_j, .int .i64 a_a, .int .i64 a_b, .int .i64 (a_fi : Nat), .int .i64 (a_la : Nat), .int .i64 a_val, .bool a_is, .int .i64 a_err, .int .i64 a_pt, .slice none 0 0] _ HCL.out Try.underlying52 rfl (by kernel_rfl) ?_)
        | (refine wpList_store_new rfl 52 (.tmp 9) (.tmp 39) rfl rfl wr.heap.size _ _ #[.int .i64 (a_who : Nat), .int .i64 a_k, .int .i64 a_j, .int .i64 a_a, .int .i64 a_b, .int .i64 (a_fi : Nat), .int .i64 (a_la : Nat), .int .i64 a_val, .bool a_is, .int .i64 a_err, .int .i64 a_pt, .slice none 0 0] rfl rfl rfl rfl (by kernel_rfl) rfl (by simp [Value.oneCell']) ?_))
      clear s26 lt hgD HCL
      have hsee := HSEEr.out
      clear HSEEr
      have ka := Bk.made wr 52 #[.int .i64 (a_who : Nat), .int .i64 a_k, .int .i64 a_j, .int .i64 a_a, .int .i64 a_b, .int .i64 (a_fi : Nat), .int .i64 (a_la : Nat), .int .i64 a_val, .bool a_is, .int .i64 a_err, .int .i64 a_pt, .slice none 0 0]
      have hba := below_al (Below.refl wr.heap.size wr) (.cells #[.int .i64 (a_who : Nat), .int .i64 a_k, .int .i64 a_j, .int .i64 a_a, .int .i64 a_b, .int .i64 (a_fi : Nat), .int .i64 (a_la : Nat), .int .i64 a_val, .bool a_is, .int .i64 a_err, .int .i64 a_pt, .slice none 0 0] 52)
      replace hsee := hsee.below hba
      replace kH := kH.keep hba
      replace kP := kP.keep hba
      replace hb := below_tr hb hba
      clear hba
      generalize wr.alloc (.cells #[.int .i64 (a_who : Nat), .int .i64 a_k, .int .i64 a_j, .int .i64 a_a, .int .i64 a_b, .int .i64 (a_fi : Nat), .int .i64 (a_la : Nat), .int .i64 a_val, .bool a_is, .int .i64 a_err, .int .i64 a_pt, .slice none 0 0] 52) = w8 at *
      generalize wr.heap.size = gX at *
      have x1 := ka.cell 1
      have x3 := ka.cell 3
      have x8 := ka.cell 8
      have x7 := ka.cell 7
      have lx := ka.lt
      simp at x1 x3 x8 x7
      have hlH := kH.lt
      have hlP := kP.lt
      clear hsee ka
      by_cases hk8 : a_k = 8
      · subst hk8
        cases a_is with
        | false =>
          have HR := Lib.hid (show O1 w5 gH gP N t.done (.int .i64 ((i + 1 : Nat) : Int)) w8 from ⟨i + 1, by omega, rfl, hb, by have := HT.out.1; simp at this; rw [this]; exact kH, by have := HT.out.2.1; simp at this; rw [this]; exact kP⟩)
          clear kH kP hb HT
          go_wp2_with fail
          go_roundw
          case rel => exact HR.out
          case measure => simp [intOf]; omega
        | true =>
          obtain ⟨va, rfl⟩ : ∃ n : Nat, a_a = (n : Int) := ⟨a_a.toNat, by have := HT.out.2.2.2 rfl; dsimp only at this; omega⟩
          have hva : 1 ≤ va ∧ va ≤ 14 := by have := HT.out.2.2.2 rfl; dsimp only at this; omega
          have p1 := (kP.cell va).trans (cnt_get PU (by omega))
          have p2 := kP.free va
          have p3 : decide ((va : Int) < 0) = false := by simp
          have p4 : (va : Int) < 20 := by omega
          have p5 := count_le PU (va : Int)
          have p6 : IntKind.i64.wrap (((PU.count (va : Int) : Nat) : Int) + 1) = ((PU.count (va : Int) : Nat) : Int) + 1 := IntWalk.i64_in _ (by omega)
          have hst := kP.stored va (.int .i64 (((PU.count (va : Int) : Nat) : Int) + 1))
          rw [cnt_set PU (by omega)] at hst
          have hsh := kH.other (p := ⟨gP, va, none⟩) (by dsimp only; omega) (.int .i64 (((PU.count (va : Int) : Nat) : Int) + 1))
          have hsb := hb.setCell (p := ⟨gP, va, none⟩) (by dsimp only; omega) (.int .i64 (((PU.count (va : Int) : Nat) : Int) + 1))
          have HR := Lib.hid (show O1 w5 gH gP N t.done (.int .i64 ((i + 1 : Nat) : Int)) (w8.setCell ⟨gP, va, none⟩ (.int .i64 (((PU.count (va : Int) : Nat) : Int) + 1))) from ⟨i + 1, by omega, rfl, hsb, by have := HT.out.1; simp at this; rw [this]; exact hsh, by have := HT.out.2.1; simp at this; rw [this]; exact hst⟩)
          clear hst hsh hsb kH kP hb HT
          generalize hcn : ((PU.count (va : Int) : Nat) : Int) = cn at *
          go_wp2_with fail
          go_roundw
          case rel => exact HR.out
          case measure => simp [intOf]; omega
      · have c1 : (a_k == 8) = false := by simpa using hk8
        have c2 : decide (a_k = 8) = false := by simpa using hk8
        cases a_is with
        | false =>
          have HR := Lib.hid (show O1 w5 gH gP N t.done (.int .i64 ((i + 1 : Nat) : Int)) w8 from ⟨i + 1, by omega, rfl, hb, by have := HT.out.1; simp at this; rw [this]; exact kH, by have := HT.out.2.1; simp [hk8] at this; rw [this]; exact kP⟩)
          clear kH kP hb HT
          go_wp2_with fail
          go_roundw
          case rel => exact HR.out
          case measure => simp [intOf]; omega
        | true =>
          obtain ⟨va, rfl⟩ : ∃ n : Nat, a_val = (n : Int) := ⟨a_val.toNat, by have := HT.out.2.2.1 hk8 rfl; dsimp only at this; omega⟩
          have hva : 1 ≤ va ∧ va ≤ 14 := by have := HT.out.2.2.1 hk8 rfl; dsimp only at this; omega
          have p1 := (kH.cell va).trans (cnt_get TK (by omega))
          have p2 := kH.free va
          have p3 : decide ((va : Int) < 0) = false := by simp
          have p4 : (va : Int) < 20 := by omega
          have p5 := count_le TK (va : Int)
          have p6 : IntKind.i64.wrap (((TK.count (va : Int) : Nat) : Int) + 1) = ((TK.count (va : Int) : Nat) : Int) + 1 := IntWalk.i64_in _ (by omega)
          have p7 : decide ((va : Int) < 1) = false := by simp; omega
          have p8 : decide ((14 : Int) < va) = false := by simp; omega
          have p9 : decide ((va : Int) > 14) = false := by simp; omega
          have hst := kH.stored va (.int .i64 (((TK.count (va : Int) : Nat) : Int) + 1))
          rw [cnt_set TK (by omega)] at hst
          have hsh := kP.other (p := ⟨gH, va, none⟩) (by dsimp only; omega) (.int .i64 (((TK.count (va : Int) : Nat) : Int) + 1))
          have hsb := hb.setCell (p := ⟨gH, va, none⟩) (by dsimp only; omega) (.int .i64 (((TK.count (va : Int) : Nat) : Int) + 1))
          have HR := Lib.hid (show O1 w5 gH gP N t.done (.int .i64 ((i + 1 : Nat) : Int)) (w8.setCell ⟨gH, va, none⟩ (.int .i64 (((TK.count (va : Int) : Nat) : Int) + 1))) from ⟨i + 1, by omega, rfl, hsb, by have := HT.out.1; simp [hk8] at this; rw [this]; exact hst, by have := HT.out.2.1; simp [hk8] at this; rw [this]; exact hsh⟩)
          clear hst hsh hsb kH kP hb HT
          generalize hcn : ((TK.count (va : Int) : Nat) : Int) = cn at *
          go_wp2_with fail
          go_roundw
          case rel => exact HR.out
          case measure => simp [intOf]; omega
    · obtain rfl : i = N := by omega
      have s26 := hsee.c26
      have lt := hsee.lt
      rw [HN.out] at s26
      have g1 : decide ((i : Int) < i) = false := by simp
      rw [show t.done.take i = t.done by rw [← HN.out]; exact List.take_length] at kH kP
      generalize hT : takesOf t.done = TT at *
      generalize hP : pushesOf t.done = PP at *
      generalize hR : Lc t.m = row at *
      have HTPR := Lib.hid (And.intro hT (And.intro hP hR))
      clear hT hP hR
      replace kL := kL.keep hb
      go_upto_region 19 with fail
      clear s26 lt
      refine wp_region_E (S := fun w' => Below wr.drew.heap.size wr.drew w') (E := fun _ => false) (by kernel_rfl) ?_
      replace kL := kL.drew
      replace kH := kH.drew
      replace kP := kP.drew
      replace hb := hb.drew
      replace hsee : TSee wr.drew gt t gm cm G c := hsee.below (below_drew' (Below.refl _ _))
      have hmem := hsee.mem
      rw [hsz0] at hmem
      generalize wr.drew = v1 at *
      refine wpAnyE_take (i := 0) (oi := _) (v := .agg (lyC l)) rfl (by kernel_rfl) (by kernel_rfl) (by kernel_rfl) (by kernel_rfl) (fun _ _ _ h => h) (Or.inl ⟨by rfl, ?_⟩) (Below.refl _ _) ?_
      · intro w' hSw
        (try simp only [List.getElem_toArray, List.getElem_cons_zero])
        simp only [execOp, Instr.loadAt, Instr.sureAddr, Sem.run_bind, Sem.run_pure]
        rw [show (Act.eval _ (Operand.tmp 4)) = Value.pointer (some ⟨bL, 0, none⟩) from rfl]
        simp only [Sem.run_pure, Result.andThen_ok, run_loadVar_row w' bL 31 31 (lyC l) (0, 0) _ (kL.keep hSw) Try.underlying31 rfl (by kernel_rfl)]
      (try simp only [List.getElem_toArray, List.getElem_cons_zero, Act.put, List.setIfInBounds_toArray, List.set_cons_zero, List.set_cons_succ])
      refine wpAnyE_take (i := 1) (oi := _) (v := .pointer (some ⟨gt, 0, none⟩)) rfl (by kernel_rfl) (by kernel_rfl) (by kernel_rfl) (by kernel_rfl) (fun _ _ _ h => h) (Or.inl ⟨by rfl, ?_⟩) (Below.refl _ _) ?_
      · intro w' hSw
        (try simp only [List.getElem_toArray, List.getElem_cons_succ, List.getElem_cons_zero])
        go_simp
      (try simp only [List.getElem_toArray, List.getElem_cons_succ, List.getElem_cons_zero, Act.put, List.setIfInBounds_toArray, List.set_cons_zero, List.set_cons_succ])
      refine wpAnyE_take (i := 2) (oi := _) (v := .pointer (some ⟨gt, 0, none⟩)) rfl (by kernel_rfl) (by kernel_rfl) (by kernel_rfl) (by kernel_rfl) (fun _ _ _ h => h) (Or.inl ⟨by rfl, ?_⟩) (Below.refl _ _) ?_
      · intro w' hSw
        (try simp only [List.getElem_toArray, List.getElem_cons_succ, List.getElem_cons_zero])
        go_simp
      (try simp only [List.getElem_toArray, List.getElem_cons_succ, List.getElem_cons_zero, Act.put, List.setIfInBounds_toArray, List.set_cons_zero, List.set_cons_succ])
      refine wpAnyE_take (i := 3) (oi := _) (v := .pointer (some ⟨gt, 0, none⟩)) rfl (by kernel_rfl) (by kernel_rfl) (by kernel_rfl) (by kernel_rfl) (fun _ _ _ h => h) (Or.inl ⟨by rfl, ?_⟩) (Below.refl _ _) ?_
      · intro w' hSw
        (try simp only [List.getElem_toArray, List.getElem_cons_succ, List.getElem_cons_zero])
        go_simp
      (try simp only [List.getElem_toArray, List.getElem_cons_succ, List.getElem_cons_zero, Act.put, List.setIfInBounds_toArray, List.set_cons_zero, List.set_cons_succ])
      refine wpAnyE_take (i := 4) (oi := _) (v := .agg #[.slice (some ⟨gm, 0, none⟩) t.m.length cm]) rfl (by kernel_rfl) (by kernel_rfl) (by kernel_rfl) (by kernel_rfl) (fun _ _ _ h => h) (Or.inl ⟨by rfl, ?_⟩) (Below.refl _ _) ?_
      · intro w' hSw
        have s1 := cell_keep hSw hsee.c0
        (try simp at s1)
        (try simp only [List.getElem_toArray, List.getElem_cons_succ, List.getElem_cons_zero])
        go_simp
      (try simp only [List.getElem_toArray, List.getElem_cons_succ, List.getElem_cons_zero, Act.put, List.setIfInBounds_toArray, List.set_cons_zero, List.set_cons_succ])
      refine wpAnyE_one (i := 5) (o := _) (by kernel_rfl) rfl (fun K hK => ?_)
      (try simp only [List.getElem_toArray, List.getElem_cons_succ, List.getElem_cons_zero])
      go_simp
      (with_reducible refine (rrow_any l SZ t.m (some ⟨gm, 0, none⟩) cm SZ _ HLY.out.1 HLY.out.2 HROW.out hsz0 hmem (by omega)).mono ?_)
      rintro e v2 ⟨A, cr, rfl, hown, hb1⟩
      rw [HTPR.out.2.2] at hown ⊢
      refine hK.out _ _ (fun _ => hb1) ?_
      clear hK K
      (try simp only [List.getElem_toArray, List.getElem_cons_succ, List.getElem_cons_zero, Act.put, List.setIfInBounds_toArray, List.set_cons_zero, List.set_cons_succ])
      refine wpAnyE_take (i := 6) (oi := _) (v := .slice A row.length cr) rfl (by kernel_rfl) (by kernel_rfl) (by kernel_rfl) (by kernel_rfl) (fun _ _ _ h => h) (Or.inl ⟨by rfl, ?_⟩) hb1 ?_
      · intro w' hSw
        (try simp only [List.getElem_toArray, List.getElem_cons_succ, List.getElem_cons_zero])
        go_simp
      (try simp only [List.getElem_toArray, List.getElem_cons_succ, List.getElem_cons_zero, Act.put, List.setIfInBounds_toArray, List.set_cons_zero, List.set_cons_succ])
      refine wpAnyE_done (by kernel_rfl) ?_ _
      have kH1 := kP
      replace kH := kH.keep hb1
      replace kP := kP.keep hb1
      replace hb := hb.trans (hb1.mono hb.size)
      replace hsee := hsee.below hb1
      have hgv1 := kH1.lt
      obtain ⟨gR, cur, hrA, hrB, hrC⟩ := own_cells hown rfl
      clear hb1 kL kH1
      have HRC := Lib.hid hrC
      clear hown hrC
      have hpm := HONE.out.pm
      have hrw := HONE.out.rw
      have hso := HONE.out.so
      rw [HTPR.out.1, HTPR.out.2.1, HTPR.out.2.2] at hpm
      rw [HTPR.out.2.2] at hrw hso
      have hml : row.length ≤ 100000 ∧ TT.length ≤ 100000 ∧ PP.length ≤ 100000 := by
        have e1 := hpm.length_eq
        rw [List.length_append] at e1
        have e2 := pushes_le t.done
        rw [HTPR.out.2.1, HN.out] at e2
        omega
      have HPM := Lib.hid (And.intro hpm (And.intro hrw hso))
      clear hpm hrw hso HONE HROW HLY HE HTPR hsz0 hsz1
      have HK := Lib.hid (And.intro hb (And.intro kH kP))
      clear hb kH kP hsee
      go_wp2_with fail
      have hne : gH < gR ∧ gP < gR := by omega
      clear hgv1 hrB
      go_loopw [11] (fun v11 wr => O2 w5 gH gP gR cur TT PP row v11 wr) (fun v11 _ => row.length - (intOf v11).toNat)
      case atStart => exact ⟨0, Nat.zero_le _, rfl, HK.out.1, by rw [List.take_zero, List.append_nil]; exact HK.out.2.1, HK.out.2.2, fun h => (hrA h).2⟩
      case round =>
        clear HK
        obtain ⟨j, hj, rfl, hb, kH, kP, hkR⟩ := hrel
        by_cases hlt : j < row.length
        · obtain ⟨x, hx⟩ : ∃ x, row[j]? = some x := ⟨_, List.getElem?_eq_getElem hlt⟩
          have hA := (hrA (by omega)).1
          have kR := hkR (by omega)
          subst hA
          have hin := HPM.out.2.1 x (List.mem_of_getElem? hx)
          obtain ⟨va, rfl⟩ : ∃ n : Nat, x = (n : Int) := ⟨x.toNat, by omega⟩
          have htk : TT ++ row.take (j + 1) = TT ++ row.take j ++ [(va : Int)] := by rw [List.take_add_one, hx, ← List.append_assoc]; rfl
          have HTK := Lib.hid htk
          clear htk
          have hjk : j = 0 ∨ ∃ q vy : Nat, j = q + 1 ∧ row[q]? = some (vy : Int) ∧ vy < va := by
            rcases Nat.eq_zero_or_pos j with h0 | h0
            · exact .inl h0
            · obtain ⟨q, rfl⟩ : ∃ q, j = q + 1 := ⟨j - 1, by omega⟩
              obtain ⟨y, hy⟩ : ∃ y, row[q]? = some y := ⟨_, List.getElem?_eq_getElem (by omega)⟩
              have hiny := HPM.out.2.1 y (List.mem_of_getElem? hy)
              have hlt2 := pw_get HPM.out.2.2 hy hx (by omega)
              exact .inr ⟨q, y.toNat, rfl, by rw [hy]; congr 1; omega, by omega⟩
          have cx : wr.cell? ⟨gR, j, none⟩ = some (.int .i64 (va : Nat)) := by rw [kR.cell j]; exact HRC.out j _ hx
          have g1 : (j : Int) < row.length := by omega
          have p7 : decide ((va : Int) < 1) = false := by simp; omega
          have p8 : decide ((14 : Int) < va) = false := by simp; omega
          have p9 : decide ((va : Int) > 14) = false := by simp; omega
          have p4 : (va : Int) < 20 := by omega
          have hHR := Lib.hid (And.intro kH (And.intro kP (And.intro kR hb)))
          have HX := Lib.hid hx
          have HC := Lib.hid cx
          clear kH kP kR hb hkR hx hin cx
          go_upto_region 23 with fail
          refine wp_region_E (S := fun w' => Below wr.drew.heap.size wr.drew w') (E := fun _ => false) (by kernel_rfl) ?_
          have hHR2 := Lib.hid (And.intro hHR.out.1.drew (And.intro hHR.out.2.1.drew (And.intro hHR.out.2.2.1.drew hHR.out.2.2.2.drew)))
          have cx : wr.drew.cell? ⟨gR, j, none⟩ = some (.int .i64 (va : Nat)) := HC.out
          clear hHR HC
          generalize wr.drew = v3 at *
          rcases hjk with hj0 | ⟨q, vy, hjq, hyq, hyx⟩
          · have b0 : decide ((0 : Int) < j) = false := by simp; omega
            have b1 : decide ((j : Int) > 0) = false := by simp; omega
            have HJ := Lib.hid hj0
            clear hj0
            refine wpAnyE_take (i := 0) (oi := _) (v := .slice (some ⟨gR, 0, none⟩) row.length cr) rfl (by kernel_rfl) (by kernel_rfl) (by kernel_rfl) (by kernel_rfl) (fun _ _ _ h => h) (Or.inl ⟨by rfl, ?_⟩) (Below.refl _ _) ?_
            · intro w' hSw
              (try simp only [List.getElem_toArray, List.getElem_cons_zero])
              go_simp
            (try simp only [List.getElem_toArray, List.getElem_cons_zero, Act.put, List.setIfInBounds_toArray, List.set_cons_zero, List.set_cons_succ])
            refine wpAnyE_take (i := 1) (oi := _) (v := .int .i64 (j : Nat)) rfl (by kernel_rfl) (by kernel_rfl) (by kernel_rfl) (by kernel_rfl) (fun _ _ _ h => h) (Or.inl ⟨by rfl, ?_⟩) (Below.refl _ _) ?_
            · intro w' hSw
              (try simp only [List.getElem_toArray, List.getElem_cons_succ, List.getElem_cons_zero])
              go_simp
            (try simp only [List.getElem_toArray, List.getElem_cons_succ, List.getElem_cons_zero, Act.put, List.setIfInBounds_toArray, List.set_cons_zero, List.set_cons_succ])
            refine wpAnyE_take (i := 2) (oi := _) (v := .pointer (some ⟨gR, j, none⟩)) rfl (by kernel_rfl) (by kernel_rfl) (by kernel_rfl) (by kernel_rfl) (fun _ _ _ h => h) (Or.inl ⟨by rfl, ?_⟩) (Below.refl _ _) ?_
            · intro w' hSw
              (try simp only [List.getElem_toArray, List.getElem_cons_succ, List.getElem_cons_zero])
              go_simp
            (try simp only [List.getElem_toArray, List.getElem_cons_succ, List.getElem_cons_zero, Act.put, List.setIfInBounds_toArray, List.set_cons_zero, List.set_cons_succ])
            refine wpAnyE_take (i := 3) (oi := _) (v := .int .i64 (va : Nat)) rfl (by kernel_rfl) (by kernel_rfl) (by kernel_rfl) (by kernel_rfl) (fun _ _ _ h => h) (Or.inl ⟨by rfl, ?_⟩) (Below.refl _ _) ?_
            · intro w' hSw
              have s1 := cell_keep hSw cx
              (try simp at s1)
              (try simp only [List.getElem_toArray, List.getElem_cons_succ, List.getElem_cons_zero])
              go_simp
            (try simp only [List.getElem_toArray, List.getElem_cons_succ, List.getElem_cons_zero, Act.put, List.setIfInBounds_toArray, List.set_cons_zero, List.set_cons_succ])
            refine wpAnyE_take (i := 4) (oi := _) (v := .bool false) rfl (by kernel_rfl) (by kernel_rfl) (by kernel_rfl) (by kernel_rfl) (fun _ _ _ h => h) (Or.inl ⟨by rfl, ?_⟩) (Below.refl _ _) ?_
            · intro w' hSw
              (try simp only [List.getElem_toArray, List.getElem_cons_succ, List.getElem_cons_zero])
              go_simp
            (try simp only [List.getElem_toArray, List.getElem_cons_succ, List.getElem_cons_zero, Act.put, List.setIfInBounds_toArray, List.set_cons_zero, List.set_cons_succ])
            refine wpAnyE_take (i := 5) (oi := _) (v := .bool false) rfl (by kernel_rfl) (by kernel_rfl) (by kernel_rfl) (by kernel_rfl) (fun _ _ _ h => h) (Or.inl ⟨by rfl, ?_⟩) (Below.refl _ _) ?_
            · intro w' hSw
              (try simp only [List.getElem_toArray, List.getElem_cons_succ, List.getElem_cons_zero])
              go_simp
            (try simp only [List.getElem_toArray, List.getElem_cons_succ, List.getElem_cons_zero, Act.put, List.setIfInBounds_toArray, List.set_cons_zero, List.set_cons_succ])
            refine wpAnyE_take (i := 6) (oi := _) (v := .slice (some ⟨gR, 0, none⟩) row.length cr) rfl (by kernel_rfl) (by kernel_rfl) (by kernel_rfl) (by kernel_rfl) (fun _ _ _ h => h) (Or.inl ⟨by rfl, ?_⟩) (Below.refl _ _) ?_
            · intro w' hSw
              (try simp only [List.getElem_toArray, List.getElem_cons_succ, List.getElem_cons_zero])
              go_simp
            (try simp only [List.getElem_toArray, List.getElem_cons_succ, List.getElem_cons_zero, Act.put, List.setIfInBounds_toArray, List.set_cons_zero, List.set_cons_succ])
            refine wpAnyE_take (i := 7) (oi := _) (v := .int .i64 (j : Nat)) rfl (by kernel_rfl) (by kernel_rfl) (by kernel_rfl) (by kernel_rfl) (fun _ _ _ h => h) (Or.inl ⟨by rfl, ?_⟩) (Below.refl _ _) ?_
            · intro w' hSw
              (try simp only [List.getElem_toArray, List.getElem_cons_succ, List.getElem_cons_zero])
              go_simp
            (try simp only [List.getElem_toArray, List.getElem_cons_succ, List.getElem_cons_zero, Act.put, List.setIfInBounds_toArray, List.set_cons_zero, List.set_cons_succ])
            refine wpAnyE_take (i := 8) (oi := _) (v := .pointer (some ⟨gR, j, none⟩)) rfl (by kernel_rfl) (by kernel_rfl) (by kernel_rfl) (by kernel_rfl) (fun _ _ _ h => h) (Or.inl ⟨by rfl, ?_⟩) (Below.refl _ _) ?_
            · intro w' hSw
              (try simp only [List.getElem_toArray, List.getElem_cons_succ, List.getElem_cons_zero])
              go_simp
            (try simp only [List.getElem_toArray, List.getElem_cons_succ, List.getElem_cons_zero, Act.put, List.setIfInBounds_toArray, List.set_cons_zero, List.set_cons_succ])
            refine wpAnyE_take (i := 9) (oi := _) (v := .int .i64 (va : Nat)) rfl (by kernel_rfl) (by kernel_rfl) (by kernel_rfl) (by kernel_rfl) (fun _ _ _ h => h) (Or.inl ⟨by rfl, ?_⟩) (Below.refl _ _) ?_
            · intro w' hSw
              have s1 := cell_keep hSw cx
              (try simp at s1)
              (try simp only [List.getElem_toArray, List.getElem_cons_succ, List.getElem_cons_zero])
              go_simp
            (try simp only [List.getElem_toArray, List.getElem_cons_succ, List.getElem_cons_zero, Act.put, List.setIfInBounds_toArray, List.set_cons_zero, List.set_cons_succ])
            refine wpAnyE_take (i := 10) (oi := _) (v := .bool false) rfl (by kernel_rfl) (by kernel_rfl) (by kernel_rfl) (by kernel_rfl) (fun _ _ _ h => h) (Or.inl ⟨by rfl, ?_⟩) (Below.refl _ _) ?_
            · intro w' hSw
              (try simp only [List.getElem_toArray, List.getElem_cons_succ, List.getElem_cons_zero])
              go_simp
            (try simp only [List.getElem_toArray, List.getElem_cons_succ, List.getElem_cons_zero, Act.put, List.setIfInBounds_toArray, List.set_cons_zero, List.set_cons_succ])
            refine wpAnyE_take (i := 11) (oi := _) (v := .bool false) rfl (by kernel_rfl) (by kernel_rfl) (by kernel_rfl) (by kernel_rfl) (fun _ _ _ h => h) (Or.inl ⟨by rfl, ?_⟩) (Below.refl _ _) ?_
            · intro w' hSw
              (try simp only [List.getElem_toArray, List.getElem_cons_succ, List.getElem_cons_zero])
              go_simp
            (try simp only [List.getElem_toArray, List.getElem_cons_succ, List.getElem_cons_zero, Act.put, List.setIfInBounds_toArray, List.set_cons_zero, List.set_cons_succ])
            refine wpAnyE_take (i := 12) (oi := _) (v := .bool false) rfl (by kernel_rfl) (by kernel_rfl) (by kernel_rfl) (by kernel_rfl) (fun _ _ _ h => h) (Or.inl ⟨by rfl, ?_⟩) (Below.refl _ _) ?_
            · intro w' hSw
              (try simp only [List.getElem_toArray, List.getElem_cons_succ, List.getElem_cons_zero])
              go_simp
            (try simp only [List.getElem_toArray, List.getElem_cons_succ, List.getElem_cons_zero, Act.put, List.setIfInBounds_toArray, List.set_cons_zero, List.set_cons_succ])
            refine wpAnyE_take (i := 13) (oi := _) (v := .int .i64 (j : Nat)) rfl (by kernel_rfl) (by kernel_rfl) (by kernel_rfl) (by kernel_rfl) (fun _ _ _ h => h) (Or.inl ⟨by rfl, ?_⟩) (Below.refl _ _) ?_
            · intro w' hSw
              (try simp only [List.getElem_toArray, List.getElem_cons_succ, List.getElem_cons_zero])
              go_simp
            (try simp only [List.getElem_toArray, List.getElem_cons_succ, List.getElem_cons_zero, Act.put, List.setIfInBounds_toArray, List.set_cons_zero, List.set_cons_succ])
            refine wpAnyE_take (i := 14) (oi := _) (v := .bool false) rfl (by kernel_rfl) (by kernel_rfl) (by kernel_rfl) (by kernel_rfl) (fun _ _ _ h => h) (Or.inl ⟨by rfl, ?_⟩) (Below.refl _ _) ?_
            · intro w' hSw
              (try simp only [List.getElem_toArray, List.getElem_cons_succ, List.getElem_cons_zero])
              go_simp
              (try exact HJ.out)
            (try simp only [List.getElem_toArray, List.getElem_cons_succ, List.getElem_cons_zero, Act.put, List.setIfInBounds_toArray, List.set_cons_zero, List.set_cons_succ])
            refine wpAnyE_take (i := 15) (oi := _) (v := .bool false) rfl (by kernel_rfl) (by kernel_rfl) (by kernel_rfl) (by kernel_rfl) (fun _ _ _ h => h) (Or.inl ⟨by rfl, ?_⟩) (Below.refl _ _) ?_
            · intro w' hSw
              (try simp only [List.getElem_toArray, List.getElem_cons_succ, List.getElem_cons_zero])
              go_simp
            (try simp only [List.getElem_toArray, List.getElem_cons_succ, List.getElem_cons_zero, Act.put, List.setIfInBounds_toArray, List.set_cons_zero, List.set_cons_succ])
            refine wpAnyE_take (i := 16) (oi := _) (v := undef) rfl (by kernel_rfl) (by kernel_rfl) (by kernel_rfl) (by kernel_rfl) (fun _ _ _ h => h) (Or.inr ⟨by rfl, rfl⟩) (Below.refl _ _) ?_
            (try simp only [List.getElem_toArray, List.getElem_cons_succ, List.getElem_cons_zero, Act.put, List.setIfInBounds_toArray, List.set_cons_zero, List.set_cons_succ])
            refine wpAnyE_take (i := 17) (oi := _) (v := undef) rfl (by kernel_rfl) (by kernel_rfl) (by kernel_rfl) (by kernel_rfl) (fun _ _ _ h => h) (Or.inr ⟨by rfl, rfl⟩) (Below.refl _ _) ?_
            (try simp only [List.getElem_toArray, List.getElem_cons_succ, List.getElem_cons_zero, Act.put, List.setIfInBounds_toArray, List.set_cons_zero, List.set_cons_succ])
            refine wpAnyE_take (i := 18) (oi := _) (v := undef) rfl (by kernel_rfl) (by kernel_rfl) (by kernel_rfl) (by kernel_rfl) (fun _ _ _ h => h) (Or.inr ⟨by rfl, rfl⟩) (Below.refl _ _) ?_
            (try simp only [List.getElem_toArray, List.getElem_cons_succ, List.getElem_cons_zero, Act.put, List.setIfInBounds_toArray, List.set_cons_zero, List.set_cons_succ])
            refine wpAnyE_take (i := 19) (oi := _) (v := undef) rfl (by kernel_rfl) (by kernel_rfl) (by kernel_rfl) (by kernel_rfl) (fun _ _ _ h => h) (Or.inr ⟨by rfl, rfl⟩) (Below.refl _ _) ?_
            (try simp only [List.getElem_toArray, List.getElem_cons_succ, List.getElem_cons_zero, Act.put, List.setIfInBounds_toArray, List.set_cons_zero, List.set_cons_succ])
            refine wpAnyE_take (i := 20) (oi := _) (v := undef) rfl (by kernel_rfl) (by kernel_rfl) (by kernel_rfl) (by kernel_rfl) (fun _ _ _ h => h) (Or.inr ⟨by rfl, rfl⟩) (Below.refl _ _) ?_
            (try simp only [List.getElem_toArray, List.getElem_cons_succ, List.getElem_cons_zero, Act.put, List.setIfInBounds_toArray, List.set_cons_zero, List.set_cons_succ])
            refine wpAnyE_take (i := 21) (oi := _) (v := undef) rfl (by kernel_rfl) (by kernel_rfl) (by kernel_rfl) (by kernel_rfl) (fun _ _ _ h => h) (Or.inr ⟨by rfl, rfl⟩) (Below.refl _ _) ?_
            (try simp only [List.getElem_toArray, List.getElem_cons_succ, List.getElem_cons_zero, Act.put, List.setIfInBounds_toArray, List.set_cons_zero, List.set_cons_succ])
            refine wpAnyE_take (i := 22) (oi := _) (v := undef) rfl (by kernel_rfl) (by kernel_rfl) (by kernel_rfl) (by kernel_rfl) (fun _ _ _ h => h) (Or.inr ⟨by rfl, rfl⟩) (Below.refl _ _) ?_
            (try simp only [List.getElem_toArray, List.getElem_cons_succ, List.getElem_cons_zero, Act.put, List.setIfInBounds_toArray, List.set_cons_zero, List.set_cons_succ])
            refine wpAnyE_take (i := 23) (oi := _) (v := undef) rfl (by kernel_rfl) (by kernel_rfl) (by kernel_rfl) (by kernel_rfl) (fun _ _ _ h => h) (Or.inr ⟨by rfl, rfl⟩) (Below.refl _ _) ?_
            (try simp only [List.getElem_toArray, List.getElem_cons_succ, List.getElem_cons_zero, Act.put, List.setIfInBounds_toArray, List.set_cons_zero, List.set_cons_succ])
            refine wpAnyE_take (i := 24) (oi := _) (v := undef) rfl (by kernel_rfl) (by kernel_rfl) (by kernel_rfl) (by kernel_rfl) (fun _ _ _ h => h) (Or.inr ⟨by rfl, rfl⟩) (Below.refl _ _) ?_
            (try simp only [List.getElem_toArray, List.getElem_cons_succ, List.getElem_cons_zero, Act.put, List.setIfInBounds_toArray, List.set_cons_zero, List.set_cons_succ])
            refine wpAnyE_take (i := 25) (oi := _) (v := undef) rfl (by kernel_rfl) (by kernel_rfl) (by kernel_rfl) (by kernel_rfl) (fun _ _ _ h => h) (Or.inr ⟨by rfl, rfl⟩) (Below.refl _ _) ?_
            (try simp only [List.getElem_toArray, List.getElem_cons_succ, List.getElem_cons_zero, Act.put, List.setIfInBounds_toArray, List.set_cons_zero, List.set_cons_succ])
            refine wpAnyE_take (i := 26) (oi := _) (v := .bool false) rfl (by kernel_rfl) (by kernel_rfl) (by kernel_rfl) (by kernel_rfl) (fun _ _ _ h => h) (Or.inl ⟨by rfl, ?_⟩) (Below.refl _ _) ?_
            · intro w' hSw
              (try simp only [List.getElem_toArray, List.getElem_cons_succ, List.getElem_cons_zero])
              go_simp
            (try simp only [List.getElem_toArray, List.getElem_cons_succ, List.getElem_cons_zero, Act.put, List.setIfInBounds_toArray, List.set_cons_zero, List.set_cons_succ])
            refine wpAnyE_take (i := 27) (oi := _) (v := .bool false) rfl (by kernel_rfl) (by kernel_rfl) (by kernel_rfl) (by kernel_rfl) (fun _ _ _ h => h) (Or.inl ⟨by rfl, ?_⟩) (Below.refl _ _) ?_
            · intro w' hSw
              (try simp only [List.getElem_toArray, List.getElem_cons_succ, List.getElem_cons_zero])
              go_simp
            (try simp only [List.getElem_toArray, List.getElem_cons_succ, List.getElem_cons_zero, Act.put, List.setIfInBounds_toArray, List.set_cons_zero, List.set_cons_succ])
            refine wpAnyE_done (by kernel_rfl) ?_ _
            obtain ⟨kH, kP, kR, hb⟩ := hHR2.out
            clear hHR2
            have p1 := (kH.cell va).trans (cnt_get (TT ++ row.take j) (by omega))
            have p2 := kH.free va
            have p3 : decide ((va : Int) < 0) = false := by simp
            have p5 := count_le (TT ++ row.take j) (va : Int)
            rw [List.length_append, List.length_take] at p5
            have p6 : IntKind.i64.wrap ((((TT ++ row.take j).count (va : Int) : Nat) : Int) + 1) = (((TT ++ row.take j).count (va : Int) : Nat) : Int) + 1 := IntWalk.i64_in _ (by omega)
            have hst := kH.stored va (.int .i64 ((((TT ++ row.take j).count (va : Int) : Nat) : Int) + 1))
            rw [cnt_set (TT ++ row.take j) (by omega), ← HTK.out] at hst
            have hlH := kH.lt
            have hlR := kR.lt
            have hsh := kP.other (p := ⟨gH, va, none⟩) (by dsimp only; omega) (.int .i64 ((((TT ++ row.take j).count (va : Int) : Nat) : Int) + 1))
            have hsr := kR.other (p := ⟨gH, va, none⟩) (by dsimp only; omega) (.int .i64 ((((TT ++ row.take j).count (va : Int) : Nat) : Int) + 1))
            have hsb := hb.setCell (p := ⟨gH, va, none⟩) (by dsimp only; omega) (.int .i64 ((((TT ++ row.take j).count (va : Int) : Nat) : Int) + 1))
            have HR := Lib.hid (show O2 w5 gH gP gR cur TT PP row (.int .i64 ((j + 1 : Nat) : Int)) (v3.setCell ⟨gH, va, none⟩ (.int .i64 ((((TT ++ row.take j).count (va : Int) : Nat) : Int) + 1))) from ⟨j + 1, by omega, rfl, hsb, hst, hsh, fun _ => hsr⟩)
            clear hst hsh hsb hsr kH kP kR hb HTK
            generalize hcn : (((TT ++ row.take j).count (va : Int) : Nat) : Int) = cn at *
            go_wp2_with fail
            go_roundw
            case rel => exact HR.out
            case measure => simp [intOf]; omega
          · have b0 : decide ((0 : Int) < j) = true := by simp; omega
            have b1 : decide ((j : Int) > 0) = true := by simp; omega
            have b2 : decide ((va : Int) ≤ vy) = false := by simp; omega
            have b3 : IntKind.i64.wrap ((j : Int) - 1) = (q : Int) := by rw [IntWalk.i64_in _ (by omega)]; omega
            have b4 : (q : Int) < row.length := by omega
            have cy : v3.cell? ⟨gR, q, none⟩ = some (.int .i64 (vy : Nat)) := by rw [hHR2.out.2.2.1.cell q]; exact HRC.out q _ hyq
            have HJ := Lib.hid (show 0 < j by omega)
            clear hyq hjq
            refine wpAnyE_take (i := 0) (oi := _) (v := .slice (some ⟨gR, 0, none⟩) row.length cr) rfl (by kernel_rfl) (by kernel_rfl) (by kernel_rfl) (by kernel_rfl) (fun _ _ _ h => h) (Or.inl ⟨by rfl, ?_⟩) (Below.refl _ _) ?_
            · intro w' hSw
              (try simp only [List.getElem_toArray, List.getElem_cons_zero])
              go_simp
            (try simp only [List.getElem_toArray, List.getElem_cons_zero, Act.put, List.setIfInBounds_toArray, List.set_cons_zero, List.set_cons_succ])
            refine wpAnyE_take (i := 1) (oi := _) (v := .int .i64 (j : Nat)) rfl (by kernel_rfl) (by kernel_rfl) (by kernel_rfl) (by kernel_rfl) (fun _ _ _ h => h) (Or.inl ⟨by rfl, ?_⟩) (Below.refl _ _) ?_
            · intro w' hSw
              (try simp only [List.getElem_toArray, List.getElem_cons_succ, List.getElem_cons_zero])
              go_simp
            (try simp only [List.getElem_toArray, List.getElem_cons_succ, List.getElem_cons_zero, Act.put, List.setIfInBounds_toArray, List.set_cons_zero, List.set_cons_succ])
            refine wpAnyE_take (i := 2) (oi := _) (v := .pointer (some ⟨gR, j, none⟩)) rfl (by kernel_rfl) (by kernel_rfl) (by kernel_rfl) (by kernel_rfl) (fun _ _ _ h => h) (Or.inl ⟨by rfl, ?_⟩) (Below.refl _ _) ?_
            · intro w' hSw
              (try simp only [List.getElem_toArray, List.getElem_cons_succ, List.getElem_cons_zero])
              go_simp
            (try simp only [List.getElem_toArray, List.getElem_cons_succ, List.getElem_cons_zero, Act.put, List.setIfInBounds_toArray, List.set_cons_zero, List.set_cons_succ])
            refine wpAnyE_take (i := 3) (oi := _) (v := .int .i64 (va : Nat)) rfl (by kernel_rfl) (by kernel_rfl) (by kernel_rfl) (by kernel_rfl) (fun _ _ _ h => h) (Or.inl ⟨by rfl, ?_⟩) (Below.refl _ _) ?_
            · intro w' hSw
              have s1 := cell_keep hSw cx
              (try simp at s1)
              (try simp only [List.getElem_toArray, List.getElem_cons_succ, List.getElem_cons_zero])
              go_simp
            (try simp only [List.getElem_toArray, List.getElem_cons_succ, List.getElem_cons_zero, Act.put, List.setIfInBounds_toArray, List.set_cons_zero, List.set_cons_succ])
            refine wpAnyE_take (i := 4) (oi := _) (v := .bool false) rfl (by kernel_rfl) (by kernel_rfl) (by kernel_rfl) (by kernel_rfl) (fun _ _ _ h => h) (Or.inl ⟨by rfl, ?_⟩) (Below.refl _ _) ?_
            · intro w' hSw
              (try simp only [List.getElem_toArray, List.getElem_cons_succ, List.getElem_cons_zero])
              go_simp
            (try simp only [List.getElem_toArray, List.getElem_cons_succ, List.getElem_cons_zero, Act.put, List.setIfInBounds_toArray, List.set_cons_zero, List.set_cons_succ])
            refine wpAnyE_take (i := 5) (oi := _) (v := .bool false) rfl (by kernel_rfl) (by kernel_rfl) (by kernel_rfl) (by kernel_rfl) (fun _ _ _ h => h) (Or.inl ⟨by rfl, ?_⟩) (Below.refl _ _) ?_
            · intro w' hSw
              (try simp only [List.getElem_toArray, List.getElem_cons_succ, List.getElem_cons_zero])
              go_simp
            (try simp only [List.getElem_toArray, List.getElem_cons_succ, List.getElem_cons_zero, Act.put, List.setIfInBounds_toArray, List.set_cons_zero, List.set_cons_succ])
            refine wpAnyE_take (i := 6) (oi := _) (v := .slice (some ⟨gR, 0, none⟩) row.length cr) rfl (by kernel_rfl) (by kernel_rfl) (by kernel_rfl) (by kernel_rfl) (fun _ _ _ h => h) (Or.inl ⟨by rfl, ?_⟩) (Below.refl _ _) ?_
            · intro w' hSw
              (try simp only [List.getElem_toArray, List.getElem_cons_succ, List.getElem_cons_zero])
              go_simp
            (try simp only [List.getElem_toArray, List.getElem_cons_succ, List.getElem_cons_zero, Act.put, List.setIfInBounds_toArray, List.set_cons_zero, List.set_cons_succ])
            refine wpAnyE_take (i := 7) (oi := _) (v := .int .i64 (j : Nat)) rfl (by kernel_rfl) (by kernel_rfl) (by kernel_rfl) (by kernel_rfl) (fun _ _ _ h => h) (Or.inl ⟨by rfl, ?_⟩) (Below.refl _ _) ?_
            · intro w' hSw
              (try simp only [List.getElem_toArray, List.getElem_cons_succ, List.getElem_cons_zero])
              go_simp
            (try simp only [List.getElem_toArray, List.getElem_cons_succ, List.getElem_cons_zero, Act.put, List.setIfInBounds_toArray, List.set_cons_zero, List.set_cons_succ])
            refine wpAnyE_take (i := 8) (oi := _) (v := .pointer (some ⟨gR, j, none⟩)) rfl (by kernel_rfl) (by kernel_rfl) (by kernel_rfl) (by kernel_rfl) (fun _ _ _ h => h) (Or.inl ⟨by rfl, ?_⟩) (Below.refl _ _) ?_
            · intro w' hSw
              (try simp only [List.getElem_toArray, List.getElem_cons_succ, List.getElem_cons_zero])
              go_simp
            (try simp only [List.getElem_toArray, List.getElem_cons_succ, List.getElem_cons_zero, Act.put, List.setIfInBounds_toArray, List.set_cons_zero, List.set_cons_succ])
            refine wpAnyE_take (i := 9) (oi := _) (v := .int .i64 (va : Nat)) rfl (by kernel_rfl) (by kernel_rfl) (by kernel_rfl) (by kernel_rfl) (fun _ _ _ h => h) (Or.inl ⟨by rfl, ?_⟩) (Below.refl _ _) ?_
            · intro w' hSw
              have s1 := cell_keep hSw cx
              (try simp at s1)
              (try simp only [List.getElem_toArray, List.getElem_cons_succ, List.getElem_cons_zero])
              go_simp
            (try simp only [List.getElem_toArray, List.getElem_cons_succ, List.getElem_cons_zero, Act.put, List.setIfInBounds_toArray, List.set_cons_zero, List.set_cons_succ])
            refine wpAnyE_take (i := 10) (oi := _) (v := .bool false) rfl (by kernel_rfl) (by kernel_rfl) (by kernel_rfl) (by kernel_rfl) (fun _ _ _ h => h) (Or.inl ⟨by rfl, ?_⟩) (Below.refl _ _) ?_
            · intro w' hSw
              (try simp only [List.getElem_toArray, List.getElem_cons_succ, List.getElem_cons_zero])
              go_simp
            (try simp only [List.getElem_toArray, List.getElem_cons_succ, List.getElem_cons_zero, Act.put, List.setIfInBounds_toArray, List.set_cons_zero, List.set_cons_succ])
            refine wpAnyE_take (i := 11) (oi := _) (v := .bool false) rfl (by kernel_rfl) (by kernel_rfl) (by kernel_rfl) (by kernel_rfl) (fun _ _ _ h => h) (Or.inl ⟨by rfl, ?_⟩) (Below.refl _ _) ?_
            · intro w' hSw
              (try simp only [List.getElem_toArray, List.getElem_cons_succ, List.getElem_cons_zero])
              go_simp
            (try simp only [List.getElem_toArray, List.getElem_cons_succ, List.getElem_cons_zero, Act.put, List.setIfInBounds_toArray, List.set_cons_zero, List.set_cons_succ])
            refine wpAnyE_take (i := 12) (oi := _) (v := .bool false) rfl (by kernel_rfl) (by kernel_rfl) (by kernel_rfl) (by kernel_rfl) (fun _ _ _ h => h) (Or.inl ⟨by rfl, ?_⟩) (Below.refl _ _) ?_
            · intro w' hSw
              (try simp only [List.getElem_toArray, List.getElem_cons_succ, List.getElem_cons_zero])
              go_simp
            (try simp only [List.getElem_toArray, List.getElem_cons_succ, List.getElem_cons_zero, Act.put, List.setIfInBounds_toArray, List.set_cons_zero, List.set_cons_succ])
            refine wpAnyE_take (i := 13) (oi := _) (v := .int .i64 (j : Nat)) rfl (by kernel_rfl) (by kernel_rfl) (by kernel_rfl) (by kernel_rfl) (fun _ _ _ h => h) (Or.inl ⟨by rfl, ?_⟩) (Below.refl _ _) ?_
            · intro w' hSw
              (try simp only [List.getElem_toArray, List.getElem_cons_succ, List.getElem_cons_zero])
              go_simp
            (try simp only [List.getElem_toArray, List.getElem_cons_succ, List.getElem_cons_zero, Act.put, List.setIfInBounds_toArray, List.set_cons_zero, List.set_cons_succ])
            refine wpAnyE_take (i := 14) (oi := _) (v := .bool true) rfl (by kernel_rfl) (by kernel_rfl) (by kernel_rfl) (by kernel_rfl) (fun _ _ _ h => h) (Or.inl ⟨by rfl, ?_⟩) (Below.refl _ _) ?_
            · intro w' hSw
              (try simp only [List.getElem_toArray, List.getElem_cons_succ, List.getElem_cons_zero])
              go_simp
              (try exact HJ.out)
            (try simp only [List.getElem_toArray, List.getElem_cons_succ, List.getElem_cons_zero, Act.put, List.setIfInBounds_toArray, List.set_cons_zero, List.set_cons_succ])
            refine wpAnyE_take (i := 15) (oi := _) (v := .bool true) rfl (by kernel_rfl) (by kernel_rfl) (by kernel_rfl) (by kernel_rfl) (fun _ _ _ h => h) (Or.inl ⟨by rfl, ?_⟩) (Below.refl _ _) ?_
            · intro w' hSw
              (try simp only [List.getElem_toArray, List.getElem_cons_succ, List.getElem_cons_zero])
              go_simp
            (try simp only [List.getElem_toArray, List.getElem_cons_succ, List.getElem_cons_zero, Act.put, List.setIfInBounds_toArray, List.set_cons_zero, List.set_cons_succ])
            refine wpAnyE_take (i := 16) (oi := _) (v := .slice (some ⟨gR, 0, none⟩) row.length cr) rfl (by kernel_rfl) (by kernel_rfl) (by kernel_rfl) (by kernel_rfl) (fun _ _ _ h => h) (Or.inl ⟨by rfl, ?_⟩) (Below.refl _ _) ?_
            · intro w' hSw
              (try simp only [List.getElem_toArray, List.getElem_cons_succ, List.getElem_cons_zero])
              go_simp
            (try simp only [List.getElem_toArray, List.getElem_cons_succ, List.getElem_cons_zero, Act.put, List.setIfInBounds_toArray, List.set_cons_zero, List.set_cons_succ])
            refine wpAnyE_take (i := 17) (oi := _) (v := .int .i64 (j : Nat)) rfl (by kernel_rfl) (by kernel_rfl) (by kernel_rfl) (by kernel_rfl) (fun _ _ _ h => h) (Or.inl ⟨by rfl, ?_⟩) (Below.refl _ _) ?_
            · intro w' hSw
              (try simp only [List.getElem_toArray, List.getElem_cons_succ, List.getElem_cons_zero])
              go_simp
            (try simp only [List.getElem_toArray, List.getElem_cons_succ, List.getElem_cons_zero, Act.put, List.setIfInBounds_toArray, List.set_cons_zero, List.set_cons_succ])
            refine wpAnyE_take (i := 18) (oi := _) (v := .pointer (some ⟨gR, j, none⟩)) rfl (by kernel_rfl) (by kernel_rfl) (by kernel_rfl) (by kernel_rfl) (fun _ _ _ h => h) (Or.inl ⟨by rfl, ?_⟩) (Below.refl _ _) ?_
            · intro w' hSw
              (try simp only [List.getElem_toArray, List.getElem_cons_succ, List.getElem_cons_zero])
              go_simp
            (try simp only [List.getElem_toArray, List.getElem_cons_succ, List.getElem_cons_zero, Act.put, List.setIfInBounds_toArray, List.set_cons_zero, List.set_cons_succ])
            refine wpAnyE_take (i := 19) (oi := _) (v := .int .i64 (va : Nat)) rfl (by kernel_rfl) (by kernel_rfl) (by kernel_rfl) (by kernel_rfl) (fun _ _ _ h => h) (Or.inl ⟨by rfl, ?_⟩) (Below.refl _ _) ?_
            · intro w' hSw
              have s1 := cell_keep hSw cx
              (try simp at s1)
              (try simp only [List.getElem_toArray, List.getElem_cons_succ, List.getElem_cons_zero])
              go_simp
            (try simp only [List.getElem_toArray, List.getElem_cons_succ, List.getElem_cons_zero, Act.put, List.setIfInBounds_toArray, List.set_cons_zero, List.set_cons_succ])
            refine wpAnyE_take (i := 20) (oi := _) (v := .slice (some ⟨gR, 0, none⟩) row.length cr) rfl (by kernel_rfl) (by kernel_rfl) (by kernel_rfl) (by kernel_rfl) (fun _ _ _ h => h) (Or.inl ⟨by rfl, ?_⟩) (Below.refl _ _) ?_
            · intro w' hSw
              (try simp only [List.getElem_toArray, List.getElem_cons_succ, List.getElem_cons_zero])
              go_simp
            (try simp only [List.getElem_toArray, List.getElem_cons_succ, List.getElem_cons_zero, Act.put, List.setIfInBounds_toArray, List.set_cons_zero, List.set_cons_succ])
            refine wpAnyE_take (i := 21) (oi := _) (v := .int .i64 (j : Nat)) rfl (by kernel_rfl) (by kernel_rfl) (by kernel_rfl) (by kernel_rfl) (fun _ _ _ h => h) (Or.inl ⟨by rfl, ?_⟩) (Below.refl _ _) ?_
            · intro w' hSw
              (try simp only [List.getElem_toArray, List.getElem_cons_succ, List.getElem_cons_zero])
              go_simp
            (try simp only [List.getElem_toArray, List.getElem_cons_succ, List.getElem_cons_zero, Act.put, List.setIfInBounds_toArray, List.set_cons_zero, List.set_cons_succ])
            refine wpAnyE_take (i := 22) (oi := _) (v := .int .i64 (q : Nat)) rfl (by kernel_rfl) (by kernel_rfl) (by kernel_rfl) (by kernel_rfl) (fun _ _ _ h => h) (Or.inl ⟨by rfl, ?_⟩) (Below.refl _ _) ?_
            · intro w' hSw
              (try simp only [List.getElem_toArray, List.getElem_cons_succ, List.getElem_cons_zero])
              go_simp
            (try simp only [List.getElem_toArray, List.getElem_cons_succ, List.getElem_cons_zero, Act.put, List.setIfInBounds_toArray, List.set_cons_zero, List.set_cons_succ])
            refine wpAnyE_take (i := 23) (oi := _) (v := .pointer (some ⟨gR, q, none⟩)) rfl (by kernel_rfl) (by kernel_rfl) (by kernel_rfl) (by kernel_rfl) (fun _ _ _ h => h) (Or.inl ⟨by rfl, ?_⟩) (Below.refl _ _) ?_
            · intro w' hSw
              (try simp only [List.getElem_toArray, List.getElem_cons_succ, List.getElem_cons_zero])
              go_simp
            (try simp only [List.getElem_toArray, List.getElem_cons_succ, List.getElem_cons_zero, Act.put, List.setIfInBounds_toArray, List.set_cons_zero, List.set_cons_succ])
            refine wpAnyE_take (i := 24) (oi := _) (v := .int .i64 (vy : Nat)) rfl (by kernel_rfl) (by kernel_rfl) (by kernel_rfl) (by kernel_rfl) (fun _ _ _ h => h) (Or.inl ⟨by rfl, ?_⟩) (Below.refl _ _) ?_
            · intro w' hSw
              have s1 := cell_keep hSw cy
              (try simp at s1)
              (try simp only [List.getElem_toArray, List.getElem_cons_succ, List.getElem_cons_zero])
              go_simp
            (try simp only [List.getElem_toArray, List.getElem_cons_succ, List.getElem_cons_zero, Act.put, List.setIfInBounds_toArray, List.set_cons_zero, List.set_cons_succ])
            refine wpAnyE_take (i := 25) (oi := _) (v := .bool false) rfl (by kernel_rfl) (by kernel_rfl) (by kernel_rfl) (by kernel_rfl) (fun _ _ _ h => h) (Or.inl ⟨by rfl, ?_⟩) (Below.refl _ _) ?_
            · intro w' hSw
              (try simp only [List.getElem_toArray, List.getElem_cons_succ, List.getElem_cons_zero])
              go_simp
            (try simp only [List.getElem_toArray, List.getElem_cons_succ, List.getElem_cons_zero, Act.put, List.setIfInBounds_toArray, List.set_cons_zero, List.set_cons_succ])
            refine wpAnyE_take (i := 26) (oi := _) (v := .bool false) rfl (by kernel_rfl) (by kernel_rfl) (by kernel_rfl) (by kernel_rfl) (fun _ _ _ h => h) (Or.inl ⟨by rfl, ?_⟩) (Below.refl _ _) ?_
            · intro w' hSw
              (try simp only [List.getElem_toArray, List.getElem_cons_succ, List.getElem_cons_zero])
              go_simp
            (try simp only [List.getElem_toArray, List.getElem_cons_succ, List.getElem_cons_zero, Act.put, List.setIfInBounds_toArray, List.set_cons_zero, List.set_cons_succ])
            refine wpAnyE_take (i := 27) (oi := _) (v := .bool false) rfl (by kernel_rfl) (by kernel_rfl) (by kernel_rfl) (by kernel_rfl) (fun _ _ _ h => h) (Or.inl ⟨by rfl, ?_⟩) (Below.refl _ _) ?_
            · intro w' hSw
              (try simp only [List.getElem_toArray, List.getElem_cons_succ, List.getElem_cons_zero])
              go_simp
            (try simp only [List.getElem_toArray, List.getElem_cons_succ, List.getElem_cons_zero, Act.put, List.setIfInBounds_toArray, List.set_cons_zero, List.set_cons_succ])
            refine wpAnyE_done (by kernel_rfl) ?_ _
            obtain ⟨kH, kP, kR, hb⟩ := hHR2.out
            clear hHR2
            have p1 := (kH.cell va).trans (cnt_get (TT ++ row.take j) (by omega))
            have p2 := kH.free va
            have p3 : decide ((va : Int) < 0) = false := by simp
            have p5 := count_le (TT ++ row.take j) (va : Int)
            rw [List.length_append, List.length_take] at p5
            have p6 : IntKind.i64.wrap ((((TT ++ row.take j).count (va : Int) : Nat) : Int) + 1) = (((TT ++ row.take j).count (va : Int) : Nat) : Int) + 1 := IntWalk.i64_in _ (by omega)
            have hst := kH.stored va (.int .i64 ((((TT ++ row.take j).count (va : Int) : Nat) : Int) + 1))
            rw [cnt_set (TT ++ row.take j) (by omega), ← HTK.out] at hst
            have hlH := kH.lt
            have hlR := kR.lt
            have hsh := kP.other (p := ⟨gH, va, none⟩) (by dsimp only; omega) (.int .i64 ((((TT ++ row.take j).count (va : Int) : Nat) : Int) + 1))
            have hsr := kR.other (p := ⟨gH, va, none⟩) (by dsimp only; omega) (.int .i64 ((((TT ++ row.take j).count (va : Int) : Nat) : Int) + 1))
            have hsb := hb.setCell (p := ⟨gH, va, none⟩) (by dsimp only; omega) (.int .i64 ((((TT ++ row.take j).count (va : Int) : Nat) : Int) + 1))
            have HR := Lib.hid (show O2 w5 gH gP gR cur TT PP row (.int .i64 ((j + 1 : Nat) : Int)) (v3.setCell ⟨gH, va, none⟩ (.int .i64 ((((TT ++ row.take j).count (va : Int) : Nat) : Int) + 1))) from ⟨j + 1, by omega, rfl, hsb, hst, hsh, fun _ => hsr⟩)
            clear hst hsh hsb hsr kH kP kR hb HTK
            generalize hcn : (((TT ++ row.take j).count (va : Int) : Nat) : Int) = cn at *
            go_wp2_with fail
            go_roundw
            case rel => exact HR.out
            case measure => simp [intOf]; omega
        · obtain rfl : j = row.length := by omega
          have g1 : decide ((row.length : Int) < row.length) = false := by simp
          rw [List.take_length] at kH
          have hcount : ∀ k : Nat, ((PP.count (k : Int) : Nat) : Int) = (((TT ++ row).count (k : Int) : Nat) : Int) := fun k => by rw [HPM.out.1.count_eq]
          have HK := Lib.hid (And.intro hb (And.intro kH kP))
          have HCT := Lib.hid hcount
          clear hb kH kP hkR hcount
          go_wp2_with fail
          go_loopw [12] (fun v12 wr => O3 w5 gH gP (TT ++ row) PP v12 wr) (fun v12 _ => 20 - (intOf v12).toNat)
          case atStart => exact ⟨0, by omega, rfl, HK.out⟩
          case round =>
            clear HK
            obtain ⟨k, hk, rfl, hb, kH, kP⟩ := hrel
            by_cases hlt : k < 20
            · have g2 : (k : Int) < 20 := by omega
              have cH := (kH.cell k).trans (cnt_get (TT ++ row) hlt)
              have cP := (kP.cell k).trans (cnt_get PP hlt)
              rw [HCT.out k] at cP
              have HK := Lib.hid (And.intro hb (And.intro kH kP))
              have HC := Lib.hid (And.intro cH cP)
              clear hb kH kP cH cP
              go_upto_region 29 with fail
              refine wp_region_E (S := fun w' => Below wr.drew.heap.size wr.drew w') (E := fun _ => false) (by kernel_rfl) ?_
              have HK2 := Lib.hid (And.intro HK.out.1.drew (And.intro HK.out.2.1.drew HK.out.2.2.drew))
              have cH : wr.drew.cell? ⟨gH, k, none⟩ = _ := HC.out.1
              have cP : wr.drew.cell? ⟨gP, k, none⟩ = _ := HC.out.2
              clear HK HC
              generalize wr.drew = v3 at *
              generalize (((TT ++ row).count (k : Int) : Nat) : Int) = cn at *
              refine wpAnyE_take (i := 0) (oi := _) (v := .slice (some ⟨gH, 0, none⟩) 20 20) rfl (by kernel_rfl) (by kernel_rfl) (by kernel_rfl) (by kernel_rfl) (fun _ _ _ h => h) (Or.inl ⟨by rfl, ?_⟩) (Below.refl _ _) ?_
              · intro w' hSw
                (try simp only [List.getElem_toArray, List.getElem_cons_zero])
                go_simp
              (try simp only [List.getElem_toArray, List.getElem_cons_zero, Act.put, List.setIfInBounds_toArray, List.set_cons_zero, List.set_cons_succ])
              refine wpAnyE_take (i := 1) (oi := _) (v := .int .i64 (k : Nat)) rfl (by kernel_rfl) (by kernel_rfl) (by kernel_rfl) (by kernel_rfl) (fun _ _ _ h => h) (Or.inl ⟨by rfl, ?_⟩) (Below.refl _ _) ?_
              · intro w' hSw
                (try simp only [List.getElem_toArray, List.getElem_cons_succ, List.getElem_cons_zero])
                go_simp
              (try simp only [List.getElem_toArray, List.getElem_cons_succ, List.getElem_cons_zero, Act.put, List.setIfInBounds_toArray, List.set_cons_zero, List.set_cons_succ])
              refine wpAnyE_take (i := 2) (oi := _) (v := .pointer (some ⟨gH, k, none⟩)) rfl (by kernel_rfl) (by kernel_rfl) (by kernel_rfl) (by kernel_rfl) (fun _ _ _ h => h) (Or.inl ⟨by rfl, ?_⟩) (Below.refl _ _) ?_
              · intro w' hSw
                (try simp only [List.getElem_toArray, List.getElem_cons_succ, List.getElem_cons_zero])
                go_simp
              (try simp only [List.getElem_toArray, List.getElem_cons_succ, List.getElem_cons_zero, Act.put, List.setIfInBounds_toArray, List.set_cons_zero, List.set_cons_succ])
              refine wpAnyE_take (i := 3) (oi := _) (v := .int .i64 cn) rfl (by kernel_rfl) (by kernel_rfl) (by kernel_rfl) (by kernel_rfl) (fun _ _ _ h => h) (Or.inl ⟨by rfl, ?_⟩) (Below.refl _ _) ?_
              · intro w' hSw
                have s1 := cell_keep hSw cH
                (try simp at s1)
                (try simp only [List.getElem_toArray, List.getElem_cons_succ, List.getElem_cons_zero])
                go_simp
              (try simp only [List.getElem_toArray, List.getElem_cons_succ, List.getElem_cons_zero, Act.put, List.setIfInBounds_toArray, List.set_cons_zero, List.set_cons_succ])
              refine wpAnyE_take (i := 4) (oi := _) (v := .slice (some ⟨gP, 0, none⟩) 20 20) rfl (by kernel_rfl) (by kernel_rfl) (by kernel_rfl) (by kernel_rfl) (fun _ _ _ h => h) (Or.inl ⟨by rfl, ?_⟩) (Below.refl _ _) ?_
              · intro w' hSw
                (try simp only [List.getElem_toArray, List.getElem_cons_succ, List.getElem_cons_zero])
                go_simp
              (try simp only [List.getElem_toArray, List.getElem_cons_succ, List.getElem_cons_zero, Act.put, List.setIfInBounds_toArray, List.set_cons_zero, List.set_cons_succ])
              refine wpAnyE_take (i := 5) (oi := _) (v := .int .i64 (k : Nat)) rfl (by kernel_rfl) (by kernel_rfl) (by kernel_rfl) (by kernel_rfl) (fun _ _ _ h => h) (Or.inl ⟨by rfl, ?_⟩) (Below.refl _ _) ?_
              · intro w' hSw
                (try simp only [List.getElem_toArray, List.getElem_cons_succ, List.getElem_cons_zero])
                go_simp
              (try simp only [List.getElem_toArray, List.getElem_cons_succ, List.getElem_cons_zero, Act.put, List.setIfInBounds_toArray, List.set_cons_zero, List.set_cons_succ])
              refine wpAnyE_take (i := 6) (oi := _) (v := .pointer (some ⟨gP, k, none⟩)) rfl (by kernel_rfl) (by kernel_rfl) (by kernel_rfl) (by kernel_rfl) (fun _ _ _ h => h) (Or.inl ⟨by rfl, ?_⟩) (Below.refl _ _) ?_
              · intro w' hSw
                (try simp only [List.getElem_toArray, List.getElem_cons_succ, List.getElem_cons_zero])
                go_simp
              (try simp only [List.getElem_toArray, List.getElem_cons_succ, List.getElem_cons_zero, Act.put, List.setIfInBounds_toArray, List.set_cons_zero, List.set_cons_succ])
              refine wpAnyE_take (i := 7) (oi := _) (v := .int .i64 cn) rfl (by kernel_rfl) (by kernel_rfl) (by kernel_rfl) (by kernel_rfl) (fun _ _ _ h => h) (Or.inl ⟨by rfl, ?_⟩) (Below.refl _ _) ?_
              · intro w' hSw
                have s1 := cell_keep hSw cP
                (try simp at s1)
                (try simp only [List.getElem_toArray, List.getElem_cons_succ, List.getElem_cons_zero])
                go_simp
              (try simp only [List.getElem_toArray, List.getElem_cons_succ, List.getElem_cons_zero, Act.put, List.setIfInBounds_toArray, List.set_cons_zero, List.set_cons_succ])
              refine wpAnyE_take (i := 8) (oi := _) (v := .bool false) rfl (by kernel_rfl) (by kernel_rfl) (by kernel_rfl) (by kernel_rfl) (fun _ _ _ h => h) (Or.inl ⟨by rfl, ?_⟩) (Below.refl _ _) ?_
              · intro w' hSw
                (try simp only [List.getElem_toArray, List.getElem_cons_succ, List.getElem_cons_zero])
                go_simp
              (try simp only [List.getElem_toArray, List.getElem_cons_succ, List.getElem_cons_zero, Act.put, List.setIfInBounds_toArray, List.set_cons_zero, List.set_cons_succ])
              refine wpAnyE_done (by kernel_rfl) ?_ _
              go_wp2_with fail
              go_roundw
              case rel => exact ⟨k + 1, by omega, by go_num, HK2.out⟩
              case measure => simp [intOf]; omega
            · obtain rfl : k = 20 := by omega
              have hsee := HSEE.out.below hb
              have s27 := hsee.c27
              have lt := hsee.lt
              rw [hbad] at s27
              clear hsee kH kP
              go_wp2_with fail
              go_ret
              exact ⟨rfl, below_tr hbl hb⟩
end Go.Proofs.Ytdjglkpcdhkodaa
