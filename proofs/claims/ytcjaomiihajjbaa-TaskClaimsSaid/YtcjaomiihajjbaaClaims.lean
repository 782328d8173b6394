/- TaskClaims. Printed by claims_gen.py. -/
import Derived.Test.YtcjaomiihajjbaaClaimL
import Derived.Test.YtcjaomiihajjbaaClaimS
import Derived.Test.YtcjaomiihajjbaaClaimT
namespace Go.Proofs.Ytcjaomiihajjbaa
open Go.RowKit
set_option linter.unusedVariables false
attribute [local go_sem ↓] Go.wp_at_zero Go.wp_at_succ

def InRelC (ws : World) (L : List Nat) (v10 v11 : Value) (wr : World) : Prop :=
  ∃ i : Nat, i ≤ L.length ∧ i ≤ 7 ∧ v11 = .int .i64 i ∧ Below ws.heap.size ws wr ∧ wr.ownsRow ws.heap.size 30 4 v10 i (opCells (cls (L.take i)))
def OutRelC (w0 : World) (b4 b8 : Nat) (cs4 : Array Value) (Ls : List (List Nat)) (T : Option Addr) (m d : Nat) (v9 : Value) (wr : World) : Prop :=
  ∃ k : Nat, k ≤ 3 ∧ v9 = .int .i64 k ∧ Below w0.heap.size w0 wr ∧ Bk wr b4 56 cs4 ∧ ∃ A c' rows, WantsAt wr w0.heap.size b8 6 T m d ((Ls.take k).map fun L => cls (L.take 7)) A c' rows
theorem ints9 (t : Nat) (ht : t < 9) : (ints (List.replicate 9 0)).toArray[t]? = some (.int .i64 0) := by
  have h9 : t = 0 ∨ t = 1 ∨ t = 2 ∨ t = 3 ∨ t = 4 ∨ t = 5 ∨ t = 6 ∨ t = 7 ∨ t = 8 := by omega
  rcases h9 with rfl | rfl | rfl | rfl | rfl | rfl | rfl | rfl | rfl <;> rfl
theorem bools9 (t : Nat) (ht : t < 9) : (boolZ 9)[t]? = some (.bool false) := by
  have h9 : t = 0 ∨ t = 1 ∨ t = 2 ∨ t = 3 ∨ t = 4 ∨ t = 5 ∨ t = 6 ∨ t = 7 ∨ t = 8 := by omega
  rcases h9 with rfl | rfl | rfl | rfl | rfl | rfl | rfl | rfl | rfl <;> rfl
def ReadyRel (w0 : World) (b8 bL b14 : Nat) (pc : Array Value) (l : Ly) (n5 : Nat) (v15 : Value) (wr : World) : Prop :=
  ∃ i : Nat, i ≤ n5 ∧ v15 = .int .i64 (2 + (i : Int)) ∧ Below w0.heap.size w0 wr ∧ Bk wr b8 27 pc ∧ Bk wr bL 34 (lyC l) ∧ ∃ g cap, Bk wr b14 39 #[.slice (some ⟨g, 0, none⟩) (readyM l i).length cap] ∧ OwnInts wr 0 (.slice (some ⟨g, 0, none⟩) (readyM l i).length cap) (readyM l i)
set_option maxRecDepth 1000000 in
set_option maxHeartbeats 16000000 in
theorem claims_any (tm : Int) (A0 A1 A2 : Option Addr) (n0 n1 n2 c0 c1 c2 : Nat) (L0 L1 L2 : List Nat) (T : Option Addr) (m d : Nat) (turns : List Nat) (w : World) (t0 : 0 ≤ tm) (t1 : tm < 256) (h0 : L0.length = n0) (h1 : L1.length = n1) (h2 : L2.length = n2)
    (s0 : SlU8 w w.heap.size A0 L0) (s1 : SlU8 w w.heap.size A1 L1) (s2 : SlU8 w w.heap.size A2 L2) (hm : turns.length = m) (hT : SlU8 w w.heap.size T turns) :
    Calls Try.prog 4 #[.int .u8 tm, .agg #[.slice A0 n0 c0, .slice A1 n1 c1, .slice A2 n2 c2], .slice T m d] w (BoolBelow true w) := by
  have HT := Lib.hid hT
  have HM := Lib.hid hm
  have hrow : ∀ k, k < 3 → ∃ (A : Option Addr) (n cc : Nat) (L : List Nat), #[Value.slice A0 n0 c0, .slice A1 n1 c1, .slice A2 n2 c2][k]? = some (.slice A n cc) ∧ L.length = n ∧ SlU8 w w.heap.size A L ∧ [L0, L1, L2][k]? = some L := by
    intro k hk
    have hk3 : k = 0 ∨ k = 1 ∨ k = 2 := by omega
    rcases hk3 with rfl | rfl | rfl
    · exact ⟨A0, n0, c0, L0, rfl, h0, s0, rfl⟩
    · exact ⟨A1, n1, c1, L1, rfl, h1, s1, rfl⟩
    · exact ⟨A2, n2, c2, L2, rfl, h2, s2, rfl⟩
  have HROW := Lib.hid hrow
  clear hT hm h0 h1 h2 s0 s1 s2 hrow
  have k4 := Bk.made w 56 #[.slice A0 n0 c0, .slice A1 n1 c1, .slice A2 n2 c2]
  have hbl := below_al (Below.refl w.heap.size w) (.cells #[.slice A0 n0 c0, .slice A1 n1 c1, .slice A2 n2 c2] 56)
  go_enter Try.func4, Try.ntmps4
  go_wp2_with fail
  (with_reducible refine (awake_any _).mono ?_)
  rintro e w1 ⟨rfl, hb⟩
  replace k4 := k4.keep hb
  replace hbl := below_tr hbl hb
  clear hb
  by_cases hm2 : 200 < m
  · have g1 : decide ((200 : Int) < m) = true := by simp; omega
    go_wp2
    go_ret
    exact ⟨rfl, hbl⟩
  have g1 : decide ((200 : Int) < m) = false := by simp; omega
  obtain ⟨i0, hi0, hz0, hz1, hz2⟩ := info_parts op_info
  obtain ⟨j0, hj0, hy0, hy1, hy2⟩ := info_parts ops_info
  go_wp2_with fail
  have kP := Bk.made w1 27 #[.int .u8 6, .slice none 0 0, .slice T m d]
  obtain ⟨cs4, hcs4⟩ : ∃ c, #[Value.slice A0 n0 c0, .slice A1 n1 c1, .slice A2 n2 c2] = c := ⟨_, rfl⟩
  obtain ⟨Ls, hLs⟩ : ∃ l, [L0, L1, L2] = l := ⟨_, rfl⟩
  rw [hcs4] at k4 HROW
  rw [hLs] at HROW
  have hLl : Ls.length = 3 := by rw [← hLs]; rfl
  have hrel0 : OutRelC w w.heap.size w1.heap.size cs4 Ls T m d (.int .i64 0) (w1.alloc (.cells #[.int .u8 6, .slice none 0 0, .slice T m d] 27)) :=
    ⟨0, by omega, rfl, below_al hbl _, k4.alloc _, none, 0, [], ⟨kP, World.ownsRow_nil _ _ _ _, fun j ops hj => by simp at hj⟩⟩
  have zb : w.heap.size < w1.heap.size := k4.lt
  have HR := Lib.hid hrel0
  have HLL := Lib.hid hLl
  clear hrel0 k4 kP hbl g1 hcs4 hLs hLl
  generalize w1.alloc (.cells #[.int .u8 6, .slice none 0 0, .slice T m d] 27) = w2 at *
  generalize w1.heap.size = b8 at *
  go_loopw [9] (fun v9 wr => OutRelC w w.heap.size b8 cs4 Ls T m d v9 wr) (fun v9 _ => 3 - (intOf v9).toNat)
  case atStart => exact HR.out
  case round =>
    clear HR
    obtain ⟨k, hk, rfl, hbl, k4, A, c', rows, hwa⟩ := hrel
    by_cases hlt : k < 3
    · obtain ⟨AL, nL, cL, L, e1, e2, e3, e4⟩ := HROW.out k hlt
      have hx := (k4.cell k).trans e1
      have HWA := Lib.hid hwa
      have i1 : (k : Int) < 3 := by omega
      have z4 := k4.lt
      have HL := Lib.hid (And.intro e2 (And.intro e3 e4))
      clear hwa e1 e2 e3 e4
      obtain ⟨ws, hws⟩ : ∃ ws, ws = wr := ⟨_, rfl⟩
      subst hws
      obtain ⟨wk, hwk⟩ : ∃ l, ((Ls.take k).map fun L => cls (L.take 7)) = l := ⟨_, rfl⟩
      rw [hwk] at HWA
      have hlk : wk.length = k := by rw [← hwk, List.length_map, List.length_take, HLL.out]; omega
      have HLK := Lib.hid hlk
      have HWK : Hid (((Ls.take (k + 1)).map fun L => cls (L.take 7)) = wk ++ [cls (L.take 7)]) := Lib.hid (by
        rw [List.take_add_one, HL.out.2.2, List.map_append, hwk]
        rfl)
      clear hwk hlk
      go_wp2_with fail
      go_loopw [10, 11] (fun v10 v11 wr' => InRelC ws L v10 v11 wr') (fun _ v11 _ => 7 - (intOf v11).toNat)
      case atStart => exact ⟨0, Nat.zero_le _, Nat.zero_le _, rfl, Below.refl _ _, World.ownsRow_nil _ _ _ _⟩
      case round =>
        obtain ⟨i, hi, hi7, rfl, hb', hown⟩ := hrel
        have hx' : wr.cell? ⟨w.heap.size, k, none⟩ = some (.slice AL nL cL) := (hb'.cell (p := ⟨w.heap.size, k, none⟩) z4).trans hx
        have z4' : w.heap.size < wr.heap.size := Nat.lt_of_lt_of_le z4 hb'.size
        rw [HL.out.1] at hi
        by_cases hlt2 : i < nL ∧ i < 7
        · obtain ⟨hlt2, hlt7⟩ := hlt2
          obtain ⟨bT, oT, rfl, hbT, hcT⟩ := (HL.out.2.1.below (below_tr hbl hb')) (by rw [HL.out.1]; omega)
          obtain ⟨x, hxx⟩ : ∃ x, L[i]? = some x := ⟨_, List.getElem?_eq_getElem (by rw [HL.out.1]; exact hlt2)⟩
          obtain ⟨q3, q4⟩ := hcT i x hxx
          have g2 : (i : Int) < nL := by omega
          have g3 : (i : Int) < 7 := by omega
          obtain ⟨n8, hn8⟩ : ∃ n, x % 8 = n := ⟨_, rfl⟩
          have hx8 : (x : Int) % 8 = (n8 : Nat) := by omega
          have hn8b : n8 < 8 := by omega
          have HTK : Hid (opCells (cls (L.take (i + 1))) = opCells (cls (L.take i)) ++ #[Value.int .i64 12, .int .i64 0, .int .i64 (1 + (n8 : Int)), .int .i64 0].toList) := Lib.hid (by
            rw [List.take_add_one, hxx]
            show opCells (cls (L.take i ++ [x])) = _
            rw [cls_snoc, opCells_snoc, hn8]
            rfl)
          clear hcT hxx hn8
          have hown1 := World.ownsRow.alloc hown (.cells #[.int .i64 12, .int .i64 0, .int .i64 (1 + (n8 : Int)), .int .i64 0] 30)
          have hb1 := below_al hb' (.cells #[.int .i64 12, .int .i64 0, .int .i64 (1 + (n8 : Int)), .int .i64 0] 30)
          go_wp2_with (at_builtin; go_must (refine wpList_append_own_at _ rfl (.tmp 58) (.tmp 69) _ rfl ws.heap.size 30 i0 _ 4 32 Try.underlying28 hi0 hz0 hz1 hz2 rfl (by omega) u10 i (opCells (cls (L.take i))) rfl hown1 ⟨wr.heap.size, 0, none⟩ 1 1 #[Value.int .i64 12, .int .i64 0, .int .i64 (1 + (n8 : Int)), .int .i64 0].toList rfl rfl (row_news #[.int .i64 12, .int .i64 0, .int .i64 (1 + (n8 : Int)), .int .i64 0]) (by simp [Value.oneCell']) (by simp only [maxLen]; omega) (by omega) (by simp; have := hb'.size; omega) ?_; intro v9 w5 hrow4 hgrow4 _ _))
          refine ⟨⟨i + 1, by rw [HL.out.1]; omega, by omega, by go_num, grown_below hb1 hown1 hgrow4 hb1.size (Nat.le_refl _), ?_⟩, by simp [intOf]; omega⟩
          rw [HTK.out]
          exact hrow4
        · obtain ⟨G, cg, rfl⟩ := own_slice hown
          have h7 : L.take i = L.take 7 ∧ (cls (L.take 7)).length = i := by
            have hl := HL.out.1
            by_cases hin : i < nL
            · obtain rfl : i = 7 := by omega
              exact ⟨rfl, by simp [cls]; omega⟩
            · obtain rfl : i = nL := by omega
              rw [List.take_of_length_le (by omega), List.take_of_length_le (by omega)]
              exact ⟨rfl, by simp [cls]; omega⟩
          rw [h7.1] at hown
          have HI7 := Lib.hid h7
          have hwa := HWA.out.keep hb'
          have hbl2 := below_tr hbl hb'
          have k4' := k4.keep hb'
          have q8 : wr.cell? ⟨b8, 1, none⟩ = some (.slice A k c') := by
            have := hwa.kP.cell 1
            rw [HLK.out] at this
            exact this
          have l8 := hwa.kP.lt
          have hrow := World.ownsRow.alloc hwa.own (.cells #[.slice G i cg] 28)
          have hwa1 := hwa.keep (below_al (Below.refl _ _) (.cells #[.slice G i cg] 28))
          have hbl3 := below_al hbl2 (.cells #[.slice G i cg] 28)
          have k41 := k4'.alloc (.cells #[.slice G i cg] 28)
          have hown1 := World.ownsRow.alloc hown (.cells #[.slice G i cg] 28)
          rw [HLK.out] at hrow
          have HWA1 := Lib.hid (And.intro hwa1 hown1)
          clear hown hwa hwa1 hown1 HWA h7
          by_cases hin : i < nL
          · have g2 : decide ((i : Int) < nL) = true := by simp; omega
            have g2' : decide (i < nL) = true := by simp; omega
            have g3 : decide ((i : Int) < 7) = false := by simp; omega
            go_upto_region 13 with fail
            obtain ⟨w9, hw9⟩ : ∃ w9, w9 = wr := ⟨_, rfl⟩
            subst hw9
            go_wp2_with (at_builtin; go_must (refine wpList_append_own_at _ rfl (.tmp 72) (.tmp 74) _ rfl w.heap.size 28 j0 _ 1 24 Try.underlying25 hj0 hy0 hy1 hy2 rfl (by omega) (.slice A k c') k rows rfl hrow ⟨w9.heap.size, 0, none⟩ 1 1 [.slice G i cg] rfl rfl (row_news #[.slice G i cg]) (by simp [Value.oneCell']) (by simp only [maxLen]; omega) (by omega) (by simp; have := hbl2.size; omega) ?_; intro vW w5 hrow4 hgrow4 _ _); (obtain ⟨GW, cW, rfl⟩ := own_slice hrow4); have hk5 := keptT_grown hrow hgrow4; have kP5 := HWA1.out.1.kP.keptT hk5 (by decide); have q9 : w5.cell? ⟨b8, 1, none⟩ = some (.slice A wk.length c') := kP5.cell 1; have f9 := kP5.free 1; have l9 := kP5.lt)
            have hk6 := keptT_set kP5 1 (.slice GW (k + 1) cW)
            have k6 := kP5.stored 1 (.slice GW (k + 1) cW)
            have hbl5 := below_set (grown_below hbl3 hrow hgrow4 hbl3.size (Nat.le_refl _)) (p := ⟨b8, 1, none⟩) (by dsimp only; omega) (.slice GW (k + 1) cW)
            refine ⟨⟨k + 1, by omega, by go_num, hbl5, (k41.keptT hk5 (by decide)).keptT hk6 (by decide), GW, cW, rows ++ [.slice G i cg], ?_⟩, by simp [intOf]; omega⟩
            rw [HWK.out]
            have hl1 : (wk ++ [cls (L.take 7)]).length = k + 1 := by rw [List.length_append, HLK.out]; rfl
            refine ⟨?_, ?_, fun j ops hj => ?_⟩
            · rw [hl1]
              exact k6
            · rw [hl1]
              exact own_keptT hrow4 hk6 (by decide)
            · have hown2 := own_keptT (own_keptT HWA1.out.2 hk5 (by decide)) hk6 (by decide)
              have hrl : rows.length = k := by have := hrow.1; omega
              by_cases hjk : j < k
              · rw [List.getElem?_append_left (by rw [HLK.out]; exact hjk)] at hj
                obtain ⟨G', cap', e1, e2⟩ := HWA1.out.1.at_ j ops hj
                exact ⟨G', cap', by rw [List.getElem?_append_left (by omega)]; exact e1, own_keptT (own_keptT e2 hk5 (by decide)) hk6 (by decide)⟩
              · have hjl := (List.getElem?_eq_some_iff.1 hj).1
                rw [hl1] at hjl
                obtain rfl : j = k := by omega
                rw [List.getElem?_append_right (by rw [HLK.out]; exact Nat.le_refl _), HLK.out, Nat.sub_self] at hj
                simp only [List.getElem?_cons_zero, Option.some.injEq] at hj
                subst hj
                rw [HI7.out.2]
                exact ⟨G, cg, by rw [List.getElem?_append_right (by omega), hrl, Nat.sub_self]; rfl, own_lower hown2 hbl.size⟩
          · have g2 : decide ((i : Int) < nL) = false := by simp; omega
            have g2' : decide (i < nL) = false := by simp; omega
            go_upto_region 13 with fail
            obtain ⟨w9, hw9⟩ : ∃ w9, w9 = wr := ⟨_, rfl⟩
            subst hw9
            go_wp2_with (at_builtin; go_must (refine wpList_append_own_at _ rfl (.tmp 72) (.tmp 74) _ rfl w.heap.size 28 j0 _ 1 24 Try.underlying25 hj0 hy0 hy1 hy2 rfl (by omega) (.slice A k c') k rows rfl hrow ⟨w9.heap.size, 0, none⟩ 1 1 [.slice G i cg] rfl rfl (row_news #[.slice G i cg]) (by simp [Value.oneCell']) (by simp only [maxLen]; omega) (by omega) (by simp; have := hbl2.size; omega) ?_; intro vW w5 hrow4 hgrow4 _ _); (obtain ⟨GW, cW, rfl⟩ := own_slice hrow4); have hk5 := keptT_grown hrow hgrow4; have kP5 := HWA1.out.1.kP.keptT hk5 (by decide); have q9 : w5.cell? ⟨b8, 1, none⟩ = some (.slice A wk.length c') := kP5.cell 1; have f9 := kP5.free 1; have l9 := kP5.lt)
            have hk6 := keptT_set kP5 1 (.slice GW (k + 1) cW)
            have k6 := kP5.stored 1 (.slice GW (k + 1) cW)
            have hbl5 := below_set (grown_below hbl3 hrow hgrow4 hbl3.size (Nat.le_refl _)) (p := ⟨b8, 1, none⟩) (by dsimp only; omega) (.slice GW (k + 1) cW)
            refine ⟨⟨k + 1, by omega, by go_num, hbl5, (k41.keptT hk5 (by decide)).keptT hk6 (by decide), GW, cW, rows ++ [.slice G i cg], ?_⟩, by simp [intOf]; omega⟩
            rw [HWK.out]
            have hl1 : (wk ++ [cls (L.take 7)]).length = k + 1 := by rw [List.length_append, HLK.out]; rfl
            refine ⟨?_, ?_, fun j ops hj => ?_⟩
            · rw [hl1]
              exact k6
            · rw [hl1]
              exact own_keptT hrow4 hk6 (by decide)
            · have hown2 := own_keptT (own_keptT HWA1.out.2 hk5 (by decide)) hk6 (by decide)
              have hrl : rows.length = k := by have := hrow.1; omega
              by_cases hjk : j < k
              · rw [List.getElem?_append_left (by rw [HLK.out]; exact hjk)] at hj
                obtain ⟨G', cap', e1, e2⟩ := HWA1.out.1.at_ j ops hj
                exact ⟨G', cap', by rw [List.getElem?_append_left (by omega)]; exact e1, own_keptT (own_keptT e2 hk5 (by decide)) hk6 (by decide)⟩
              · have hjl := (List.getElem?_eq_some_iff.1 hj).1
                rw [hl1] at hjl
                obtain rfl : j = k := by omega
                rw [List.getElem?_append_right (by rw [HLK.out]; exact Nat.le_refl _), HLK.out, Nat.sub_self] at hj
                simp only [List.getElem?_cons_zero, Option.some.injEq] at hj
                subst hj
                rw [HI7.out.2]
                exact ⟨G, cg, by rw [List.getElem?_append_right (by omega), hrl, Nat.sub_self]; rfl, own_lower hown2 hbl.size⟩
    · obtain rfl : k = 3 := by omega
      obtain ⟨want, hwk⟩ : ∃ l, ((Ls.take 3).map fun L => cls (L.take 7)) = l := ⟨_, rfl⟩
      rw [hwk] at hwa
      have hlk : want.length = 3 := by rw [← hwk, List.length_map, List.length_take, HLL.out]; rfl
      have hall : ∀ ops ∈ want, ops.length ≤ 7 ∧ ∀ op ∈ ops, ∃ a : Int, op = clOp a ∧ 1 ≤ a ∧ a ≤ 8 := by
        intro ops ho
        rw [← hwk] at ho
        obtain ⟨L, _, rfl⟩ := List.mem_map.1 ho
        exact ⟨by simp [cls]; omega, cls_ok _⟩
      have HALL := Lib.hid (And.intro hlk hall)
      have kP : Bk wr b8 27 (playC 6 A 3 c' T m d) := by have := hwa.kP; rw [hlk] at this; exact this
      have HSL := Lib.hid hwa.sl
      have HOK := Lib.hid (playL_ok 3 6 (by omega) (by omega))
      clear hwk hlk hall hwa k4
      obtain ⟨w9, hw9⟩ : ∃ w9, w9 = wr := ⟨_, rfl⟩
      subst hw9
      have q0 := kP.cell 0
      have q1 := kP.cell 1
      have q2 := kP.cell 2
      have z0 := kP.lt
      simp at q0 q1 q2
      go_wp2_with fail
      (with_reducible refine (where_any 6 A 3 c' T m d _ (by omega) (by omega) (by omega) (by omega)).mono ?_)
      rintro e w3 ⟨rfl, hb⟩
      clear q0 q1 q2
      replace kP := kP.keep hb
      obtain ⟨l, hl⟩ : ∃ l, playL 3 6 = l := ⟨_, rfl⟩
      have htk : l.c.tasks = 8 := by rw [← hl]; decide +kernel
      rw [hl] at HOK
      rw [hl]
      have HTK := Lib.hid htk
      clear hl htk
      have hbl9 := hb
      clear hb
      go_upto_region 15 with (refine wpList_store_new rfl 34 (.tmp 12) (.tmp 78) rfl rfl w3.heap.size _ _ (lyC l) rfl rfl rfl rfl (by kernel_rfl) rfl (by simp [Value.oneCell']) ?_)
      have kL := Bk.made w3 34 (lyC l)
      replace kP := kP.alloc (.cells (lyC l) 34)
      have zL : w9.heap.size ≤ w3.heap.size := hbl9.size
      replace hbl9 := below_al hbl9 (.cells (lyC l) 34)
      generalize w3.alloc (.cells (lyC l) 34) = w4 at *
      generalize w3.heap.size = bL at *
      obtain ⟨n5, hn5⟩ : ∃ n : Nat, tm % 5 = n := ⟨(tm % 5).toNat, by omega⟩
      have hn5b : n5 < 5 := by omega
      go_wp2_with (refine wpList_load_row rfl 34 (.tmp 12) rfl bL rfl 34 (lyC l) (0, 0) _ kL Try.underlying34 rfl (by kernel_rfl) ?_)
      (with_reducible refine (begin_any l _ HOK.out).mono ?_)
      rintro e w5 ⟨g, cap, rfl, hown, hb⟩
      replace kP := kP.keep hb
      replace kL := kL.keep hb
      replace hbl9 := below_tr hbl9 hb
      clear hb
      have HN5 := Lib.hid hn5
      clear hn5
      have hLM : (beginM l).length ≤ 1000 := by rw [beginM_length]; have := HOK.out.s1; omega
      obtain ⟨M, hM⟩ : ∃ M, (beginM l).length = M := ⟨_, rfl⟩
      rw [hM] at hown hLM
      rw [hM]
      have HMM := Lib.hid hM
      have HOW := Lib.hid hown
      clear hM hown
      go_wp2_with fail
      have kM := Bk.made w5 39 #[.slice (some ⟨g, 0, none⟩) M cap]
      have zM : bL < w5.heap.size := kL.lt
      have hrel0 : ReadyRel w9 b8 bL w5.heap.size (playC 6 A 3 c' T m d) l n5 (.int .i64 2) (w5.alloc (.cells #[.slice (some ⟨g, 0, none⟩) M cap] 39)) := by
        refine ⟨0, Nat.zero_le _, rfl, below_al hbl9 _, kP.alloc _, kL.alloc _, g, cap, ?_, ?_⟩
        · show Bk _ _ _ #[.slice (some ⟨g, 0, none⟩) (beginM l).length cap]
          rw [HMM.out]
          exact kM
        · show OwnInts _ 0 (.slice (some ⟨g, 0, none⟩) (beginM l).length cap) (beginM l)
          rw [HMM.out]
          exact HOW.out.alloc _
      have HR := Lib.hid hrel0
      clear hrel0 kP kL kM HOW hbl9
      generalize w5.alloc (.cells #[.slice (some ⟨g, 0, none⟩) M cap] 39) = w6 at *
      generalize w5.heap.size = b14 at *
      go_loopw [15] (fun v15 wr => ReadyRel w9 b8 bL b14 (playC 6 A 3 c' T m d) l n5 v15 wr) (fun v15 _ => 2 + n5 - (intOf v15).toNat)
      case atStart => exact HR.out
      case round =>
        clear HR
        obtain ⟨i, hi, rfl, hbl9, kP, kL, g', cap', kM, hom⟩ := hrel
        by_cases hlt : i < n5
        · have i1 : decide ((2 : Int) + i < 2 + n5) = true := by simp; omega
          have i2 : (i : Int) < n5 := by omega
          have hq := task_lt (l := l) (zs := readyM l i) HOK.out (by rw [readyM_length]; exact (begin_get HOK.out).2.2.1) (2 + i) 0 (by omega) (by rw [HTK.out]; omega) (by omega) (by omega)
          have he : (⟨2, taskAt l (2 + i) 0, 0, 1⟩ : Acc).err (readyM l i).length = 0 := err_store hq.1 hq.2
          have hzl : (readyM l i).length ≤ 1000 := by rw [readyM_length, HMM.out]; exact hLM
          have HE := Lib.hid (And.intro he hzl)
          clear hq he hzl
          go_upto_region 20 with fail
          refine reg20 _ _ _ _ _ _ _ _ _ _ _ _ _ _ _ _ _ _ _ _ _ _ _ _ _ _ _ _ _ _ _ _ _ _ _ _ _ _ _ _ _ _ _ _ _ _ _ _ _ _ _ _ _ _ _ _ _ _ _ _ _ _ _ _ _ _ _ _ _ _ _ _ _ _ _ _ _ _ _ _ _ _ _ _ _ _ _ _ _ _ _ _ _ _ _ _ _ _ _ _ _ _ _ _ _ _ _ _ _ _ _ _ _ _ _ _ _ _ _ _ _ _ _ _ _ _ _ _ _ _ _ _ _ _ _ _ _ _ _ _ _ _ _ _ _ _ _ _ _ _ _ _ _ _ _ _ _ _ _ _ _ _ _ _ _ _ _ _ _ _ _ _ _ _ _ _ _ _ _ _ _ _ _ _ _ _ _ _ _ _ _ _ _ _ _ _ _ _ _ _ _ _ _ _ _ _ _ _ _ _ _ _ _ _ _ _ _ _ _ _ _ _ _ _ _ _ _ _ _ _ _ wr bL b14 (2 + (i : Int)) l g' cap' (readyM l i) (fun _ _ _ _ _ h => h) HOK.out.fit (by omega) HE.out.2 HE.out.1 kL kM hom ?_
          intro x17 x18 x90 x91 x92 x93 x94 x95 x96 x97 x98 x99 b16 g2 cap2 wx hb kN hown2
          dsimp only [ptr]
          have kM' := kM.keep hb
          have q5 := kM'.cell 0
          have f5 := kM'.free 0
          have l5 := kM'.lt
          have v0 := kN.cell 0
          have l6 := kN.lt
          simp at q5 v0
          have HX := Lib.hid (And.intro hb (And.intro kN hown2))
          clear hb kN hown2 hom
          go_wp2_with fail
          have hk := keptT_set kM' 0 (.slice (some ⟨g2, 0, none⟩) (readyM l i).length cap2)
          have hlen : (readyM l (i + 1)).length = (readyM l i).length := by rw [readyM_length, readyM_length]
          refine ⟨⟨i + 1, by omega, ?_, below_set (below_tr hbl9 HX.out.1) (by dsimp only; omega) _, (kP.keep HX.out.1).keptT hk (by decide), (kL.keep HX.out.1).keptT hk (by decide), g2, cap2, ?_, ?_⟩, by simp [intOf]; omega⟩
          · congr 1
          · rw [hlen]
            exact kM'.stored 0 _
          · rw [hlen]
            exact own_keptT HX.out.2.2 hk (by decide)
        · obtain rfl : i = n5 := by omega
          have i1 : decide ((2 : Int) + i < 2 + i) = false := by simp
          have hend := claims_end (l := l) (n := i) (want := want) (turns := turns) (s := claim0 l i) HOK.out (fun ops ho => ⟨(HALL.out.2 ops ho).1, fun op hop => by
            obtain ⟨a, e1, e2, e3⟩ := (HALL.out.2 ops ho).2 op hop
            exact ⟨a, e1, e2, by rw [HTK.out]; exact e3⟩⟩) rfl (claim0_cinv HOK.out i (by rw [HTK.out]; omega) want)
          have HEND := Lib.hid hend
          have HST := Lib.hid (And.intro hbl9 (And.intro kP (And.intro kL (And.intro kM hom))))
          clear hend kP kL kM hom
          go_upto_region 25 with (first
            | (refine wpList_make_row rfl _ _ rfl 3 _ rfl rfl (run_make_seats _ 3 (by omega)) ?_)
            | (refine wpList_make_row rfl _ _ rfl 9 _ rfl rfl (run_make_ints _ 9 (by omega)) ?_)
            | (refine wpList_make_row rfl _ _ rfl 9 _ rfl rfl (run_make_bools _ 9 (by omega)) ?_))
          have kS := ((Bk.made wr 63 (seatZ 3)).alloc (.cells (ints (List.replicate 9 0)).toArray 3)).alloc (.cells (boolZ 9) 4)
          have kW := (Bk.new (wr.alloc (.cells (seatZ 3) 63)) (g := wr.heap.size + 1) (by simp) 3 (ints (List.replicate 9 0)).toArray).alloc (.cells (boolZ 9) 4)
          have kB := Bk.new ((wr.alloc (.cells (seatZ 3) 63)).alloc (.cells (ints (List.replicate 9 0)).toArray 3)) (g := wr.heap.size + 1 + 1) (by simp) 4 (boolZ 9)
          have hrep0 : CRep (((wr.alloc (.cells (seatZ 3) 63)).alloc (.cells (ints (List.replicate 9 0)).toArray 3)).alloc (.cells (boolZ 9) 4)) b8 bL b14 wr.heap.size (wr.heap.size + 1) (wr.heap.size + 1 + 1) (playC 6 A 3 c' T m d) l (claim0 l i) := by
            obtain ⟨_, r2, r3, r4, r5⟩ := HST.out
            refine ⟨((r2.alloc _).alloc _).alloc _, ((r3.alloc _).alloc _).alloc _, ⟨g', cap', ((r4.alloc _).alloc _).alloc _, ((r5.alloc _).alloc _).alloc _, ?_⟩, ⟨_, seats_made kS⟩, ⟨_, kW, by simp [ints], fun t ht => ?_⟩, ⟨_, kB, by simp [boolZ], fun t ht => ?_⟩⟩
            · have hpos : 0 < (readyM l i).length := by
                rw [readyM_length]
                have := (begin_get HOK.out).2.2.1
                have := HOK.out.ts
                have := HOK.out.fit.k0
                have := HOK.out.t1
                omega
              have := (World.ownsRow.lt r5 g' rfl).2
              omega
            · exact ints9 t ht
            · exact bools9 t ht
          have hb0 := below_al (below_al (below_al HST.out.1 (.cells (seatZ 3) 63)) (.cells (ints (List.replicate 9 0)).toArray 3)) (.cells (boolZ 9) 4)
          have z14 : b14 < wr.heap.size := HST.out.2.2.2.1.lt
          have hml : (claim0 l i).m.length ≤ 1000 := by simp only [claim0]; rw [readyM_length, HMM.out]; exact hLM
          have hTT : SlU8 w9 w9.heap.size T turns := (HT.out.below hbl).more hbl.size
          have HC := Lib.hid (And.intro hrep0 (And.intro hb0 (And.intro hml hTT)))
          clear hrep0 hb0 kS kW kB hml hTT HST
          simp only [List.replicate] at HC
          generalize ((wr.alloc (.cells (seatZ 3) 63)).alloc (.cells (ints [0, 0, 0, 0, 0, 0, 0, 0, 0]).toArray 3)).alloc (.cells (boolZ 9) 4) = w7 at *
          generalize wr.heap.size = gs at *
          go_wp2_with fail
          refine cl_loop _ _ _ _ _ _ _ _ _ _ _ _ _ _ _ _ _ _ _ _ _ _ _ _ _ _ _ _ _ _ _ _ _ _ _ _ _ _ _ _ _ _ _ _ _ _ _ _ _ _ _ _ _ _ _ _ _ _ _ _ _ _ _ _ _ _ _ _ _ _ _ _ _ _ _ _ _ _ _ _ _ _ _ _ _ _ _ _ _ _ _ _ _ _ _ _ _ _ _ _ _ _ _ _ _ _ _ _ _ _ _ _ _ _ _ _ _ _ _ _ _ _ _ _ _ _ _ _ _ _ _ _ _ _ _ _ _ _ _ _ _ _ _ _ _ _ _ _ _ _ _ _ _ _ _ _ _ _ _ _ _ _ _ _ _ _ _ _ _ _ _ _ _ _ _ _ _ _ _ _ _ _ _ _ _ _ _ _ _ _ _ _ _ _ _ _ _ _ _ _ _ _ _ _ _ _ _ _ _ _ _ _ _ _ _ _ _ _ _ _ _ _ _ _ _ _ w9 w7 T m d A c' b8 bL b14 gs (gs + 1) (gs + 1 + 1) l want turns (claim0 l i) (fun _ _ _ _ _ h => h) HC.out.2.1 HM.out (by omega) HALL.out.1 HSL.out HC.out.2.2.2 HOK.out (by omega) (fun ops ho => (HALL.out.2 ops ho).2) (claim0_inv i) HC.out.2.2.1 HC.out.1 HEND.out.1 ?_
          intro x6 x22 x23 x24 x25 x26 x27 x28 x29 x30 x31 x104 x105 x106 x107 x108 x109 x110 x111 x112 x113 x114 x115 x116 x117 x118 x119 x120 x121 x122 x123 x124 x125 x126 x127 x128 x129 x130 x131 x132 x133 x134 x135 x136 x137 x138 x139 x140 x141 x142 x143 x144 x145 x146 x147 x148 x149 x150 x151 x152 x153 x154 x155 x156 x157 x158 x159 x160 x161 x162 x163 x164 x165 x166 x167 x168 x169 x170 x171 x172 x173 x174 x175 x176 x177 x178 x179 x180 x181 x182 x183 x184 x185 x186 x187 x188 x189 x190 x191 x192 x193 x194 x195 x196 x197 x198 x199 x200 x201 x202 x203 x204 x205 x206 x207 wx hbx hrepx
          dsimp only [ptr]
          have hbf := below_tr hbl hbx
          obtain ⟨cw, kw, hw9', hcw⟩ := hrepx.won
          obtain ⟨ca, ka, ha9, hca⟩ := hrepx.asked
          have hE := HEND.out.2
          generalize (runP l want (claim0 l i) (whosC turns)).1.out = outs at *
          have HE := Lib.hid hE
          have HCW := Lib.hid (And.intro hcw hca)
          have lw := kw.lt
          have la := ka.lt
          clear hrepx hE hcw hca
          go_wp2_with fail
          go_loop [32] (fun v32 => ∃ k : Nat, 1 ≤ k ∧ k ≤ 9 ∧ v32 = .int .i64 k) (fun v32 => 9 - (intOf v32).toNat)
          case atStart => exact ⟨1, by omega, by omega, rfl⟩
          case round =>
            obtain ⟨k, hk1, hk9, rfl⟩ := hrel
            by_cases hlt9 : k < 9
            · have hE := HE.out (k : Int) (by omega) (by rw [HTK.out]; omega)
              have qw := (kw.cell k).trans (HCW.out.1 k hlt9)
              have qa := (ka.cell k).trans (HCW.out.2 k hlt9)
              have j1 : (k : Int) < 9 := by omega
              by_cases hr : 2 ≤ k ∧ k < 2 + i
              · have g1 : decide ((2 : Int) ≤ k) = true := by simp; omega
                have g2 : decide ((k : Int) < 2 + i) = true := by simp; omega
                by_cases ha : 0 < bsum outs (dA (k : Int))
                · rw [if_pos (by omega)] at hE
                  rw [hE] at qw
                  rw [decide_eq_true ha] at qa
                  have qw' : wx.cell? ⟨gs + 1, k, none⟩ = some (.int .i64 1) := qw
                  clear qw hE ha
                  go_wp2_with fail
                  go_round
                  case rel => exact ⟨k + 1, by omega, by omega, by go_num⟩
                  case measure => simp [intOf]; omega
                · rw [if_neg (by omega)] at hE
                  rw [hE] at qw
                  rw [decide_eq_false ha] at qa
                  have qw' : wx.cell? ⟨gs + 1, k, none⟩ = some (.int .i64 0) := qw
                  clear qw hE ha
                  go_wp2_with fail
                  go_round
                  case rel => exact ⟨k + 1, by omega, by omega, by go_num⟩
                  case measure => simp [intOf]; omega
              · rw [if_neg (by omega)] at hE
                rw [hE] at qw
                have qw' : wx.cell? ⟨gs + 1, k, none⟩ = some (.int .i64 0) := qw
                clear qw hE
                by_cases hk2 : k < 2
                · have g1 : decide ((2 : Int) ≤ k) = false := by simp; omega
                  go_wp2_with fail
                  go_round
                  case rel => exact ⟨k + 1, by omega, by omega, by go_num⟩
                  case measure => simp [intOf]; omega
                · have g1 : decide ((2 : Int) ≤ k) = true := by simp; omega
                  have g2 : decide ((k : Int) < 2 + i) = false := by simp; omega
                  go_wp2_with fail
                  go_round
                  case rel => exact ⟨k + 1, by omega, by omega, by go_num⟩
                  case measure => simp [intOf]; omega
            · obtain rfl : k = 9 := by omega
              go_wp2
              go_ret
              exact ⟨rfl, hbf⟩
end Go.Proofs.Ytcjaomiihajjbaa
