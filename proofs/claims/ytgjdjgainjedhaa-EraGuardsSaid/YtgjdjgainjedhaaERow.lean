/- era's within: does one of the reservations lie in a life? Rows in memory that are owned: results, pairs; slices.Clone of pairs. -/
import Derived.Test.YtgjdjgainjedhaaEGu
import Derived.Test.YtgjdjgainjedhaaMemS
import Derived.Test.YtgjdjgainjedhaaDag
import Derived.Laws.OwnMore
namespace Go.Proofs.Ytgjdjgainjedhaa
open Go.RowKit
set_option linter.unusedVariables false
attribute [local go_sem ↓] Go.wp_at_zero Go.wp_at_succ

abbrev rowV (H : List Int) : Array Value := (H.map (Value.int .i64)).toArray
/-- Is one number in a life? -/
def inB3 (e born ret : Int) : Bool := decide (1 ≤ e) && (decide (born ≤ e) && decide (e ≤ ret))
theorem heldB_eq (H : List Int) (born ret : Int) : heldB H born ret = H.any fun e => inB3 e born ret := rfl
/-- None of the first k is. -/
def NoneB (H : List Int) (born ret : Int) (k : Nat) : Prop := ∀ j, j < k → inB3 (H.getD j 0) born ret = false
theorem heldB_none {H : List Int} {born ret : Int} (h : NoneB H born ret H.length) : heldB H born ret = false := by
  unfold heldB
  rw [List.any_eq_false]
  intro e he
  obtain ⟨j, hj⟩ := List.getElem?_of_mem he
  have h1 := h j (List.getElem?_eq_some_iff.1 hj).1
  rw [List.getD_eq_getElem?_getD, hj] at h1
  unfold inB3 at h1
  simpa using h1
theorem heldB_some {H : List Int} {born ret : Int} {j : Nat} (hj : j < H.length) (h : inB3 (H.getD j 0) born ret = true) : heldB H born ret = true := by
  unfold heldB
  rw [List.any_eq_true]
  refine ⟨H.getD j 0, ?_, h⟩
  rw [List.getD_eq_getElem?_getD, List.getElem?_eq_getElem hj]
  exact List.getElem_mem hj
theorem heldB_zeros (H : List Int) (born ret : Int) (k : Nat) : heldB (H ++ List.replicate k 0) born ret = heldB H born ret := by
  unfold heldB
  rw [List.any_append]
  have : (List.replicate k (0 : Int)).any (fun e => decide (1 ≤ e) && (decide (born ≤ e) && decide (e ≤ ret))) = false := by
    rw [List.any_eq_false]
    intro e he
    rw [List.eq_of_mem_replicate he]
    simp
  rw [this, Bool.or_false]
theorem put_idx {K : Act → World → Prop} {a : Act} {d : Option Tmp} {v v' : Value} {w : World} (h : v = v') (hk : K (a.put d v') w) : K (a.put d v) w := h ▸ hk
def WiRel (H : List Int) (born ret : Int) (w : World) (v13 : Value) (wr : World) : Prop :=
  ∃ i : Nat, v13 = .int .i64 i ∧ i ≤ 8 ∧ NoneB H born ret (3 * i) ∧ Below w.heap.size w wr
def WjRel (H : List Int) (born ret : Int) (i : Nat) (w6 : World) (v19 : Value) (wr : World) : Prop :=
  ∃ j : Nat, v19 = .int .i64 j ∧ j ≤ 3 ∧ NoneB H born ret (3 * i + j) ∧ wr = w6
set_option maxRecDepth 100000 in
set_option maxHeartbeats 4000000 in
theorem within16_any {w : World} {gh : Nat} {H : List Int} (born ret : Int) (hH : H.length = 24) (k : Bk w gh 123 (rowV H)) :
    Calls Try.prog 58 #[ptr gh, .int .i64 born, .int .i64 ret] w (BoolBelow (heldB H born ret) w) := by
  have HK := Lib.hid k
  have lg := k.lt
  obtain ⟨R, hR⟩ : ∃ r, heldB H born ret = r := ⟨_, rfl⟩
  rw [hR]
  have HR := Lib.hid hR
  clear k hR
  go_enter Try.func58, Try.ntmps58
  go_wp2_with fail
  go_loopw [13] (fun v13 wr => WiRel H born ret w v13 wr) (fun v13 _ => 8 - (intOf v13).toNat)
  case atStart => exact ⟨0, rfl, by omega, fun j hj => by omega, Below.refl _ _⟩
  case round =>
    obtain ⟨i, rfl, hi8, hno, hbl⟩ := hrel
    by_cases hlt : i < 8
    · have hd : decide ((i : Int) < 8) = true := by simp; omega
      have hd2 : (i : Int) < 8 := by omega
      have kr := HK.out.keep hbl
      obtain ⟨x0, h0⟩ : ∃ x, H.getD (3 * i) 0 = x := ⟨_, rfl⟩
      obtain ⟨x1, h1⟩ : ∃ x, H.getD (3 * i + 1) 0 = x := ⟨_, rfl⟩
      obtain ⟨x2, h2⟩ : ∃ x, H.getD (3 * i + 2) 0 = x := ⟨_, rfl⟩
      have hc : ∀ (t : Nat) (x : Int), t < 24 → H.getD t 0 = x → wr.cell? ⟨gh, t, none⟩ = some (.int .i64 x) := by
        intro t x ht hx
        rw [kr.cell t]
        rw [List.getD_eq_getElem?_getD, List.getElem?_eq_getElem (by omega)] at hx
        simp at hx
        simp [hx, List.getElem?_eq_getElem (show t < H.length by omega)]
      have c0 : wr.cell? ⟨gh, i * 3, none⟩ = some (.int .i64 x0) := by rw [show i * 3 = 3 * i by omega]; exact hc _ _ (by omega) h0
      have c1 : wr.cell? ⟨gh, i * 3 + 1, none⟩ = some (.int .i64 x1) := by rw [show i * 3 + 1 = 3 * i + 1 by omega]; exact hc _ _ (by omega) h1
      have c2 : wr.cell? ⟨gh, i * 3 + 2, none⟩ = some (.int .i64 x2) := by rw [show i * 3 + 2 = 3 * i + 2 by omega]; exact hc _ _ (by omega) h2
      have lg2 := kr.lt
      clear hc kr
      go_upto_region 4 with fail
      have hbl2 := below_al hbl (.cells #[.int .i64 x0, .int .i64 x1, .int .i64 x2] 121)
      have k8 := Bk.made wr 121 #[.int .i64 x0, .int .i64 x1, .int .i64 x2]
      clear c0 c1 c2
      generalize wr.alloc (.cells #[.int .i64 x0, .int .i64 x1, .int .i64 x2] 121) = w6 at *
      have d0 := k8.cell 0
      have d1 := k8.cell 1
      have d2 := k8.cell 2
      have l8 := k8.lt
      simp at d0 d1 d2
      go_wp2_with fail
      clear d0 d1 d2 l8 k8 lg2
      go_loopw [19] (fun v19 wr' => WjRel H born ret i w6 v19 wr') (fun v19 _ => 3 - (intOf v19).toNat)
      case atStart => exact ⟨0, rfl, by omega, hno, rfl⟩
      case round =>
        obtain ⟨j, rfl, hj3, hnj, rfl⟩ := hrel
        by_cases hjt : j < 3
        · have hx : ∃ x, H.getD (3 * i + j) 0 = x := ⟨_, rfl⟩
          obtain ⟨x, hx⟩ := hx
          have hxx : (j = 0 ∧ x = x0) ∨ (j = 1 ∧ x = x1) ∨ (j = 2 ∧ x = x2) := by
            have hj : j = 0 ∨ j = 1 ∨ j = 2 := by omega
            rcases hj with rfl | rfl | rfl
            · exact .inl ⟨rfl, by rw [← hx, ← h0]; rfl⟩
            · exact .inr (.inl ⟨rfl, by rw [← hx, ← h1]⟩)
            · exact .inr (.inr ⟨rfl, by rw [← hx, ← h2]⟩)
          have HX := Lib.hid hx
          clear hx h0 h1 h2
          by_cases g1 : 1 ≤ x
          · by_cases g2 : born ≤ x
            · by_cases g3 : x ≤ ret
              · have HB := Lib.hid (show R = true by rw [← HR.out]; exact heldB_some (j := 3 * i + j) (by omega) (by rw [HX.out]; simp [inB3, g1, g2, g3]))
                obtain rfl := HB.out
                rcases hxx with ⟨rfl, rfl⟩ | ⟨rfl, rfl⟩ | ⟨rfl, rfl⟩ <;>
                · have e1 : decide (x ≥ 1) = true := by simpa using g1
                  have e2 : decide (x ≥ born) = true := by simpa using g2
                  have e3 : decide (x ≤ ret) = true := by simpa using g3
                  go_wp2_with fail
                  refine put_idx (v' := .int .i64 x) (by kernel_rfl) ?_
                  go_wp2_with fail
                  go_ret
                  exact ⟨rfl, hbl2⟩
              · have hnj' : NoneB H born ret (3 * i + (j + 1)) := by
                  intro t ht
                  by_cases e : t < 3 * i + j
                  · exact hnj t e
                  · rw [show t = 3 * i + j by omega, HX.out]; simp [inB3, g3]
                have e3 : decide (x ≤ ret) = false := by simpa using g3
                have e2 : decide (born ≤ x) = true := by simpa using g2
                have e1 : decide (1 ≤ x) = true := by simpa using g1
                rcases hxx with ⟨rfl, rfl⟩ | ⟨rfl, rfl⟩ | ⟨rfl, rfl⟩ <;>
                · go_wp2_with fail
                  refine put_idx (v' := .int .i64 x) (by kernel_rfl) ?_
                  go_wp2_with fail
                  go_roundw
                  case rel => first | exact ⟨1, rfl, by decide, hnj', rfl⟩ | exact ⟨2, rfl, by decide, hnj', rfl⟩ | exact ⟨3, rfl, by decide, hnj', rfl⟩
                  case measure => simp [intOf]
            · have hnj' : NoneB H born ret (3 * i + (j + 1)) := by
                intro t ht
                by_cases e : t < 3 * i + j
                · exact hnj t e
                · rw [show t = 3 * i + j by omega, HX.out]; simp [inB3, g2]
              have e2 : decide (born ≤ x) = false := by simpa using g2
              have e1 : decide (1 ≤ x) = true := by simpa using g1
              rcases hxx with ⟨rfl, rfl⟩ | ⟨rfl, rfl⟩ | ⟨rfl, rfl⟩ <;>
              · go_wp2_with fail
                refine put_idx (v' := .int .i64 x) (by kernel_rfl) ?_
                go_wp2_with fail
                go_roundw
                case rel => first | exact ⟨1, rfl, by decide, hnj', rfl⟩ | exact ⟨2, rfl, by decide, hnj', rfl⟩ | exact ⟨3, rfl, by decide, hnj', rfl⟩
                case measure => simp [intOf]
          · have hnj' : NoneB H born ret (3 * i + (j + 1)) := by
              intro t ht
              by_cases e : t < 3 * i + j
              · exact hnj t e
              · rw [show t = 3 * i + j by omega, HX.out]; simp [inB3, g1]
            have e1 : decide (1 ≤ x) = false := by simpa using g1
            rcases hxx with ⟨rfl, rfl⟩ | ⟨rfl, rfl⟩ | ⟨rfl, rfl⟩ <;>
            · go_wp2_with fail
              refine put_idx (v' := .int .i64 x) (by kernel_rfl) ?_
              go_wp2_with fail
              go_roundw
              case rel => first | exact ⟨1, rfl, by decide, hnj', rfl⟩ | exact ⟨2, rfl, by decide, hnj', rfl⟩ | exact ⟨3, rfl, by decide, hnj', rfl⟩
              case measure => simp [intOf]
        · have hj : j = 3 := by omega
          subst hj
          have hd3 : decide (((3 : Nat) : Int) < 3) = false := by decide
          go_wp2_with fail
          go_roundw
          case rel => exact ⟨i + 1, by simp, by omega, by rw [show 3 * (i + 1) = 3 * i + 3 by omega]; exact hnj, hbl2⟩
          case measure => simp [intOf]; omega
    · have hi : i = 8 := by omega
      subst hi
      have hd : decide (((8 : Nat) : Int) < 8) = false := by decide
      have HB := Lib.hid (show R = false by rw [← HR.out]; exact heldB_none (by rw [hH]; exact hno))
      obtain rfl := HB.out
      go_wp2_with fail
      go_ret
      exact ⟨rfl, hbl⟩
end Go.Proofs.Ytgjdjgainjedhaa
namespace Go.Proofs.Ytgjdjgainjedhaa
open Go.RowKit
set_option linter.unusedVariables false

def resCells (l : Log) : List Value := l.flatMap fun r => [.int .i64 r.1, .bool r.2]
def OwnRes (w : World) (base : Nat) (v : Value) (l : Log) : Prop := w.ownsRow base 67 2 v l.length (resCells l)
theorem res_info : (Try.prog.info? 67).map (fun i => (i.zero, i.size, i.bytes)) = some (some (.agg #[.int .i64 0, .bool false]), 2, 16) := by kernel_rfl
theorem res_rowT : ∃ i, RowT Try.prog 47 67 i (.agg #[.int .i64 0, .bool false]) 2 16 := RowT.of Try.underlying47 res_info (by kernel_rfl) (by decide)
theorem resCells_get (l : Log) : ∀ (k : Nat) (r : Int × Bool), l[k]? = some r → (resCells l)[k * 2]? = some (.int .i64 r.1) ∧ (resCells l)[k * 2 + 1]? = some (.bool r.2) := by
  induction l with
  | nil => intro k r h; simp at h
  | cons a l ih =>
    intro k r h
    have e : resCells (a :: l) = [.int .i64 a.1, .bool a.2] ++ resCells l := rfl
    cases k with
    | zero => simp at h; subst h; simp [e]
    | succ k =>
      obtain ⟨h1, h2⟩ := ih k r (by simpa using h)
      rw [e, show (k + 1) * 2 = 2 + k * 2 by omega]
      refine ⟨?_, ?_⟩
      · rw [List.getElem?_append_right (by simp)]; simpa using h1
      · rw [show 2 + k * 2 + 1 = 2 + (k * 2 + 1) by omega, List.getElem?_append_right (by simp)]; simpa using h2
theorem resCells_one (l : Log) : ∀ v ∈ resCells l, v.oneCell' = true := by
  intro v hv
  simp only [resCells, List.mem_flatMap] at hv
  obtain ⟨r, _, hr⟩ := hv
  simp at hr
  rcases hr with rfl | rfl <;> rfl
theorem resCells_snoc (l : Log) (r : Int × Bool) : resCells (l ++ [r]) = resCells l ++ [.int .i64 r.1, .bool r.2] := by simp [resCells]
theorem own_slRes {w : World} {base cap : Nat} {G : Option Addr} {log : Log} (h : OwnRes w base (.slice G log.length cap) log) : SlRes w w.heap.size G log := by
  intro hl
  obtain ⟨hl1, hs⟩ := Src.own h (Nat.le_refl w.heap.size)
  rcases hs with ⟨_, h0, _⟩ | ⟨g, of, rfl, hg, hc⟩
  · omega
  · refine ⟨g, of, rfl, hg, fun k r hk => ?_⟩
    obtain ⟨h1, h2⟩ := resCells_get log k r hk
    have q1 := hc _ _ h1
    have q2 := hc _ _ h2
    first
      | exact ⟨q1, q2⟩
      | (rw [Go.WideShapes.add_plain] at q1 q2; exact ⟨q1, q2⟩)

/-- Every block of another type than t0 is as it was. -/
def KeptT (t0 : TypeId) (w w' : World) : Prop := ∀ (g : Nat) (cs : Array Value) (t : TypeId) (fr : Nat × Nat), w.heap[g]? = some (.cells cs t fr) → t ≠ t0 → w'.heap[g]? = some (.cells cs t fr)
section
variable {w w' : World} {t0 : TypeId}
theorem keptT_set {b : Nat} {cs : Array Value} (k : Bk w b t0 cs) (i : Nat) (u : Value) : KeptT t0 w (w.setCell ⟨b, i, none⟩ u) := by
  intro g cs' t fr h ht
  have hne : g ≠ b := by
    rintro rfl
    rw [Bk, h] at k
    injection k with k
    injection k with _ k _
    exact ht k
  rw [Below.heap_setCell w ⟨b, i, none⟩ u g hne]
  exact h
theorem keptT_row {b : Nat} {cs cs' : Array Value} (k : Bk w b t0 cs) : KeptT t0 w (w.setRow b cs') := by
  intro g c t fr h ht
  have hne : g ≠ b := by
    rintro rfl
    rw [Bk, h] at k
    injection k with k
    injection k with _ k _
    exact ht k
  rw [setRow_other _ _ _ _ hne]
  exact h
theorem keptT_grown {base sz n : Nat} {v : Value} {xs : List Value} (h : w.ownsRow base t0 sz v n xs) (hg : w.grownBy w' v.ownBlock) : KeptT t0 w w' := by
  intro g cs' t fr hc ht
  have hlt : g < w.heap.size := (Array.getElem?_eq_some_iff.1 hc).1
  rw [hg.block g hlt ?_]
  · exact hc
  · rcases h.2 with ⟨rfl, _⟩ | ⟨g', cap, cur, rfl, _, h2, _⟩
    · simp [Value.ownBlock]
    · simp only [Value.ownBlock]
      intro e
      injection e with e
      subst e
      rw [hc] at h2
      injection h2 with h2
      injection h2 with _ h2 _
      exact ht h2
theorem keptT_below (hb : Below w.heap.size w w') : KeptT t0 w w' := by
  intro g cs t fr hc _
  rw [hb.block g (Array.getElem?_eq_some_iff.1 hc).1]
  exact hc
theorem KeptT.trans {w2 : World} (h : KeptT t0 w w') (h' : KeptT t0 w' w2) : KeptT t0 w w2 := fun g cs t fr hc ht => h' g cs t fr (h g cs t fr hc ht) ht
theorem Bk.keptT {g : Nat} {t : TypeId} {cs : Array Value} (k : Bk w g t cs) (h : KeptT t0 w w') (ne : t ≠ t0) : Bk w' g t cs := h g cs t (0, 0) k ne
theorem own_keptT {base sz n : Nat} {e : TypeId} {v : Value} {xs : List Value} (h : w.ownsRow base e sz v n xs) (hk : KeptT t0 w w') (ne : e ≠ t0) : w'.ownsRow base e sz v n xs := by
  rcases h.2 with h1 | ⟨g, cap, cur, h1, h2, h3, h4⟩
  · exact ⟨h.1, .inl h1⟩
  · exact ⟨h.1, .inr ⟨g, cap, cur, h1, h2, hk g cur e (0, 0) h3 ne, h4⟩⟩
theorem own_keepb' {base sz n : Nat} {e : TypeId} {v : Value} {xs : List Value} (h : w.ownsRow base e sz v n xs) (hb : Below w.heap.size w w') : w'.ownsRow base e sz v n xs := by
  rcases h.2 with h1 | ⟨g, cap, cur, h1, h2, h3, h4⟩
  · exact ⟨h.1, .inl h1⟩
  · exact ⟨h.1, .inr ⟨g, cap, cur, h1, h2, (hb.block g (Array.getElem?_eq_some_iff.1 h3).1).trans h3, h4⟩⟩
theorem own_low' {base base' n : Nat} {e : TypeId} {sz : Nat} {v : Value} {xs : List Value} (h : w.ownsRow base e sz v n xs) (hB : base' ≤ base) : w.ownsRow base' e sz v n xs := by
  rcases h.2 with h0 | ⟨g, cap, cur, h1, h2, h3⟩
  · exact ⟨h.1, .inl h0⟩
  · exact ⟨h.1, .inr ⟨g, cap, cur, h1, Nat.le_trans hB h2, h3⟩⟩
end
theorem bk_ne {w : World} {a b : Nat} {t1 t2 : TypeId} {c1 c2 : Array Value} (h1 : Bk w a t1 c1) (h2 : Bk w b t2 c2) (hne : t1 ≠ t2) : a ≠ b := by
  rintro rfl
  rw [Bk, h2] at h1
  injection h1 with h1
  injection h1 with _ h1 _
  exact hne h1.symm
def pairCells (l : Gone) : List Value := l.flatMap fun r => [.int .i64 r.1, .int .i64 r.2]
def OwnGone (w : World) (base : Nat) (v : Value) (l : Gone) : Prop := w.ownsRow base 51 2 v l.length (pairCells l)
theorem pair_info : (Try.prog.info? 51).map (fun i => (i.zero, i.size, i.bytes)) = some (some (.agg #[.int .i64 0, .int .i64 0]), 2, 16) := by kernel_rfl
theorem pair_rowT : ∃ i, RowT Try.prog 48 51 i (.agg #[.int .i64 0, .int .i64 0]) 2 16 := RowT.of Try.underlying48 pair_info (by kernel_rfl) (by decide)
theorem pairCells_get (l : Gone) : ∀ (k : Nat) (r : Int × Int), l[k]? = some r → (pairCells l)[k * 2]? = some (.int .i64 r.1) ∧ (pairCells l)[k * 2 + 1]? = some (.int .i64 r.2) := by
  induction l with
  | nil => intro k r h; simp at h
  | cons a l ih =>
    intro k r h
    have e : pairCells (a :: l) = [.int .i64 a.1, .int .i64 a.2] ++ pairCells l := rfl
    cases k with
    | zero => simp at h; subst h; simp [e]
    | succ k =>
      obtain ⟨h1, h2⟩ := ih k r (by simpa using h)
      rw [e, show (k + 1) * 2 = 2 + k * 2 by omega]
      refine ⟨?_, ?_⟩
      · rw [List.getElem?_append_right (by simp)]; simpa using h1
      · rw [show 2 + k * 2 + 1 = 2 + (k * 2 + 1) by omega, List.getElem?_append_right (by simp)]; simpa using h2
theorem pairCells_at (l : Gone) : ∀ (j : Nat) (u : Value), (pairCells l)[j]? = some u → ∃ (k : Nat) (r : Int × Int), l[k]? = some r ∧ ((j = k * 2 ∧ u = .int .i64 r.1) ∨ (j = k * 2 + 1 ∧ u = .int .i64 r.2)) := by
  induction l with
  | nil => intro j u h; simp [pairCells] at h
  | cons a l ih =>
    intro j u h
    have e : pairCells (a :: l) = .int .i64 a.1 :: .int .i64 a.2 :: pairCells l := rfl
    rw [e] at h
    match j, h with
    | 0, h => exact ⟨0, a, rfl, .inl ⟨rfl, by simpa using h.symm⟩⟩
    | 1, h => exact ⟨0, a, rfl, .inr ⟨rfl, by simpa using h.symm⟩⟩
    | j + 2, h =>
      obtain ⟨k, r, h1, h2⟩ := ih j u (by simpa using h)
      refine ⟨k + 1, r, by simpa using h1, ?_⟩
      rcases h2 with ⟨h2, h3⟩ | ⟨h2, h3⟩
      · exact .inl ⟨by omega, h3⟩
      · exact .inr ⟨by omega, h3⟩
theorem pairCells_len (l : Gone) : (pairCells l).length = 2 * l.length := by
  induction l with
  | nil => rfl
  | cons a l ih => show ([Value.int .i64 a.1, .int .i64 a.2] ++ pairCells l).length = _; rw [List.length_append, ih]; simp; omega
theorem pairCells_one (l : Gone) : ∀ v ∈ pairCells l, v.oneCell' = true := by
  intro v hv
  simp only [pairCells, List.mem_flatMap] at hv
  obtain ⟨r, _, hr⟩ := hv
  simp at hr
  rcases hr with rfl | rfl <;> rfl
theorem pairCells_snoc (l : Gone) (r : Int × Int) : pairCells (l ++ [r]) = pairCells l ++ [.int .i64 r.1, .int .i64 r.2] := by simp [pairCells]
theorem own_slGone {w : World} {base cap n : Nat} {G : Option Addr} {log : Gone} (h : OwnGone w base (.slice G n cap) log) (hn : n = log.length) : SlGone w w.heap.size G log := by
  subst hn
  intro hl
  obtain ⟨hl1, hs⟩ := Src.own h (Nat.le_refl w.heap.size)
  rcases hs with ⟨_, h0, _⟩ | ⟨g, of, rfl, hg, hc⟩
  · omega
  · refine ⟨g, of, rfl, hg, fun k r hk => ?_⟩
    obtain ⟨h1, h2⟩ := pairCells_get log k r hk
    have q1 := hc _ _ h1
    have q2 := hc _ _ h2
    first
      | exact ⟨q1, q2⟩
      | (rw [Go.WideShapes.add_plain] at q1 q2; exact ⟨q1, q2⟩)
theorem own_goneAt {w : World} {base cap n : Nat} {G : Option Addr} {log : Gone} {bad : List Nat} (h : OwnGone w base (.slice G n cap) log) (hn : n = log.length) (hb : ∀ g ∈ bad, ∃ t cs, Bk w g t cs ∧ t ≠ 51) : GoneAt w bad G log := by
  intro hl
  obtain ⟨b, o, e, hlt, hc⟩ := own_slGone h hn hl
  refine ⟨b, o, e, hlt, fun hm => ?_, hc⟩
  obtain ⟨t, cs, k, hne⟩ := hb b hm
  rcases h.2 with ⟨h1, h2⟩ | ⟨g', cap', cur, h1, _, h3, _⟩
  · rw [e] at h1; cases h1
  · rw [e] at h1
    injection h1 with h1 _ _
    injection h1 with h1
    injection h1 with h1 _
    subst h1
    rw [Bk, h3] at k
    injection k with k
    injection k with _ k _
    exact hne k.symm
theorem own_pairRow {w : World} {base cap n : Nat} {G : Option Addr} {log : Gone} (h : OwnGone w base (.slice G n cap) log) (hn : n = log.length) : PairRow w G log := by
  intro hl
  obtain ⟨b, o, e, hlt, hc⟩ := own_slGone h hn hl
  rcases h.2 with ⟨h1, h2⟩ | ⟨g', cap', cur, h1, _, h3, _⟩
  · rw [e] at h1; cases h1
  · rw [e] at h1
    injection h1 with h1 _ _
    injection h1 with h1
    injection h1 with h1 _
    subst h1
    exact ⟨b, o, cur, e, h3, hc⟩
def ClonedG (g : Gone) (w : World) (e : Ending) (w' : World) : Prop := ∃ G n c, e = .returned (.slice G n c) ∧ n = g.length ∧ NilOk G n c ∧ OwnGone w' w.heap.size (.slice G n c) g ∧ Below w.heap.size w w'
set_option maxRecDepth 100000 in
theorem cloneg_any (A : Option Addr) (n c : Nat) (g : Gone) (w : World) (hn : n = g.length) (hA : NilOk A n c) (h : SlGone w w.heap.size A g) (hm : g.length ≤ 1000) :
    Calls Try.prog 32 #[.slice A n c] w (ClonedG g w) := by
  subst hn
  obtain ⟨i0, hi0, hz0, hz1, hz2⟩ := info_parts pair_info
  cases A with
  | none =>
    obtain ⟨h0, rfl⟩ := hA rfl
    have hg : g = [] := List.eq_nil_of_length_eq_zero h0
    subst hg
    have hq0 := fun (W : World) => Lib.run_eql_slice_nil (P := Try.prog) W 48 51 none 0 0 0 0 Try.underlying48
    go_enter Try.func32, Try.ntmps32
    go_wp2
    go_ret
    exact ⟨none, 0, 0, rfl, rfl, fun _ => ⟨rfl, rfl⟩, World.ownsRow_nil _ _ _ _, Below.refl _ _⟩
  | some ad =>
    have hq := fun (W : World) => Lib.run_eql_slice_nil (P := Try.prog) W 48 51 (some ad) g.length c 0 0 Try.underlying48
    have hown0 : (w.alloc (.cells #[] 51)).ownsRow w.heap.size 51 2 (.slice (some ⟨w.heap.size, 0, none⟩) 0 0) 0 [] :=
      ⟨rfl, .inr ⟨w.heap.size, 0, #[], rfl, Nat.le_refl _, Bk.made w 51 #[], Nat.le_refl _, by simp [maxLen], rfl, rfl⟩⟩
    have hsl := h.below (below_al (Below.refl w.heap.size w) (.cells #[] 51))
    have hnews : ∀ j u, (pairCells g)[j]? = some u → (w.alloc (.cells #[] 51)).cell? (ad.add j) = some u := by
      intro j u hu
      have hj := (List.getElem?_eq_some_iff.1 hu).1
      rw [pairCells_len] at hj
      obtain ⟨b, o, he, hb, hc⟩ := hsl (by omega)
      injection he with he
      subst he
      rw [Go.WideShapes.add_plain]
      obtain ⟨k, r, h1, h2⟩ := pairCells_at g j u hu
      rcases h2 with ⟨rfl, rfl⟩ | ⟨rfl, rfl⟩
      · exact (hc k r h1).1
      · exact (hc k r h1).2
    go_enter Try.func32, Try.ntmps32
    go_wp2_with (at_builtin; refine wpList_append_own_at _ rfl (.tmp 5) (.tmp 6) _ rfl w.heap.size 51 i0 _ 2 16 Try.underlying48 hi0 hz0 hz1 hz2 rfl (by omega) (.slice (some ⟨w.heap.size, 0, none⟩) 0 0) 0 [] rfl hown0 ad g.length c (pairCells g) rfl (by rw [pairCells_len]; omega) hnews (pairCells_one g) (by simp only [maxLen]; omega) (by omega) (by simp []; try omega) ?_; intro v' w' hown hgrow _ hat)
    go_ret
    rw [Nat.zero_add] at hown
    have hv : ∃ G c', v' = .slice G g.length c' ∧ NilOk G g.length c' := by
      rcases hown.2 with ⟨h1, h2⟩ | ⟨g', cap, cur, h1, _⟩
      · exact ⟨none, 0, by rw [h1, h2], fun _ => ⟨h2, rfl⟩⟩
      · exact ⟨_, _, h1, fun h => by cases h⟩
    obtain ⟨G, c', rfl, hnil⟩ := hv
    refine ⟨G, g.length, c', rfl, rfl, hnil, by simpa [OwnGone] using hown, (below_al (Below.refl _ _) _).grown hgrow (by simp) ?_⟩
    intro k hk
    simp [Value.ownBlock] at hk
    omega
end Go.Proofs.Ytgjdjgainjedhaa
