/- TaskNumbers. Printed by nums_gen.py. -/
import Derived.Test.YtcjaomiihajjbaaNumQ
import Derived.Test.YtcjaomiihajjbaaFew
namespace Go.Proofs.Ytcjaomiihajjbaa
open Go.RowKit
set_option linter.unusedVariables false
attribute [local go_sem ↓] Go.wp_at_zero Go.wp_at_succ

abbrev mkC : Array Value := #[.int .i64 11, .int .i64 0, .int .i64 1, .int .i64 0]
def opCells (l : List Opr) : List Value := l.flatMap fun o => (oprC o).toList
theorem opCells_snoc (l : List Opr) (o : Opr) : opCells (l ++ [o]) = opCells l ++ (oprC o).toList := by simp [opCells]
theorem opCells_get (l : List Opr) : ∀ (k : Nat) (s : Opr), l[k]? = some s → ∀ i, i < 4 → (opCells l)[k * 4 + i]? = (oprC s)[i]? := by
  induction l with
  | nil => intro k s h; simp at h
  | cons a l ih =>
    intro k s h i hi
    have e : opCells (a :: l) = (oprC a).toList ++ opCells l := rfl
    rw [e]
    cases k with
    | zero =>
      simp only [List.getElem?_cons_zero, Option.some.injEq] at h
      subst h
      rw [List.getElem?_append_left (by simp; omega)]
      simp
    | succ k =>
      simp only [List.getElem?_cons_succ] at h
      rw [List.getElem?_append_right (by simp; omega)]
      rw [← ih k s h i hi]
      congr 1
      simp
      omega
theorem slOps_own {w : World} {base : Nat} {G : Option Addr} {cap : Nat} {l : List Opr} (h : w.ownsRow base 30 4 (.slice G l.length cap) l.length (opCells l)) : SlOps w w.heap.size G l := by
  intro hl
  obtain ⟨g, cap', he, _, hg⟩ := World.ownsRow.form h hl
  injection he with he _ _
  subst he
  refine ⟨g, 0, rfl, hg, fun k s hk => ?_⟩
  have hkl := (List.getElem?_eq_some_iff.1 hk).1
  have hc : ∀ i, i < 4 → w.cell? ⟨g, k * 4 + i, none⟩ = (oprC s)[i]? := fun i hi => by
    rw [World.ownsRow.cellAt h (k * 4 + i) (by omega)]
    exact opCells_get l k s hk i hi
  simp only [Nat.zero_add]
  exact ⟨hc 0 (by omega), hc 1 (by omega), hc 2 (by omega), hc 3 (by omega)⟩
theorem op_info : (Try.prog.info? 30).map (fun i => (i.zero, i.size, i.bytes)) = some (some (.agg #[.int .i64 0, .int .i64 0, .int .i64 0, .int .i64 0]), 4, 32) := by kernel_rfl
theorem ops_info : (Try.prog.info? 28).map (fun i => (i.zero, i.size, i.bytes)) = some (some (.slice none 0 0), 1, 24) := by kernel_rfl
theorem row_news {w : World} {t : TypeId} (cs : Array Value) : ∀ (j : Nat) (u : Value), cs.toList[j]? = some u → (w.alloc (.cells cs t)).cell? ((⟨w.heap.size, 0, none⟩ : Addr).add j) = some u := by
  intro j u hu
  rw [Go.WideShapes.add_plain, Nat.zero_add, (Bk.made w t cs).cell j]
  simpa using hu
/-- The rows of a play that is being made: each seat's operations. -/
structure WantsAt (w : World) (base b8 : Nat) (t : Int) (T : Option Addr) (m d : Nat) (want : List (List Opr)) (A : Option Addr) (c : Nat) (rows : List Value) : Prop where
  kP : Bk w b8 27 #[.int .u8 t, .slice A want.length c, .slice T m d]
  own : w.ownsRow base 28 1 (.slice A want.length c) want.length rows
  at_ : ∀ (j : Nat) (ops : List Opr), want[j]? = some ops → ∃ G cap, rows[j]? = some (.slice G ops.length cap) ∧ w.ownsRow base 30 4 (.slice G ops.length cap) ops.length (opCells ops)
section
variable {w w' : World} {base b8 : Nat} {t : Int} {T : Option Addr} {m d : Nat} {want : List (List Opr)} {A : Option Addr} {c : Nat} {rows : List Value}
theorem WantsAt.keep (h : WantsAt w base b8 t T m d want A c rows) (hb : Below w.heap.size w w') : WantsAt w' base b8 t T m d want A c rows :=
  ⟨h.kP.keep hb, own_keepb h.own hb, fun j ops hj => by
    obtain ⟨G, cap, h1, h2⟩ := h.at_ j ops hj
    exact ⟨G, cap, h1, own_keepb h2 hb⟩⟩
theorem WantsAt.sl (h : WantsAt w base b8 t T m d want A c rows) : SlWant w w.heap.size A want := by
  intro hl
  obtain ⟨g, cap', he, _, hg⟩ := World.ownsRow.form h.own hl
  injection he with he _ _
  subst he
  refine ⟨g, 0, rfl, hg, fun k ops hk => ?_⟩
  obtain ⟨G, cap, h1, h2⟩ := h.at_ k ops hk
  have hkl := (List.getElem?_eq_some_iff.1 hk).1
  refine ⟨G, cap, ?_, slOps_own h2⟩
  rw [Nat.zero_add, World.ownsRow.cellAt h.own k (by omega)]
  exact h1
end
def mks (n : Nat) : List Opr := List.replicate n mkOp
theorem mks_succ (n : Nat) : mks (n + 1) = mks n ++ [mkOp] := by simp [mks, List.replicate_succ']
def boolZ (n : Nat) : Array Value := (List.replicate n (Value.bool false)).toArray
theorem made_bools (N : Nat) : madeCells #[Value.bool false] N = boolZ N := by
  apply Array.ext
  · simp [madeCells, boolZ]
  · intro i h1 h2
    simp [madeCells, Nat.mod_one, boolZ]
theorem bool_info : (Try.prog.info? 4).map (fun i => (i.zero, i.size, i.bytes)) = some (some (.bool false), 1, 1) := by kernel_rfl
theorem run_make_bools (w : World) (N : Nat) (h : N ≤ 1000000) :
    (Instr.makeSlice 42 (.int .i64 N) (.int .i64 N)).run Try.prog w = .ok (.slice (some ⟨w.heap.size, 0, none⟩) N N) (w.alloc (.cells (boolZ N) 4)) := by
  rw [run_make_row Try.underlying42 bool_info w N h (by omega), Nat.mul_one]
  show Result.ok _ (w.alloc (.cells (madeCells #[Value.bool false] N) 4)) = _
  rw [made_bools]
theorem bsum_append {α : Type} (l r : List α) (f : α → Nat) : bsum (l ++ r) f = bsum l f + bsum r f := by simp [bsum]
theorem cellN_get {zs : List Int} {c : Int} (h0 : 0 ≤ c) (h1 : c < zs.length) : cellN zs c = zs.getD c.toNat 0 := by
  unfold cellN
  rw [if_neg (by omega)]
/-- Which numbers were met. -/
structure MetAt (w : World) (gm N : Nat) (outs : List StepM) (cs : Array Value) : Prop where
  k : Bk w gm 4 cs
  size : cs.size = N + 1
  at_ : ∀ v : Nat, v ≤ N → cs[v]? = some (.bool (decide (0 < bsum outs (oVal v))))
def MRel (w0 : World) (bL b14 gm : Nat) (l : Ly) (A : Option Addr) (cap : Nat) (outs : List StepM) (g cg : Nat) (zs : List Int) (N : Nat) (v16 v17 v18 : Value) (wr : World) : Prop :=
  ∃ k : Nat, k ≤ outs.length ∧ v18 = .int .i64 k ∧ v17 = .int .i64 ((1 + bsum (outs.take k) oDone : Nat) : Int) ∧ v16 = .int .i64 ((1 + bsum (outs.take k) oIs : Nat) : Int) ∧ Below w0.heap.size w0 wr ∧ Bk wr bL 34 (lyC l) ∧ Bk wr b14 39 #[.slice (some ⟨g, 0, none⟩) zs.length cg] ∧ wr.ownsRow w0.heap.size 52 18 (.slice A outs.length cap) outs.length (stepCells outs) ∧ OwnInts wr 0 (.slice (some ⟨g, 0, none⟩) zs.length cg) zs ∧ ∃ cs, MetAt wr gm N (outs.take k) cs
def InRel (ws : World) (n : Nat) (v10 v11 : Value) (wr : World) : Prop :=
  ∃ i : Nat, i ≤ n ∧ v11 = .int .i64 i ∧ Below ws.heap.size ws wr ∧ wr.ownsRow ws.heap.size 30 4 v10 i (opCells (mks i))
def cnt3 (a b c : Nat) : List Nat := [a % 6, b % 6, c % 6]
def OutRel (w0 : World) (b4 b8 : Nat) (a b c : Nat) (t : Int) (T : Option Addr) (m d : Nat) (v9 : Value) (wr : World) : Prop :=
  ∃ k : Nat, k ≤ 3 ∧ v9 = .int .i64 k ∧ Below w0.heap.size w0 wr ∧ Bk wr b4 22 #[.int .u8 a, .int .u8 b, .int .u8 c] ∧ ∃ A c' rows, WantsAt wr w0.heap.size b8 t T m d (((cnt3 a b c).take k).map mks) A c' rows
set_option maxRecDepth 100000 in
set_option maxHeartbeats 8000000 in
theorem numbers_any (t : Int) (a b c : Nat) (T : Option Addr) (m d : Nat) (turns : List Nat) (w : World) (t0 : 0 ≤ t) (t1 : t < 256) (ha : a < 256) (hb3 : b < 256) (hc3 : c < 256) (hm : turns.length = m) (hT : SlU8 w w.heap.size T turns) :
    Calls Try.prog 3 #[.int .u8 t, .agg #[.int .u8 (a : Nat), .int .u8 (b : Nat), .int .u8 (c : Nat)], .slice T m d] w (BoolBelow true w) := by
  have HT := Lib.hid hT
  have HM := Lib.hid hm
  clear hT hm
  have k4 := Bk.made w 22 #[.int .u8 (a : Nat), .int .u8 (b : Nat), .int .u8 (c : Nat)]
  have hbl := below_al (Below.refl w.heap.size w) (.cells #[.int .u8 (a : Nat), .int .u8 (b : Nat), .int .u8 (c : Nat)] 22)
  go_enter Try.func3, Try.ntmps3
  go_wp2_with fail
  (with_reducible refine (awake_any _).mono ?_)
  rintro e w1 ⟨rfl, hb⟩
  replace k4 := k4.keep hb
  replace hbl := below_tr hbl hb
  clear hb
  by_cases hm2 : 200 < m
  · have g1 : decide ((200 : Int) < m) = true := by simp; omega
    go_wp2
    go_ret
    exact ⟨rfl, hbl⟩
  have g1 : decide ((200 : Int) < m) = false := by simp; omega
  obtain ⟨i0, hi0, hz0, hz1, hz2⟩ := info_parts op_info
  obtain ⟨j0, hj0, hy0, hy1, hy2⟩ := info_parts ops_info
  go_wp2_with fail
  have kP := Bk.made w1 27 #[.int .u8 t, .slice none 0 0, .slice T m d]
  have hrel0 : OutRel w w.heap.size w1.heap.size a b c t T m d (.int .i64 0) (w1.alloc (.cells #[.int .u8 t, .slice none 0 0, .slice T m d] 27)) :=
    ⟨0, by omega, rfl, below_al hbl _, k4.alloc _, none, 0, [], ⟨kP, World.ownsRow_nil _ _ _ _, fun j ops hj => by simp [cnt3] at hj⟩⟩
  have zb : w.heap.size < w1.heap.size := k4.lt
  have HR := Lib.hid hrel0
  clear hrel0 k4 kP hbl g1
  generalize w1.alloc (.cells #[.int .u8 t, .slice none 0 0, .slice T m d] 27) = w2 at *
  generalize w1.heap.size = b8 at *
  go_loopw [9] (fun v9 wr => OutRel w w.heap.size b8 a b c t T m d v9 wr) (fun v9 _ => 3 - (intOf v9).toNat)
  case atStart => exact HR.out
  case round =>
    clear HR
    obtain ⟨k, hk, rfl, hbl, k4, A, c', rows, hwa⟩ := hrel
    have hk4 : k = 0 ∨ k = 1 ∨ k = 2 ∨ k = 3 := by omega
    by_cases hlt : k < 3
    · obtain ⟨x, hx, hx2⟩ : ∃ x : Nat, wr.cell? ⟨w.heap.size, k, none⟩ = some (.int .u8 (x : Nat)) ∧ (x < 256 ∧ (cnt3 a b c)[k]? = some (x % 6)) := by
        have q := k4.cell k
        rcases hk4 with rfl | rfl | rfl | rfl
        · exact ⟨a, q, ha, rfl⟩
        · exact ⟨b, q, hb3, rfl⟩
        · exact ⟨c, q, hc3, rfl⟩
        · omega
      have hx3 := hx2.1
      have HX := Lib.hid hx2.2
      have HWA := Lib.hid hwa
      have i1 : (k : Int) < 3 := by omega
      have z4 := k4.lt
      clear hk4 hx2 hwa
      obtain ⟨ws, hws⟩ : ∃ ws, ws = wr := ⟨_, rfl⟩
      subst hws
      obtain ⟨wk, hwk⟩ : ∃ l, ((cnt3 a b c).take k).map mks = l := ⟨_, rfl⟩
      rw [hwk] at HWA
      have hlk : wk.length = k := by rw [← hwk]; simp [cnt3]; omega
      have HLK := Lib.hid hlk
      obtain ⟨n6, hn6⟩ : ∃ n, x % 6 = n := ⟨_, rfl⟩
      have hx6 : (x : Int) % 6 = (n6 : Nat) := by omega
      have hn6b : n6 < 6 := by omega
      have HWK : Hid (((cnt3 a b c).take (k + 1)).map mks = wk ++ [mks n6]) := Lib.hid (by
        rw [List.take_add_one, HX.out, List.map_append, hwk, hn6]
        rfl)
      clear hwk hlk hn6 HX
      go_wp2_with fail
      go_loopw [10, 11] (fun v10 v11 wr' => InRel ws n6 v10 v11 wr') (fun _ v11 _ => n6 - (intOf v11).toNat)
      case atStart => exact ⟨0, Nat.zero_le _, rfl, Below.refl _ _, World.ownsRow_nil _ _ _ _⟩
      case round =>
        obtain ⟨i, hi, rfl, hb', hown⟩ := hrel
        have hx' : wr.cell? ⟨w.heap.size, k, none⟩ = some (.int .u8 (x : Nat)) := (hb'.cell (p := ⟨w.heap.size, k, none⟩) z4).trans hx
        have z4' : w.heap.size < wr.heap.size := Nat.lt_of_lt_of_le z4 hb'.size
        by_cases hlt2 : i < n6
        · have g1 : decide (i < n6) = true := by simp; omega
          have g2 : decide ((i : Int) < (n6 : Int)) = true := by simp; omega
          have hown1 := World.ownsRow.alloc hown (.cells mkC 30)
          have hb1 := below_al hb' (.cells mkC 30)
          go_wp2_with (at_builtin; go_must (refine wpList_append_own_at _ rfl (.tmp 41) (.tmp 43) _ rfl ws.heap.size 30 i0 _ 4 32 Try.underlying28 hi0 hz0 hz1 hz2 rfl (by omega) u10 i (opCells (mks i)) rfl hown1 ⟨wr.heap.size, 0, none⟩ 1 1 mkC.toList rfl rfl (row_news mkC) (by simp [Value.oneCell']) (by simp only [maxLen]; omega) (by omega) (by simp; have := hb'.size; omega) ?_; intro v9 w5 hrow4 hgrow4 _ _))
          refine ⟨⟨i + 1, by omega, by go_num, grown_below hb1 hown1 hgrow4 hb1.size (Nat.le_refl _), ?_⟩, by simp [intOf]; omega⟩
          rw [mks_succ, opCells_snoc]
          exact hrow4
        · have g1 : decide (i < n6) = false := by simp; omega
          have g2 : decide ((i : Int) < (n6 : Int)) = false := by simp; omega
          obtain rfl : i = n6 := by omega
          obtain ⟨G, cg, rfl⟩ := own_slice hown
          have hwa := HWA.out.keep hb'
          have hbl2 := below_tr hbl hb'
          have k4' := k4.keep hb'
          have q8 : wr.cell? ⟨b8, 1, none⟩ = some (.slice A k c') := by
            have := hwa.kP.cell 1
            rw [HLK.out] at this
            exact this
          have l8 := hwa.kP.lt
          have hrow := World.ownsRow.alloc hwa.own (.cells #[.slice G i cg] 28)
          have hwa1 := hwa.keep (below_al (Below.refl _ _) (.cells #[.slice G i cg] 28))
          have hbl3 := below_al hbl2 (.cells #[.slice G i cg] 28)
          have k41 := k4'.alloc (.cells #[.slice G i cg] 28)
          have hown1 := World.ownsRow.alloc hown (.cells #[.slice G i cg] 28)
          rw [HLK.out] at hrow
          have HWA1 := Lib.hid (And.intro hwa1 hown1)
          clear hown hwa hwa1 hown1 HWA
          go_upto_region 13 with fail
          obtain ⟨w9, hw9⟩ : ∃ w9, w9 = wr := ⟨_, rfl⟩
          subst hw9
          go_wp2_with (at_builtin; go_must (refine wpList_append_own_at _ rfl (.tmp 46) (.tmp 48) _ rfl w.heap.size 28 j0 _ 1 24 Try.underlying25 hj0 hy0 hy1 hy2 rfl (by omega) (.slice A k c') k rows rfl hrow ⟨w9.heap.size, 0, none⟩ 1 1 [.slice G i cg] rfl rfl (row_news #[.slice G i cg]) (by simp [Value.oneCell']) (by simp only [maxLen]; omega) (by omega) (by simp; have := hbl2.size; omega) ?_; intro vW w5 hrow4 hgrow4 _ _); (obtain ⟨GW, cW, rfl⟩ := own_slice hrow4); have hk5 := keptT_grown hrow hgrow4; have kP5 := HWA1.out.1.kP.keptT hk5 (by decide); have q9 : w5.cell? ⟨b8, 1, none⟩ = some (.slice A wk.length c') := kP5.cell 1; have f9 := kP5.free 1; have l9 := kP5.lt)
          have hk6 := keptT_set kP5 1 (.slice GW (k + 1) cW)
          have k6 := kP5.stored 1 (.slice GW (k + 1) cW)
          have hbl5 := below_set (grown_below hbl3 hrow hgrow4 hbl3.size (Nat.le_refl _)) (p := ⟨b8, 1, none⟩) (by dsimp only; omega) (.slice GW (k + 1) cW)
          refine ⟨⟨k + 1, by omega, by go_num, hbl5, (k41.keptT hk5 (by decide)).keptT hk6 (by decide), GW, cW, rows ++ [.slice G i cg], ?_⟩, by simp [intOf]; omega⟩
          rw [HWK.out]
          have hl1 : (wk ++ [mks i]).length = k + 1 := by rw [List.length_append, HLK.out]; rfl
          refine ⟨?_, ?_, fun j ops hj => ?_⟩
          · rw [hl1]
            exact k6
          · rw [hl1]
            exact own_keptT hrow4 hk6 (by decide)
          · have hown2 := own_keptT (own_keptT HWA1.out.2 hk5 (by decide)) hk6 (by decide)
            have hrl : rows.length = k := by have := hrow.1; omega
            by_cases hjk : j < k
            · rw [List.getElem?_append_left (by rw [HLK.out]; exact hjk)] at hj
              obtain ⟨G', cap', e1, e2⟩ := HWA1.out.1.at_ j ops hj
              exact ⟨G', cap', by rw [List.getElem?_append_left (by omega)]; exact e1, own_keptT (own_keptT e2 hk5 (by decide)) hk6 (by decide)⟩
            · have hjl := (List.getElem?_eq_some_iff.1 hj).1
              rw [hl1] at hjl
              obtain rfl : j = k := by omega
              rw [List.getElem?_append_right (by rw [HLK.out]; exact Nat.le_refl _), HLK.out, Nat.sub_self] at hj
              simp only [List.getElem?_cons_zero, Option.some.injEq] at hj
              subst hj
              have hml : (mks i).length = i := by simp [mks]
              rw [hml]
              exact ⟨G, cg, by rw [List.getElem?_append_right (by omega), hrl, Nat.sub_self]; rfl, own_lower hown2 hbl.size⟩
    · obtain rfl : k = 3 := by omega
      obtain ⟨want, hwk⟩ : ∃ l, ((cnt3 a b c).take 3).map mks = l := ⟨_, rfl⟩
      rw [hwk] at hwa
      have hlk : want.length = 3 := by rw [← hwk]; rfl
      have hall : ∀ ops ∈ want, ops.length ≤ 7 ∧ ∀ op ∈ ops, op = mkOp := by
        intro ops ho
        rw [← hwk] at ho
        simp [cnt3] at ho
        have hm6 : ∀ n : Nat, (mks (n % 6)).length ≤ 7 ∧ ∀ op ∈ mks (n % 6), op = mkOp := fun n => ⟨by simp [mks]; omega, fun op h => by
          unfold mks at h
          exact (List.mem_replicate.1 h).2⟩
        rcases ho with rfl | rfl | rfl
        · exact hm6 a
        · exact hm6 b
        · exact hm6 c
      have HALL := Lib.hid (And.intro hlk hall)
      have kP : Bk wr b8 27 (playC t A 3 c' T m d) := by have := hwa.kP; rw [hlk] at this; exact this
      have hsl := hwa.sl
      have HSL := Lib.hid hsl
      have HOK := Lib.hid (playL_ok 3 t (by omega) (by omega))
      clear hwk hlk hall hwa hsl k4
      obtain ⟨w9, hw9⟩ : ∃ w9, w9 = wr := ⟨_, rfl⟩
      subst hw9
      have q0 := kP.cell 0
      have q1 := kP.cell 1
      have q2 := kP.cell 2
      have z0 := kP.lt
      simp at q0 q1 q2
      go_wp2_with fail
      (with_reducible refine (where_any t A 3 c' T m d _ t0 t1 (by omega) (by omega)).mono ?_)
      rintro e w3 ⟨rfl, hb⟩
      clear q0 q1 q2 z0
      replace kP := kP.keep hb
      have hsl := HSL.out.below hb
      replace hsl := hsl.more hb.size
      replace hbl := below_tr hbl hb
      clear hb HSL
      obtain ⟨l, hl⟩ : ∃ l, playL 3 t = l := ⟨_, rfl⟩
      rw [hl] at HOK
      rw [hl]
      have HL := Lib.hid hl
      have HSL := Lib.hid hsl
      clear hl hsl
      go_upto_region 15 with (refine wpList_store_new rfl 34 (.tmp 12) (.tmp 52) rfl rfl w3.heap.size _ _ (lyC l) rfl rfl rfl rfl (by kernel_rfl) rfl (by simp [Value.oneCell']) ?_)
      have kL := Bk.made w3 34 (lyC l)
      have hsl := (HSL.out.below (below_al (Below.refl _ _) (.cells (lyC l) 34))).more (below_al (Below.refl _ _) (.cells (lyC l) 34)).size
      replace kP := kP.alloc (.cells (lyC l) 34)
      replace hbl := below_al hbl (.cells (lyC l) 34)
      clear HSL
      generalize w3.alloc (.cells (lyC l) 34) = w4 at *
      generalize w3.heap.size = bL at *
      have q0 := kP.cell 0
      have q1 := kP.cell 1
      have q2 := kP.cell 2
      have z0 := kP.lt
      simp at q0 q1 q2
      have hst := (HT.out.below hbl).more hbl.size
      have hok : WantOk want := fun ops ho op hop => by
        rw [(HALL.out.2 ops ho).2 op hop]
        exact ⟨⟨by decide, by decide⟩, ⟨by decide, by decide⟩⟩
      have HOKW := Lib.hid hok
      clear hok
      go_wp2_with fail
      (with_reducible refine (played_any t A 3 c' T m d want turns _ t0 t1 (by omega) (by omega) HALL.out.1 HM.out (by omega) hsl hst HOKW.out).mono ?_)
      rintro e w5 ⟨A5, cap, g, cg, rfl, hsteps, hmem, hb⟩
      clear q0 q1 q2 z0 hsl hst
      replace kL := kL.keep hb
      replace hsteps := own_lower hsteps hbl.size
      replace hbl := below_tr hbl hb
      clear hb kP
      have hend := numbers_end (l := playL 3 t) (by rw [HL.out]; exact HOK.out) (want := want) (turns := turns) HALL.out.1 HALL.out.2 (by rw [HM.out]; omega)
      rw [HL.out] at hend hsteps hmem
      rw [HL.out]
      generalize bsum want List.length = total at *
      generalize (runP l want (startP l 3 (beginM l)) (whosP 3 turns)).1 = s at *
      obtain ⟨zs, seats, outs⟩ := s
      dsimp only at hsteps hmem ⊢
      have HE := Lib.hid hend
      have hlen : outs.length ≤ 400 := hend.len
      clear hend
      have hN0 : 1 ≤ l.c.tasks := HOK.out.t1
      have hN1 : l.c.tasks ≤ 64 := HOK.out.fit.t1
      obtain ⟨N, hN⟩ : ∃ N : Nat, l.c.tasks = N := ⟨l.c.tasks.toNat, by omega⟩
      have HN := Lib.hid hN
      rw [hN] at hN0 hN1
      clear hN
      have hgM : g < w5.heap.size := by
        rcases Nat.eq_zero_or_pos zs.length with h0 | h0
        · exfalso
          have h1 := HE.out.ml
          have h2 := HOK.out.ts
          have h3 := HOK.out.fit.k0
          have h4 := HOK.out.t1
          dsimp only at h1
          omega
        · exact (World.ownsRow.lt hmem g rfl).2
      have hmk : ∀ w, (Instr.makeSlice 42 (.int .i64 ((N + 1 : Nat) : Int)) (.int .i64 ((N + 1 : Nat) : Int))).run Try.prog w = .ok (.slice (some ⟨w.heap.size, 0, none⟩) (N + 1) (N + 1)) (w.alloc (.cells (boolZ (N + 1)) 4)) := fun w => run_make_bools w (N + 1) (by omega)
      have hmk' : ∀ w, (Instr.makeSlice 42 (.int .i64 ((N : Int) + 1)) (.int .i64 ((N : Int) + 1))).run Try.prog w = .ok (.slice (some ⟨w.heap.size, 0, none⟩) (N + 1) (N + 1)) (w.alloc (.cells (boolZ (N + 1)) 4)) := hmk
      have HMK := Lib.hid hmk'
      clear hmk hmk'
      have kL5 := kL.alloc (.cells #[.slice (some ⟨g, 0, none⟩) zs.length cg] 39)
      have q4 : (w5.alloc (.cells #[.slice (some ⟨g, 0, none⟩) zs.length cg] 39)).cell? ⟨bL, 4, none⟩ = some (.int .i64 (N : Int)) := by
        rw [kL5.cell 4, ← HN.out]
        rfl
      have zL := kL.lt
      go_wp2_with (refine wpList_make_row rfl _ _ rfl (N + 1) _ rfl rfl (HMK.out _) ?_)
      have kM := (Bk.made w5 39 #[.slice (some ⟨g, 0, none⟩) zs.length cg]).alloc (.cells (boolZ (N + 1)) 4)
      have kB := Bk.new (w5.alloc (.cells #[.slice (some ⟨g, 0, none⟩) zs.length cg] 39)) (g := w5.heap.size + 1) (by simp) 4 (boolZ (N + 1))
      have hrel0 : MRel w bL w5.heap.size (w5.heap.size + 1) l A5 cap outs g cg zs N (.int .i64 1) (.int .i64 1) (.int .i64 0) ((w5.alloc (.cells #[.slice (some ⟨g, 0, none⟩) zs.length cg] 39)).alloc (.cells (boolZ (N + 1)) 4)) :=
        ⟨0, Nat.zero_le _, rfl, rfl, rfl, below_al (below_al hbl _) _, kL5.alloc _, kM, World.ownsRow.alloc (World.ownsRow.alloc hsteps _) _, (hmem.alloc _).alloc _, boolZ (N + 1), kB, by simp [boolZ], fun v hv => by simp [boolZ, bsum, show v < N + 1 by omega]⟩
      have HR := Lib.hid hrel0
      have zw : w.heap.size ≤ w5.heap.size := hbl.size
      clear hrel0 kM kB kL kL5 hbl hsteps hmem q4 HMK
      generalize (w5.alloc (.cells #[.slice (some ⟨g, 0, none⟩) zs.length cg] 39)).alloc (.cells (boolZ (N + 1)) 4) = w6 at *
      generalize w5.heap.size = b14 at *
      go_loopw [16, 17, 18] (fun v16 v17 v18 wr => MRel w bL b14 (b14 + 1) l A5 cap outs g cg zs N v16 v17 v18 wr) (fun _ _ v18 _ => outs.length - (intOf v18).toNat)
      case atStart => exact HR.out
      case round =>
        clear HR
        obtain ⟨k, hk, rfl, rfl, rfl, hbl, kL, kM, hsteps, hmem, cs, hmet⟩ := hrel
        by_cases hlt : k < outs.length
        · obtain ⟨x, hx⟩ : ∃ x, outs[k]? = some x := ⟨_, List.getElem?_eq_getElem hlt⟩
          obtain ⟨gA, capA, hA, hA1, hA2⟩ := World.ownsRow.form hsteps (by omega)
          injection hA with hA _ hcA
          subst hA
          have cl : ∀ i, i < 18 → wr.cell? ⟨gA, k * 18 + i, none⟩ = (stepC x)[i]? := fun i hi => by
            rw [World.ownsRow.cellAt hsteps (k * 18 + i) (by omega)]
            exact stepCells_get outs k x hx i hi
          have d0 := cl 12 (by omega)
          have d1 := cl 13 (by omega)
          have d2 := cl 14 (by omega)
          have d3 := cl 15 (by omega)
          simp at d0 d1 d2 d3
          have htk : outs.take (k + 1) = outs.take k ++ [x] := by rw [List.take_add_one, hx]; rfl
          have hxm := List.mem_of_getElem? hx
          have HXO := Lib.hid (HE.out.outs x hxm)
          have hb1 : bsum (outs.take k) oDone ≤ 400 := Nat.le_trans (bsum_le_length _ _ fun x _ => toNat_le _) (by rw [List.length_take]; omega)
          have hb2 : bsum (outs.take k) oIs ≤ 400 := Nat.le_trans (bsum_le_length _ _ fun x _ => toNat_le _) (by rw [List.length_take]; omega)
          have HTK := Lib.hid htk
          have HDV : Hid (∀ v : Int, bsum (outs.take k) (oVal v) + oVal v x ≤ 1) := Lib.hid (fun v => by
            have h1 := HE.out.num v
            dsimp only at h1
            have h2 : outs = (outs.take k ++ [x]) ++ outs.drop (k + 1) := by rw [← htk, List.take_append_drop]
            rw [h2] at h1
            rw [bsum_append, bsum_snoc] at h1
            omega)
          have HK0 := Lib.hid (And.intro hbl (And.intro kL (And.intro kM (And.intro hsteps (And.intro hmem hmet)))))
          have i1 : (k : Int) < outs.length := by omega
          clear cl hx htk hsteps hmem hcA hxm hmet
          obtain ⟨bd, hbd⟩ : ∃ n, bsum (outs.take k) oDone = n := ⟨_, rfl⟩
          obtain ⟨bi, hbi⟩ : ∃ n, bsum (outs.take k) oIs = n := ⟨_, rfl⟩
          rw [hbd] at hb1
          rw [hbi] at hb2
          rw [hbd, hbi]
          have HBD := Lib.hid (And.intro hbd hbi)
          clear hbd hbi
          obtain ⟨who, at_, op, acc, res, done, val, is, err, point⟩ := x
          dsimp only at d0 d1 d2 d3
          cases done with
          | false =>
            go_wp2_with fail
            refine ⟨⟨k + 1, by omega, by go_num, ?_, ?_, HK0.out.1, HK0.out.2.1, HK0.out.2.2.1, HK0.out.2.2.2.1, HK0.out.2.2.2.2.1, cs, HK0.out.2.2.2.2.2.k, HK0.out.2.2.2.2.2.size, fun v hv => ?_⟩, by simp [intOf]; omega⟩
            · rw [HTK.out, bsum_snoc, HBD.out.1]; rfl
            · rw [HTK.out, bsum_snoc, HBD.out.2]; rfl
            · rw [HTK.out, bsum_snoc, show oVal (v : Int) _ = 0 from rfl, Nat.add_zero]
              exact HK0.out.2.2.2.2.2.at_ v hv
          | true =>
            cases is with
            | false =>
              have he : err = 10 := (HXO.out rfl).2 rfl
              subst he
              go_wp2_with fail
              refine ⟨⟨k + 1, by omega, by go_num, ?_, ?_, HK0.out.1, HK0.out.2.1, HK0.out.2.2.1, HK0.out.2.2.2.1, HK0.out.2.2.2.2.1, cs, HK0.out.2.2.2.2.2.k, HK0.out.2.2.2.2.2.size, fun v hv => ?_⟩, by simp [intOf]; omega⟩
              · rw [HTK.out, bsum_snoc, HBD.out.1, show oDone _ = 1 from rfl]; go_num
              · rw [HTK.out, bsum_snoc, HBD.out.2]; rfl
              · rw [HTK.out, bsum_snoc, show oVal (v : Int) _ = 0 from rfl, Nat.add_zero]
                exact HK0.out.2.2.2.2.2.at_ v hv
            | true =>
              obtain ⟨v1, v2, v3, v4⟩ := (HXO.out rfl).1 rfl
              dsimp only at v1 v2 v3 v4
              obtain ⟨vn, rfl⟩ : ∃ vn : Nat, val = vn := ⟨val.toNat, by omega⟩
              rw [HN.out] at v2
              have q3 := task_lt HOK.out HE.out.ml (vn : Int) 3 (by omega) (by rw [HN.out]; exact v2) (by omega) (by omega)
              have q0 := task_lt HOK.out HE.out.ml (vn : Int) 0 (by omega) (by rw [HN.out]; exact v2) (by omega) (by omega)
              dsimp only at q3 q0
              rw [← cellN_get q3.1 q3.2] at v3
              rw [← cellN_get q0.1 q0.2] at v4
              have HV := Lib.hid (And.intro v3 v4)
              clear v3 v4 q3 q0
              have hmet := HK0.out.2.2.2.2.2
              have hc0 := (hmet.k.cell vn).trans (hmet.at_ vn (by omega))
              have hz : bsum (outs.take k) (oVal (vn : Int)) = 0 := by
                have h1 := HDV.out (vn : Int)
                have h2 : oVal (vn : Int) ⟨who, at_, op, acc, res, true, (vn : Int), true, err, point⟩ = 1 := by simp [oVal]
                rw [h2] at h1
                omega
              rw [hz] at hc0
              have hc0' : wr.cell? ⟨b14 + 1, vn, none⟩ = some (.bool false) := hc0
              have hfz := hmet.k.free vn
              have zg := hmet.k.lt
              have HZ := Lib.hid hz
              clear hc0 hz
              have g1 : decide ((vn : Int) < 2) = false := by simp; omega
              have g2 : decide (((N + 1 : Nat) : Int) ≤ vn) = false := by simp; omega
              have g3 : decide (N + 1 ≤ vn) = false := by simp; omega
              have g4 : decide ((N : Int) + 1 ≤ vn) = false := by simp; omega
              go_upto_region 30 with fail
              clear d0 d1 d2 d3 g1 g2 g3 g4
              have kB := hmet.k
              have hmem := HK0.out.2.2.2.2.1
              clear hmet
              refine wp_region_held_drew (S := fun w' => Bk w' (b14 + 1) 4 cs ∧ Bk w' b14 39 #[.slice (some ⟨g, 0, none⟩) zs.length cg] ∧ Bk w' bL 34 (lyC l)) (by kernel_rfl) ⟨kB.drew, kM.drew, kL.drew⟩ (fun hHeld => ?_)
              clear hHeld
              have hcv : cs[vn]? = some (.bool false) := by rw [← kB.cell vn]; exact hc0'
              have hvl : (vn : Int) < (N : Int) + 1 := by omega
              have hvl2 : vn < N + 1 := by omega
              have hbw := below_drew (Below.refl wr.heap.size wr)
              replace kB := kB.drew
              replace kM := kM.drew
              replace kL := kL.drew
              replace hmem := own_drew hmem
              generalize wr.drew = wd at *
              refine wpAnyH_take (i := 0) (oi := _) (v := .slice (some ⟨b14 + 1, 0, none⟩) (N + 1) (N + 1)) rfl (by kernel_rfl) (by kernel_rfl) (by kernel_rfl) (fun _ _ _ h => h) (Or.inl ⟨by rfl, ?_⟩) ⟨kB, kM, kL⟩ ?_
              · intro w' hSw
                (try simp only [List.getElem_toArray, List.getElem_cons_zero])
                go_simp
              (try simp only [List.getElem_toArray, List.getElem_cons_zero, Act.put, List.setIfInBounds_toArray, List.set_cons_zero, List.set_cons_succ])
              refine wpAnyH_take (i := 1) (oi := _) (v := .int .i64 (vn : Nat)) rfl (by kernel_rfl) (by kernel_rfl) (by kernel_rfl) (fun _ _ _ h => h) (Or.inl ⟨by rfl, ?_⟩) ⟨kB, kM, kL⟩ ?_
              · intro w' hSw
                (try simp only [List.getElem_toArray, List.getElem_cons_succ, List.getElem_cons_zero])
                go_simp
              (try simp only [List.getElem_toArray, List.getElem_cons_succ, List.getElem_cons_zero, Act.put, List.setIfInBounds_toArray, List.set_cons_zero, List.set_cons_succ])
              refine wpAnyH_take (i := 2) (oi := _) (v := .pointer (some ⟨b14 + 1, vn, none⟩)) rfl (by kernel_rfl) (by kernel_rfl) (by kernel_rfl) (fun _ _ _ h => h) (Or.inl ⟨by rfl, ?_⟩) ⟨kB, kM, kL⟩ ?_
              · intro w' hSw
                (try simp only [List.getElem_toArray, List.getElem_cons_succ, List.getElem_cons_zero])
                go_simp
              (try simp only [List.getElem_toArray, List.getElem_cons_succ, List.getElem_cons_zero, Act.put, List.setIfInBounds_toArray, List.set_cons_zero, List.set_cons_succ])
              refine wpAnyH_take (i := 3) (oi := _) (v := .bool false) rfl (by kernel_rfl) (by kernel_rfl) (by kernel_rfl) (fun _ _ _ h => h) (Or.inl ⟨by rfl, ?_⟩) ⟨kB, kM, kL⟩ ?_
              · intro w' hSw
                have s1 := (hSw.1.cell vn).trans hcv
                (try simp only [List.getElem_toArray, List.getElem_cons_succ, List.getElem_cons_zero])
                go_simp
              (try simp only [List.getElem_toArray, List.getElem_cons_succ, List.getElem_cons_zero, Act.put, List.setIfInBounds_toArray, List.set_cons_zero, List.set_cons_succ])
              refine wpAnyH_take (i := 4) (oi := _) (v := .bool false) rfl (by kernel_rfl) (by kernel_rfl) (by kernel_rfl) (fun _ _ _ h => h) (Or.inl ⟨by rfl, ?_⟩) ⟨kB, kM, kL⟩ ?_
              · intro w' hSw
                (try simp only [List.getElem_toArray, List.getElem_cons_succ, List.getElem_cons_zero])
                go_simp
              (try simp only [List.getElem_toArray, List.getElem_cons_succ, List.getElem_cons_zero, Act.put, List.setIfInBounds_toArray, List.set_cons_zero, List.set_cons_succ])
              refine wpAnyH_take (i := 5) (oi := _) (v := .agg #[.slice (some ⟨g, 0, none⟩) zs.length cg]) rfl (by kernel_rfl) (by kernel_rfl) (by kernel_rfl) (fun _ _ _ h => h) (Or.inl ⟨by rfl, ?_⟩) ⟨kB, kM, kL⟩ ?_
              · intro w' hSw
                have s1 := hSw.2.1.cell 0
                simp at s1
                (try simp only [List.getElem_toArray, List.getElem_cons_succ, List.getElem_cons_zero])
                go_simp
              (try simp only [List.getElem_toArray, List.getElem_cons_succ, List.getElem_cons_zero, Act.put, List.setIfInBounds_toArray, List.set_cons_zero, List.set_cons_succ])
              refine wpAnyH_take (i := 6) (oi := _) (v := .agg (lyC l)) rfl (by kernel_rfl) (by kernel_rfl) (by kernel_rfl) (fun _ _ _ h => h) (Or.inl ⟨by rfl, ?_⟩) ⟨kB, kM, kL⟩ ?_
              · intro w' hSw
                (try simp only [List.getElem_toArray, List.getElem_cons_succ, List.getElem_cons_zero])
                simp only [execOp, Instr.loadAt, Instr.sureAddr, Sem.run_bind, Sem.run_pure]
                rw [show (Act.eval _ (Operand.tmp 12)) = Value.pointer (some ⟨bL, 0, none⟩) from rfl]
                simp only [Sem.run_pure, Result.andThen_ok, run_loadVar_row w' bL 34 34 (lyC l) (0, 0) _ hSw.2.2 Try.underlying34 rfl (by kernel_rfl)]
              (try simp only [List.getElem_toArray, List.getElem_cons_succ, List.getElem_cons_zero, Act.put, List.setIfInBounds_toArray, List.set_cons_zero, List.set_cons_succ])
              refine wpAnyH_take (i := 7) (oi := _) (v := .int .i64 (vn : Nat)) rfl (by kernel_rfl) (by kernel_rfl) (by kernel_rfl) (fun _ _ _ h => h) (Or.inl ⟨by rfl, ?_⟩) ⟨kB, kM, kL⟩ ?_
              · intro w' hSw
                (try simp only [List.getElem_toArray, List.getElem_cons_succ, List.getElem_cons_zero])
                go_simp
              (try simp only [List.getElem_toArray, List.getElem_cons_succ, List.getElem_cons_zero, Act.put, List.setIfInBounds_toArray, List.set_cons_zero, List.set_cons_succ])
              refine wpAnyH_ready (rs := [8]) (by kernel_rfl) (by simp) ?_
              refine AllReadyH.cons (o := _) rfl (fun K hK => ?_) AllReadyH.nil
              (try simp only [List.getElem_toArray, List.getElem_cons_succ, List.getElem_cons_zero])
              go_simp
              (with_reducible refine (task_any l (vn : Int) 3 _ HOK.out.fit (by omega)).mono ?_)
              rintro e wa ⟨rfl, hb⟩
              replace kB := kB.keep hb
              replace kM := kM.keep hb
              replace kL := kL.keep hb
              replace hmem : OwnInts wa 0 (.slice (some ⟨g, 0, none⟩) zs.length cg) zs := own_keepb hmem hb
              replace hbw := below_tr hbw hb
              clear hb
              refine hK.out _ _ ⟨kB, kM, kL⟩ (fun hS' => ?_)
              clear hS' hK K
              (try simp only [List.getElem_toArray, List.getElem_cons_succ, List.getElem_cons_zero, Act.put, List.setIfInBounds_toArray, List.set_cons_zero, List.set_cons_succ])
              refine wpAnyH_ready (rs := [9]) (by kernel_rfl) (by simp) ?_
              refine AllReadyH.cons (o := _) rfl (fun K hK => ?_) AllReadyH.nil
              (try simp only [List.getElem_toArray, List.getElem_cons_succ, List.getElem_cons_zero])
              go_simp
              have sl : SlInt wa wa.heap.size (some ⟨g, 0, none⟩) zs := slInt_own (base := 0) (n := zs.length) (cap := cg) hmem
              (with_reducible refine (cell_any (some ⟨g, 0, none⟩) cg zs (taskAt l (vn : Int) 3) _ sl).mono ?_)
              rintro e wb ⟨rfl, hb⟩
              clear sl
              rw [HV.out.1]
              replace kB := kB.keep hb
              replace kM := kM.keep hb
              replace kL := kL.keep hb
              replace hmem : OwnInts wb 0 (.slice (some ⟨g, 0, none⟩) zs.length cg) zs := own_keepb hmem hb
              replace hbw := below_tr hbw hb
              clear hb
              refine hK.out _ _ ⟨kB, kM, kL⟩ (fun hS' => ?_)
              clear hS' hK K
              (try simp only [List.getElem_toArray, List.getElem_cons_succ, List.getElem_cons_zero, Act.put, List.setIfInBounds_toArray, List.set_cons_zero, List.set_cons_succ])
              refine wpAnyH_take (i := 10) (oi := _) (v := .bool false) rfl (by kernel_rfl) (by kernel_rfl) (by kernel_rfl) (fun _ _ _ h => h) (Or.inl ⟨by rfl, ?_⟩) ⟨kB, kM, kL⟩ ?_
              · intro w' hSw
                (try simp only [List.getElem_toArray, List.getElem_cons_succ, List.getElem_cons_zero])
                go_simp
              (try simp only [List.getElem_toArray, List.getElem_cons_succ, List.getElem_cons_zero, Act.put, List.setIfInBounds_toArray, List.set_cons_zero, List.set_cons_succ])
              refine wpAnyH_take (i := 11) (oi := _) (v := .bool false) rfl (by kernel_rfl) (by kernel_rfl) (by kernel_rfl) (fun _ _ _ h => h) (Or.inl ⟨by rfl, ?_⟩) ⟨kB, kM, kL⟩ ?_
              · intro w' hSw
                (try simp only [List.getElem_toArray, List.getElem_cons_succ, List.getElem_cons_zero])
                go_simp
              (try simp only [List.getElem_toArray, List.getElem_cons_succ, List.getElem_cons_zero, Act.put, List.setIfInBounds_toArray, List.set_cons_zero, List.set_cons_succ])
              refine wpAnyH_take (i := 12) (oi := _) (v := .bool false) rfl (by kernel_rfl) (by kernel_rfl) (by kernel_rfl) (fun _ _ _ h => h) (Or.inl ⟨by rfl, ?_⟩) ⟨kB, kM, kL⟩ ?_
              · intro w' hSw
                (try simp only [List.getElem_toArray, List.getElem_cons_succ, List.getElem_cons_zero])
                go_simp
              (try simp only [List.getElem_toArray, List.getElem_cons_succ, List.getElem_cons_zero, Act.put, List.setIfInBounds_toArray, List.set_cons_zero, List.set_cons_succ])
              refine wpAnyH_take (i := 13) (oi := _) (v := .agg #[.slice (some ⟨g, 0, none⟩) zs.length cg]) rfl (by kernel_rfl) (by kernel_rfl) (by kernel_rfl) (fun _ _ _ h => h) (Or.inl ⟨by rfl, ?_⟩) ⟨kB, kM, kL⟩ ?_
              · intro w' hSw
                have s1 := hSw.2.1.cell 0
                simp at s1
                (try simp only [List.getElem_toArray, List.getElem_cons_succ, List.getElem_cons_zero])
                go_simp
              (try simp only [List.getElem_toArray, List.getElem_cons_succ, List.getElem_cons_zero, Act.put, List.setIfInBounds_toArray, List.set_cons_zero, List.set_cons_succ])
              refine wpAnyH_take (i := 14) (oi := _) (v := .agg (lyC l)) rfl (by kernel_rfl) (by kernel_rfl) (by kernel_rfl) (fun _ _ _ h => h) (Or.inl ⟨by rfl, ?_⟩) ⟨kB, kM, kL⟩ ?_
              · intro w' hSw
                (try simp only [List.getElem_toArray, List.getElem_cons_succ, List.getElem_cons_zero])
                simp only [execOp, Instr.loadAt, Instr.sureAddr, Sem.run_bind, Sem.run_pure]
                rw [show (Act.eval _ (Operand.tmp 12)) = Value.pointer (some ⟨bL, 0, none⟩) from rfl]
                simp only [Sem.run_pure, Result.andThen_ok, run_loadVar_row w' bL 34 34 (lyC l) (0, 0) _ hSw.2.2 Try.underlying34 rfl (by kernel_rfl)]
              (try simp only [List.getElem_toArray, List.getElem_cons_succ, List.getElem_cons_zero, Act.put, List.setIfInBounds_toArray, List.set_cons_zero, List.set_cons_succ])
              refine wpAnyH_take (i := 15) (oi := _) (v := .int .i64 (vn : Nat)) rfl (by kernel_rfl) (by kernel_rfl) (by kernel_rfl) (fun _ _ _ h => h) (Or.inl ⟨by rfl, ?_⟩) ⟨kB, kM, kL⟩ ?_
              · intro w' hSw
                (try simp only [List.getElem_toArray, List.getElem_cons_succ, List.getElem_cons_zero])
                go_simp
              (try simp only [List.getElem_toArray, List.getElem_cons_succ, List.getElem_cons_zero, Act.put, List.setIfInBounds_toArray, List.set_cons_zero, List.set_cons_succ])
              refine wpAnyH_ready (rs := [16]) (by kernel_rfl) (by simp) ?_
              refine AllReadyH.cons (o := _) rfl (fun K hK => ?_) AllReadyH.nil
              (try simp only [List.getElem_toArray, List.getElem_cons_succ, List.getElem_cons_zero])
              go_simp
              (with_reducible refine (task_any l (vn : Int) 0 _ HOK.out.fit (by omega)).mono ?_)
              rintro e wc2 ⟨rfl, hb⟩
              replace kB := kB.keep hb
              replace kM := kM.keep hb
              replace kL := kL.keep hb
              replace hmem : OwnInts wc2 0 (.slice (some ⟨g, 0, none⟩) zs.length cg) zs := own_keepb hmem hb
              replace hbw := below_tr hbw hb
              clear hb
              refine hK.out _ _ ⟨kB, kM, kL⟩ (fun hS' => ?_)
              clear hS' hK K
              (try simp only [List.getElem_toArray, List.getElem_cons_succ, List.getElem_cons_zero, Act.put, List.setIfInBounds_toArray, List.set_cons_zero, List.set_cons_succ])
              refine wpAnyH_ready (rs := [17]) (by kernel_rfl) (by simp) ?_
              refine AllReadyH.cons (o := _) rfl (fun K hK => ?_) AllReadyH.nil
              (try simp only [List.getElem_toArray, List.getElem_cons_succ, List.getElem_cons_zero])
              go_simp
              have sl : SlInt wc2 wc2.heap.size (some ⟨g, 0, none⟩) zs := slInt_own (base := 0) (n := zs.length) (cap := cg) hmem
              (with_reducible refine (cell_any (some ⟨g, 0, none⟩) cg zs (taskAt l (vn : Int) 0) _ sl).mono ?_)
              rintro e wd2 ⟨rfl, hb⟩
              clear sl
              rw [HV.out.2]
              replace kB := kB.keep hb
              replace kM := kM.keep hb
              replace kL := kL.keep hb
              replace hmem : OwnInts wd2 0 (.slice (some ⟨g, 0, none⟩) zs.length cg) zs := own_keepb hmem hb
              replace hbw := below_tr hbw hb
              clear hb
              refine hK.out _ _ ⟨kB, kM, kL⟩ (fun hS' => ?_)
              clear hS' hK K
              (try simp only [List.getElem_toArray, List.getElem_cons_succ, List.getElem_cons_zero, Act.put, List.setIfInBounds_toArray, List.set_cons_zero, List.set_cons_succ])
              refine wpAnyH_take (i := 18) (oi := _) (v := .bool false) rfl (by kernel_rfl) (by kernel_rfl) (by kernel_rfl) (fun _ _ _ h => h) (Or.inl ⟨by rfl, ?_⟩) ⟨kB, kM, kL⟩ ?_
              · intro w' hSw
                (try simp only [List.getElem_toArray, List.getElem_cons_succ, List.getElem_cons_zero])
                go_simp
              (try simp only [List.getElem_toArray, List.getElem_cons_succ, List.getElem_cons_zero, Act.put, List.setIfInBounds_toArray, List.set_cons_zero, List.set_cons_succ])
              refine wpAnyH_take (i := 19) (oi := _) (v := .bool false) rfl (by kernel_rfl) (by kernel_rfl) (by kernel_rfl) (fun _ _ _ h => h) (Or.inl ⟨by rfl, ?_⟩) ⟨kB, kM, kL⟩ ?_
              · intro w' hSw
                (try simp only [List.getElem_toArray, List.getElem_cons_succ, List.getElem_cons_zero])
                go_simp
              (try simp only [List.getElem_toArray, List.getElem_cons_succ, List.getElem_cons_zero, Act.put, List.setIfInBounds_toArray, List.set_cons_zero, List.set_cons_succ])
              refine wpAnyH_done (by kernel_rfl) ?_ _
              have x1 : wd2.cell? ⟨b14 + 1, vn, none⟩ = some (.bool false) := (kB.cell vn).trans hcv
              have xf := kB.free vn
              have xl := kB.lt
              clear hc0' hfz zg
              go_wp2_with fail
              have hkT := keptT_set kB vn (.bool true)
              have k6 := kB.stored vn (.bool true)
              refine ⟨⟨k + 1, by omega, by go_num, ?_, ?_, ?_, kL.keptT hkT (by decide), kM.keptT hkT (by decide), own_keptT (own_keepb HK0.out.2.2.2.1 hbw) hkT (by decide), own_keptT hmem hkT (by decide), _, k6, by simp [HK0.out.2.2.2.2.2.size], fun v hv => ?_⟩, by simp [intOf]; omega⟩
              · rw [HTK.out, bsum_snoc, HBD.out.1, show oDone _ = 1 from rfl]; go_num
              · rw [HTK.out, bsum_snoc, HBD.out.2, show oIs _ = 1 from rfl]; go_num
              · exact below_set (below_tr hbl hbw) (by dsimp only; omega) _
              · rw [HTK.out, bsum_snoc]
                by_cases hvv : v = vn
                · subst hvv
                  rw [Array.getElem?_setIfInBounds_self_of_lt (by rw [HK0.out.2.2.2.2.2.size]; omega)]
                  have h2 : oVal (v : Int) ⟨who, at_, op, acc, res, true, (v : Int), true, err, point⟩ = 1 := by simp [oVal]
                  rw [h2, HZ.out]
                  rfl
                · rw [Array.getElem?_setIfInBounds_ne (by omega)]
                  have h2 : oVal (v : Int) ⟨who, at_, op, acc, res, true, (vn : Int), true, err, point⟩ = 0 := by
                    have h3 : ¬ ((vn : Int) = v) := by omega
                    simp [oVal, h3]
                  rw [h2, Nat.add_zero]
                  exact HK0.out.2.2.2.2.2.at_ v hv
        · obtain rfl : k = outs.length := by omega
          rw [List.take_of_length_le (Nat.le_refl _)]
          have i1 : decide ((outs.length : Int) < outs.length) = false := by simp
          have hdn := HE.out.done
          have hmd := HE.out.made
          have hjn := HE.out.joins
          dsimp only at hdn hmd hjn
          rw [hdn]
          obtain ⟨md, hmdd⟩ : ∃ n, 1 + bsum outs oIs = n := ⟨_, rfl⟩
          rw [hmdd] at hmd
          rw [hmdd]
          have q1 := task_lt HOK.out HE.out.ml 1 1 (by omega) HOK.out.t1 (by omega) (by omega)
          dsimp only at q1
          rw [← cellN_get q1.1 q1.2, show (1 : Int) + (bsum outs oIs : Nat) = ((1 + bsum outs oIs : Nat) : Int) by omega, hmdd] at hjn
          have htot : total ≤ 400 := by
            rw [← hdn]
            exact Nat.le_trans (bsum_le_length _ _ fun x _ => toNat_le _) hlen
          rw [HN.out, Int.toNat_natCast] at hmd
          have hmin : ∀ (w : World) (ts : Array TypeId) (t : TypeId), (Builtin.min_ ts t #[.int .i64 ((1 + total : Nat) : Int), .int .i64 (N : Int)]).run Try.prog w = .ok (.int .i64 (md : Int)) w := fun w ts t => by
            rw [run_min_int2]
            congr 2
            split <;> omega
          have hmin' : ∀ (w : World) (ts : Array TypeId) (t : TypeId), (Builtin.min_ ts t #[.int .i64 (1 + (total : Int)), .int .i64 (N : Int)]).run Try.prog w = .ok (.int .i64 (md : Int)) w := hmin
          have HJN := Lib.hid hjn
          have HMIN := Lib.hid (And.intro hmin hmin')
          clear hdn hmd hjn hmdd q1 hmin hmin' hsteps hmet
          go_upto_region 34 with fail
          refine wp_region_held_drew (S := fun w' => Bk w' b14 39 #[.slice (some ⟨g, 0, none⟩) zs.length cg] ∧ Bk w' bL 34 (lyC l)) (by kernel_rfl) ⟨kM.drew, kL.drew⟩ (fun hHeld => ?_)
          clear hHeld
          replace kM := kM.drew
          replace kL := kL.drew
          replace hmem := own_drew hmem
          replace hbl := below_drew hbl
          generalize wr.drew = wd at *
          refine wpAnyH_take (i := 0) (oi := _) (v := .bool true) rfl (by kernel_rfl) (by kernel_rfl) (by kernel_rfl) (fun _ _ _ h => h) (Or.inl ⟨by rfl, ?_⟩) ⟨kM, kL⟩ ?_
          · intro w' hSw
            (try simp only [List.getElem_toArray, List.getElem_cons_zero])
            go_simp
          (try simp only [List.getElem_toArray, List.getElem_cons_zero, Act.put, List.setIfInBounds_toArray, List.set_cons_zero, List.set_cons_succ])
          refine wpAnyH_take (i := 1) (oi := _) (v := .bool true) rfl (by kernel_rfl) (by kernel_rfl) (by kernel_rfl) (fun _ _ _ h => h) (Or.inl ⟨by rfl, ?_⟩) ⟨kM, kL⟩ ?_
          · intro w' hSw
            (try simp only [List.getElem_toArray, List.getElem_cons_succ, List.getElem_cons_zero])
            go_simp
          (try simp only [List.getElem_toArray, List.getElem_cons_succ, List.getElem_cons_zero, Act.put, List.setIfInBounds_toArray, List.set_cons_zero, List.set_cons_succ])
          refine wpAnyH_take (i := 2) (oi := _) (v := .int .i64 (md : Nat)) rfl (by kernel_rfl) (by kernel_rfl) (by kernel_rfl) (fun _ _ _ h => h) (Or.inl ⟨by rfl, ?_⟩) ⟨kM, kL⟩ ?_
          · intro w' hSw
            (try simp only [List.getElem_toArray, List.getElem_cons_succ, List.getElem_cons_zero])
            go_simp
          (try simp only [List.getElem_toArray, List.getElem_cons_succ, List.getElem_cons_zero, Act.put, List.setIfInBounds_toArray, List.set_cons_zero, List.set_cons_succ])
          refine wpAnyH_take (i := 3) (oi := _) (v := .int .i64 ((1 + total : Nat) : Int)) rfl (by kernel_rfl) (by kernel_rfl) (by kernel_rfl) (fun _ _ _ h => h) (Or.inl ⟨by rfl, ?_⟩) ⟨kM, kL⟩ ?_
          · intro w' hSw
            (try simp only [List.getElem_toArray, List.getElem_cons_succ, List.getElem_cons_zero])
            go_simp
          (try simp only [List.getElem_toArray, List.getElem_cons_succ, List.getElem_cons_zero, Act.put, List.setIfInBounds_toArray, List.set_cons_zero, List.set_cons_succ])
          refine wpAnyH_take (i := 4) (oi := _) (v := .pointer (some ⟨bL, 0, none⟩)) rfl (by kernel_rfl) (by kernel_rfl) (by kernel_rfl) (fun _ _ _ h => h) (Or.inl ⟨by rfl, ?_⟩) ⟨kM, kL⟩ ?_
          · intro w' hSw
            (try simp only [List.getElem_toArray, List.getElem_cons_succ, List.getElem_cons_zero])
            go_simp
          (try simp only [List.getElem_toArray, List.getElem_cons_succ, List.getElem_cons_zero, Act.put, List.setIfInBounds_toArray, List.set_cons_zero, List.set_cons_succ])
          refine wpAnyH_take (i := 5) (oi := _) (v := .pointer (some ⟨bL, 4, none⟩)) rfl (by kernel_rfl) (by kernel_rfl) (by kernel_rfl) (fun _ _ _ h => h) (Or.inl ⟨by rfl, ?_⟩) ⟨kM, kL⟩ ?_
          · intro w' hSw
            (try simp only [List.getElem_toArray, List.getElem_cons_succ, List.getElem_cons_zero])
            go_simp
          (try simp only [List.getElem_toArray, List.getElem_cons_succ, List.getElem_cons_zero, Act.put, List.setIfInBounds_toArray, List.set_cons_zero, List.set_cons_succ])
          refine wpAnyH_take (i := 6) (oi := _) (v := .int .i64 (N : Int)) rfl (by kernel_rfl) (by kernel_rfl) (by kernel_rfl) (fun _ _ _ h => h) (Or.inl ⟨by rfl, ?_⟩) ⟨kM, kL⟩ ?_
          · intro w' hSw
            have s1 : w'.cell? ⟨bL, 4, none⟩ = some (.int .i64 (N : Int)) := by rw [hSw.2.cell 4, ← HN.out]; rfl
            (try simp only [List.getElem_toArray, List.getElem_cons_succ, List.getElem_cons_zero])
            go_simp
          (try simp only [List.getElem_toArray, List.getElem_cons_succ, List.getElem_cons_zero, Act.put, List.setIfInBounds_toArray, List.set_cons_zero, List.set_cons_succ])
          refine wpAnyH_take (i := 7) (oi := _) (v := .int .i64 (md : Int)) rfl (by kernel_rfl) (by kernel_rfl) (by kernel_rfl) (fun _ _ _ h => h) (Or.inl ⟨by rfl, ?_⟩) ⟨kM, kL⟩ ?_
          · intro w' hSw
            obtain ⟨m1, m2⟩ := HMIN.out
            (try simp only [List.getElem_toArray, List.getElem_cons_succ, List.getElem_cons_zero])
            go_simp
          (try simp only [List.getElem_toArray, List.getElem_cons_succ, List.getElem_cons_zero, Act.put, List.setIfInBounds_toArray, List.set_cons_zero, List.set_cons_succ])
          refine wpAnyH_take (i := 8) (oi := _) (v := .bool true) rfl (by kernel_rfl) (by kernel_rfl) (by kernel_rfl) (fun _ _ _ h => h) (Or.inl ⟨by rfl, ?_⟩) ⟨kM, kL⟩ ?_
          · intro w' hSw
            (try simp only [List.getElem_toArray, List.getElem_cons_succ, List.getElem_cons_zero])
            go_simp
          (try simp only [List.getElem_toArray, List.getElem_cons_succ, List.getElem_cons_zero, Act.put, List.setIfInBounds_toArray, List.set_cons_zero, List.set_cons_succ])
          refine wpAnyH_take (i := 9) (oi := _) (v := .bool true) rfl (by kernel_rfl) (by kernel_rfl) (by kernel_rfl) (fun _ _ _ h => h) (Or.inl ⟨by rfl, ?_⟩) ⟨kM, kL⟩ ?_
          · intro w' hSw
            (try simp only [List.getElem_toArray, List.getElem_cons_succ, List.getElem_cons_zero])
            go_simp
          (try simp only [List.getElem_toArray, List.getElem_cons_succ, List.getElem_cons_zero, Act.put, List.setIfInBounds_toArray, List.set_cons_zero, List.set_cons_succ])
          refine wpAnyH_take (i := 10) (oi := _) (v := .bool true) rfl (by kernel_rfl) (by kernel_rfl) (by kernel_rfl) (fun _ _ _ h => h) (Or.inl ⟨by rfl, ?_⟩) ⟨kM, kL⟩ ?_
          · intro w' hSw
            (try simp only [List.getElem_toArray, List.getElem_cons_succ, List.getElem_cons_zero])
            go_simp
          (try simp only [List.getElem_toArray, List.getElem_cons_succ, List.getElem_cons_zero, Act.put, List.setIfInBounds_toArray, List.set_cons_zero, List.set_cons_succ])
          refine wpAnyH_take (i := 11) (oi := _) (v := .agg #[.slice (some ⟨g, 0, none⟩) zs.length cg]) rfl (by kernel_rfl) (by kernel_rfl) (by kernel_rfl) (fun _ _ _ h => h) (Or.inl ⟨by rfl, ?_⟩) ⟨kM, kL⟩ ?_
          · intro w' hSw
            have s1 := hSw.1.cell 0
            simp at s1
            (try simp only [List.getElem_toArray, List.getElem_cons_succ, List.getElem_cons_zero])
            go_simp
          (try simp only [List.getElem_toArray, List.getElem_cons_succ, List.getElem_cons_zero, Act.put, List.setIfInBounds_toArray, List.set_cons_zero, List.set_cons_succ])
          refine wpAnyH_take (i := 12) (oi := _) (v := .agg (lyC l)) rfl (by kernel_rfl) (by kernel_rfl) (by kernel_rfl) (fun _ _ _ h => h) (Or.inl ⟨by rfl, ?_⟩) ⟨kM, kL⟩ ?_
          · intro w' hSw
            (try simp only [List.getElem_toArray, List.getElem_cons_succ, List.getElem_cons_zero])
            simp only [execOp, Instr.loadAt, Instr.sureAddr, Sem.run_bind, Sem.run_pure]
            rw [show (Act.eval _ (Operand.tmp 12)) = Value.pointer (some ⟨bL, 0, none⟩) from rfl]
            simp only [Sem.run_pure, Result.andThen_ok, run_loadVar_row w' bL 34 34 (lyC l) (0, 0) _ hSw.2 Try.underlying34 rfl (by kernel_rfl)]
          (try simp only [List.getElem_toArray, List.getElem_cons_succ, List.getElem_cons_zero, Act.put, List.setIfInBounds_toArray, List.set_cons_zero, List.set_cons_succ])
          refine wpAnyH_take (i := 15) (oi := _) (v := .int .i64 (md : Nat)) rfl (by kernel_rfl) (by kernel_rfl) (by kernel_rfl) (fun _ _ _ h => h) (Or.inl ⟨by rfl, ?_⟩) ⟨kM, kL⟩ ?_
          · intro w' hSw
            (try simp only [List.getElem_toArray, List.getElem_cons_succ, List.getElem_cons_zero])
            go_simp
          (try simp only [List.getElem_toArray, List.getElem_cons_succ, List.getElem_cons_zero, Act.put, List.setIfInBounds_toArray, List.set_cons_zero, List.set_cons_succ])
          refine wpAnyH_ready (rs := [13]) (by kernel_rfl) (by simp) ?_
          refine AllReadyH.cons (o := _) rfl (fun K hK => ?_) AllReadyH.nil
          (try simp only [List.getElem_toArray, List.getElem_cons_succ, List.getElem_cons_zero])
          go_simp
          (with_reducible refine (task_any l 1 1 _ HOK.out.fit (by omega)).mono ?_)
          rintro e wa ⟨rfl, hb⟩
          replace kM := kM.keep hb
          replace kL := kL.keep hb
          replace hmem : OwnInts wa 0 (.slice (some ⟨g, 0, none⟩) zs.length cg) zs := own_keepb hmem hb
          replace hbl := below_tr hbl hb
          clear hb
          refine hK.out _ _ ⟨kM, kL⟩ (fun hS' => ?_)
          clear hS' hK K
          (try simp only [List.getElem_toArray, List.getElem_cons_succ, List.getElem_cons_zero, Act.put, List.setIfInBounds_toArray, List.set_cons_zero, List.set_cons_succ])
          refine wpAnyH_ready (rs := [14]) (by kernel_rfl) (by simp) ?_
          refine AllReadyH.cons (o := _) rfl (fun K hK => ?_) AllReadyH.nil
          (try simp only [List.getElem_toArray, List.getElem_cons_succ, List.getElem_cons_zero])
          go_simp
          have sl : SlInt wa wa.heap.size (some ⟨g, 0, none⟩) zs := slInt_own (base := 0) (n := zs.length) (cap := cg) hmem
          (with_reducible refine (cell_any (some ⟨g, 0, none⟩) cg zs (taskAt l 1 1) _ sl).mono ?_)
          rintro e wb ⟨rfl, hb⟩
          clear sl
          rw [HJN.out]
          replace kM := kM.keep hb
          replace kL := kL.keep hb
          replace hmem : OwnInts wb 0 (.slice (some ⟨g, 0, none⟩) zs.length cg) zs := own_keepb hmem hb
          replace hbl := below_tr hbl hb
          clear hb
          refine hK.out _ _ ⟨kM, kL⟩ (fun hS' => ?_)
          clear hS' hK K
          (try simp only [List.getElem_toArray, List.getElem_cons_succ, List.getElem_cons_zero, Act.put, List.setIfInBounds_toArray, List.set_cons_zero, List.set_cons_succ])
          refine wpAnyH_take (i := 16) (oi := _) (v := .bool true) rfl (by kernel_rfl) (by kernel_rfl) (by kernel_rfl) (fun _ _ _ h => h) (Or.inl ⟨by rfl, ?_⟩) ⟨kM, kL⟩ ?_
          · intro w' hSw
            (try simp only [List.getElem_toArray, List.getElem_cons_succ, List.getElem_cons_zero])
            go_simp
          (try simp only [List.getElem_toArray, List.getElem_cons_succ, List.getElem_cons_zero, Act.put, List.setIfInBounds_toArray, List.set_cons_zero, List.set_cons_succ])
          refine wpAnyH_take (i := 17) (oi := _) (v := .bool true) rfl (by kernel_rfl) (by kernel_rfl) (by kernel_rfl) (fun _ _ _ h => h) (Or.inl ⟨by rfl, ?_⟩) ⟨kM, kL⟩ ?_
          · intro w' hSw
            (try simp only [List.getElem_toArray, List.getElem_cons_succ, List.getElem_cons_zero])
            go_simp
          (try simp only [List.getElem_toArray, List.getElem_cons_succ, List.getElem_cons_zero, Act.put, List.setIfInBounds_toArray, List.set_cons_zero, List.set_cons_succ])
          refine wpAnyH_take (i := 18) (oi := _) (v := .bool true) rfl (by kernel_rfl) (by kernel_rfl) (by kernel_rfl) (fun _ _ _ h => h) (Or.inl ⟨by rfl, ?_⟩) ⟨kM, kL⟩ ?_
          · intro w' hSw
            (try simp only [List.getElem_toArray, List.getElem_cons_succ, List.getElem_cons_zero])
            go_simp
          (try simp only [List.getElem_toArray, List.getElem_cons_succ, List.getElem_cons_zero, Act.put, List.setIfInBounds_toArray, List.set_cons_zero, List.set_cons_succ])
          refine wpAnyH_done (by kernel_rfl) ?_ _
          go_wp2
          go_ret
          exact ⟨rfl, hbl⟩
theorem numbers_top (t a b c : Int) (T : Option Addr) (m d : Nat) (turns : List Nat) (w : World) (t0 : 0 ≤ t) (t1 : t < 256) (a0 : 0 ≤ a) (a1 : a < 256) (b0 : 0 ≤ b) (b1 : b < 256) (c0 : 0 ≤ c) (c1 : c < 256) (hm : turns.length = m) (hT : SlU8 w w.heap.size T turns) :
    Calls Try.prog 3 #[.int .u8 t, .agg #[.int .u8 a, .int .u8 b, .int .u8 c], .slice T m d] w (BoolBelow true w) := by
  obtain ⟨a', rfl⟩ : ∃ n : Nat, a = n := ⟨a.toNat, by omega⟩
  obtain ⟨b', rfl⟩ : ∃ n : Nat, b = n := ⟨b.toNat, by omega⟩
  obtain ⟨c', rfl⟩ : ∃ n : Nat, c = n := ⟨c.toNat, by omega⟩
  exact numbers_any t a' b' c' T m d turns w t0 t1 (by omega) (by omega) (by omega) hm hT
end Go.Proofs.Ytcjaomiihajjbaa
