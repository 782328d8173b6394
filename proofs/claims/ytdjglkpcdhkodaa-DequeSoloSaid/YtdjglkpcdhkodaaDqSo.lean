/- The reference's Same of two memories. A row of numbers that is cut at both its ends and appended to. DequeSolo's plain law: an operation alone is that of a row. No program in sight. -/
import Derived.Test.YtdjglkpcdhkodaaMemS
import Derived.BigQuiet
import Derived.Deep.QuietTactic
import Derived.Test.YtdjglkpcdhkodaaReg
import Derived.Test.YtdjglkpcdhkodaaInts
import Derived.Deep.AppendSrc
import Derived.Test.YtdjglkpcdhkodaaDqZ
import Derived.Test.YtdjglkpcdhkodaaDqRow
namespace Go.Proofs.Ytdjglkpcdhkodaa
open Go.RowKit
attribute [local go_sem ↓] Go.wp_at_zero Go.wp_at_succ

theorem below_drewN {a w : World} (h : Below a.heap.size a w) (n : Nat) : Below a.heap.size a (w.drewN n) := ⟨h.os, h.tape, h.output, h.size, h.block⟩
def SameRel (w : World) (A A' : Option Addr) (c c' : Nat) (xs ys : List Int) (i : Value) (wr : World) : Prop :=
  ∃ k : Nat, k ≤ xs.length ∧ i = .int .i64 k ∧ Below w.heap.size w wr ∧ Bk wr w.heap.size 37 #[.slice A xs.length c] ∧ Bk wr (w.heap.size + 1) 37 #[.slice A' ys.length c'] ∧ xs.take k = ys.take k

set_option maxHeartbeats 2000000 in
theorem rsame_any (A A' : Option Addr) (c c' : Nat) (xs ys : List Int) (w : World) (h : Sl w w.heap.size A xs.length (ints xs)) (h' : Sl w w.heap.size A' ys.length (ints ys)) (hm : xs.length ≤ 1000000) (hm' : ys.length ≤ 1000000) :
    Calls Try.prog 16 #[memV A xs.length c, memV A' ys.length c'] w (BoolBelow (decide (xs = ys)) w) := by
  by_cases hl : xs.length = ys.length
  · have hn : ((xs.length : Int) != ys.length) = false := by simp [hl]
    have HL := Lib.hid hl
    clear hl
    go_enter Try.func16, Try.ntmps16
    go_wp2
    go_loopw [5] (fun i wr => SameRel w A A' c c' xs ys i wr) (fun i _ => xs.length - (intOf i).toNat)
    case atStart => exact ⟨0, Nat.zero_le _, rfl, below_al (below_al (Below.refl _ _) _) _, (Bk.made _ _ _).alloc _, Bk.new _ (by simp) _ _, by simp⟩
    case round =>
      obtain ⟨k, hk, rfl, hbw, k0, k1, ht⟩ := hrel
      have c0 := k0.cell 0
      have c1 := k1.cell 0
      simp at c0 c1
      by_cases hlt : k < xs.length
      · have hlt' : k < ys.length := by rw [← HL.out]; exact hlt
        obtain ⟨b, o, u, hA, hbl, hu, hcl⟩ := (h.below hbw).at_ hlt
        obtain ⟨b', o', u', hA', hbl', hu', hcl'⟩ := (h'.below hbw).at_ hlt'
        obtain ⟨x, hx, rfl⟩ := ints_get hu
        obtain ⟨y, hy, rfl⟩ := ints_get hu'
        subst hA hA'
        have i1 : (k : Int) < xs.length := by omega
        have i2 : (k : Int) < ys.length := by omega
        have HK := Lib.hid (And.intro k0 k1)
        have HB := Lib.hid hbw
        have HT := Lib.hid (And.intro ht (And.intro hx hy))
        have HS := Lib.hid (And.intro h h')
        clear k0 k1 hbw ht hx hy h h' hu hu'
        by_cases hxy : x = y
        · have hq : (x != y) = false := by simp [hxy]
          have HQ := Lib.hid hxy
          clear hxy
          go_wp2_with fail
          go_quiet (fail)
          go_wp2
          go_roundw
          case rel =>
            obtain ⟨h1, h2, h3⟩ := HT.out
            refine ⟨k + 1, by omega, by go_num, below_drewN (HB.out) _, HK.out.1, HK.out.2, ?_⟩
            rw [List.take_add_one, List.take_add_one, h1, h2, h3, HQ.out]
          case measure => simp [intOf]; omega
        · have hq : (x != y) = true := by simpa using hxy
          have hf : decide (xs = ys) = false := by
            obtain ⟨_, h2, h3⟩ := HT.out
            simp
            rintro rfl
            rw [h2] at h3
            injection h3 with h3
            exact hxy h3
          have HF := Lib.hid hf
          clear hf hxy
          go_wp2_with fail
          go_quiet (fail)
          go_wp2
          go_ret
          rw [HF.out]
          exact ⟨rfl, below_drewN (HB.out) _⟩
      · obtain rfl : k = xs.length := by omega
        have hf : decide (xs = ys) = true := by
          have e := HL.out
          rw [List.take_length, e, List.take_length] at ht
          simp [ht]
        have HF := Lib.hid hf
        have HT := Lib.hid ht
        clear hf ht
        go_wp2
        go_ret
        rw [HF.out]
        exact ⟨rfl, hbw⟩
  · have hn : ((xs.length : Int) != ys.length) = true := by simp; omega
    have hf : decide (xs = ys) = false := by simp; intro e; exact hl (by rw [e])
    rw [hf]
    have HF := Lib.hid hf
    clear hf
    go_enter Try.func16, Try.ntmps16
    go_wp2
    go_ret
    exact ⟨rfl, below_al (below_al (Below.refl _ _) _) _⟩
end Go.Proofs.Ytdjglkpcdhkodaa
namespace Go.Proofs.Ytdjglkpcdhkodaa
open Go.RowKit
set_option linter.unusedVariables false

/-- A row of one's own, wherever it begins in its block. -/
def Que (w : World) (B : Nat) (A : Option Addr) (n c : Nat) (zs : List Int) : Prop :=
  zs.length = n ∧ n ≤ c ∧ ((A = none ∧ c = 0) ∨ ∃ g o cur, A = some ⟨g, o, none⟩ ∧ B ≤ g ∧ Bk w g 3 cur ∧ o + c ≤ cur.size ∧ ∀ (j : Nat) (r : Int), zs[j]? = some r → cur[o + j]? = some (.int .i64 r))
section
variable {w w' : World} {B n c : Nat} {A : Option Addr} {zs : List Int}
theorem Que.nil (w : World) (B : Nat) : Que w B none 0 0 [] := ⟨rfl, Nat.le_refl _, .inl ⟨rfl, rfl⟩⟩
theorem Que.keep (h : Que w B A n c zs) (hb : Below w.heap.size w w') : Que w' B A n c zs := by
  refine ⟨h.1, h.2.1, ?_⟩
  rcases h.2.2 with h1 | ⟨g, o, cur, h1, h2, h3, h4, h5⟩
  · exact .inl h1
  · exact .inr ⟨g, o, cur, h1, h2, h3.keep hb, h4, h5⟩
theorem Que.sl (h : Que w B A n c zs) : SlInt w w.heap.size A zs := by
  intro hl
  have h1 := h.1
  have h2 := h.2.1
  rcases h.2.2 with ⟨_, h3⟩ | ⟨g, o, cur, h3, _, h4, _, h5⟩
  · omega
  · exact ⟨g, o, h3, h4.lt, fun k r hr => by rw [h4.cell]; exact h5 k r hr⟩
theorem Que.front (h : Que w B A (n + 1) c zs) : Que w B A n c (zs.take n) := by
  refine ⟨by rw [List.length_take, h.1]; omega, by have := h.2.1; omega, ?_⟩
  rcases h.2.2 with h1 | ⟨g, o, cur, h1, h2, h3, h4, h5⟩
  · exact .inl h1
  · refine .inr ⟨g, o, cur, h1, h2, h3, h4, fun j r hr => h5 j r ?_⟩
    rw [List.getElem?_take] at hr
    split at hr
    · exact hr
    · cases hr
/-- Where a row begins that lost its first one. -/
def tailA (A : Option Addr) (c : Nat) : Option Addr := if c = 1 then A else A.map (·.add 1)
theorem Que.tail (h : Que w B A (n + 1) c zs) : Que w B (tailA A c) n (c - 1) (zs.drop 1) := by
  have hc := h.2.1
  refine ⟨by rw [List.length_drop, h.1]; omega, by omega, ?_⟩
  rcases h.2.2 with ⟨_, h1⟩ | ⟨g, o, cur, h1, h2, h3, h4, h5⟩
  · omega
  · subst h1
    unfold tailA
    by_cases e : c = 1
    · rw [if_pos e]
      exact .inr ⟨g, o, cur, rfl, h2, h3, by omega, fun j r hr => by
        have hl := (List.getElem?_eq_some_iff.1 hr).1
        rw [List.length_drop, h.1] at hl
        omega⟩
    · rw [if_neg e]
      refine .inr ⟨g, o + 1, cur, by simp [Addr.add], h2, h3, by omega, fun j r hr => ?_⟩
      rw [List.getElem?_drop] at hr
      have := h5 (1 + j) r hr
      rw [← this]
      congr 1
      omega
theorem que_cells : ∀ {cur : Array Value} {o : Nat} {zs : List Int}, (∀ (j : Nat) (r : Int), zs[j]? = some r → cur[o + j]? = some (.int .i64 r)) → ∀ (j : Nat) (u : Value), (ints zs)[j]? = some u → cur[o + j]? = some u := by
  intro cur o zs h j u hu
  simp only [ints, List.getElem?_map] at hu
  cases e : zs[j]? with
  | none => rw [e] at hu; cases hu
  | some r => rw [e] at hu; injection hu with hu; subst hu; exact h j r e
/-- One more behind a row of numbers. -/
theorem run_que (h : Que w B A n c zs) (hB : B ≤ w.heap.size) (hn : n ≤ 100000) (ty : TypeId) (g2 : Nat) (r : Int) (hx : w.cell? ⟨g2, 0, none⟩ = some (.int .i64 r)) :
    ∃ A' c' w', (Builtin.append_ #[35, 35] ty #[.slice A n c, .slice (some ⟨g2, 0, none⟩) 1 1]).run Try.prog w = .ok (.slice A' (n + 1) c') w' ∧ Que w' B A' (n + 1) c' (zs ++ [r]) ∧ Below B w w' ∧ ∀ g, g < w.heap.size → (∀ a, A = some a → a.block ≠ g) → w'.heap[g]? = w.heap[g]? ∧ ∀ a, A' = some a → a.block ≠ g := by
  obtain ⟨i0, hi0, hz0, hz1, hz2⟩ := info_parts int_info
  have hl := h.1
  have hnc := h.2.1
  have hsrc : Go.Src Try.prog i0.size 35 (.slice (some ⟨g2, 0, none⟩) 1 1) 1 [.int .i64 r] w := by
    rw [hz1]
    exact Go.Src.ofSlice w Try.underlying35 ⟨g2, 0, none⟩ 1 1 [.int .i64 r] rfl (fun j u hj => by
      match j, hj with
      | 0, hj => simp at hj; subst hj; simpa [Addr.add] using hx) (fun u hu => by simp at hu; subst hu; rfl)
  have hget : ∀ (j : Nat) (x : Int), (zs ++ [r])[j]? = some x → (j < n ∧ zs[j]? = some x) ∨ (j = n ∧ x = r) := by
    intro j x hx
    by_cases hj : j < zs.length
    · rw [List.getElem?_append_left hj] at hx
      exact .inl ⟨by omega, hx⟩
    · rw [List.getElem?_append_right (by omega)] at hx
      have h1 := (List.getElem?_eq_some_iff.1 hx).1
      simp at h1
      have h2 : j - zs.length = 0 := by omega
      rw [h2] at hx
      simp at hx
      exact .inr ⟨by omega, hx.symm⟩
  -- a new row
  have grow : ∀ (base : Option Addr) (hold : (Builtin.firstCells i0.size n (.slice base n c)).run Try.prog w.drew = .ok (ints zs).toArray w.drew), c < n + 1 → base = A →
      ∃ A' c' w', (Builtin.append_ #[35, 35] ty #[.slice A n c, .slice (some ⟨g2, 0, none⟩) 1 1]).run Try.prog w = .ok (.slice A' (n + 1) c') w' ∧ Que w' B A' (n + 1) c' (zs ++ [r]) ∧ Below B w w' ∧ ∀ g, g < w.heap.size → (∀ a, A = some a → a.block ≠ g) → w'.heap[g]? = w.heap[g]? ∧ ∀ a, A' = some a → a.block ≠ g := by
    intro base hold hc hbase
    subst hbase
    have hrun := run_append_grow_src (P := Try.prog) w 35 35 ty 3 i0 _ Try.underlying35 hi0 hz0 base n c (ints zs) hold (.slice (some ⟨g2, 0, none⟩) 1 1) 1 [.int .i64 r] hsrc hc (by omega) (growslice_fits (by omega) (by rw [hz2]; omega))
    have hge := grownCap_ge w (n + 1) c 3
    have hcm := grownCap_le_maxLen w (n + 1) c 3 (by simp only [maxLen]; omega)
    refine ⟨_, _, _, hrun, ⟨by rw [List.length_append, hl]; rfl, by omega, .inr ⟨w.heap.size, 0, _, rfl, hB, Bk.made w.drew 3 _, ?_, ?_⟩⟩, ?_, ?_⟩
    · simp only [Array.size_append, List.size_toArray, size_zeroCells, List.length_append, ints, List.length_map, hl, Value.cells]
      simp
      omega
    · intro j x hx'
      rw [Nat.zero_add]
      rw [Array.getElem?_append_left (by
        have := (List.getElem?_eq_some_iff.1 hx').1
        rw [List.length_append] at this
        simp [ints]
        simpa using this)]
      rw [List.getElem?_toArray, show ints zs ++ [Value.int .i64 r] = (zs ++ [r]).map (Value.int .i64) by simp [ints], List.getElem?_map, hx']
      rfl
    · exact ((Below.refl B w).drew).alloc hB _
    · intro g hg _
      exact ⟨Below.heap_alloc w.drew _ g hg, fun a e => by injection e with e; subst e; show w.heap.size ≠ g; omega⟩
  rcases h.2.2 with ⟨hA, hc⟩ | ⟨g, o, cur, hA, hBg, hk, hs, hcc⟩
  · subst hA
    have hn0 : n = 0 := by omega
    have hz : zs = [] := List.eq_nil_of_length_eq_zero (by omega)
    subst hz
    exact grow none (by rw [hn0, hc]; exact run_firstCells_none w.drew i0.size 0 0 0) (by omega) rfl
  · subst hA
    by_cases hroom : n + 1 ≤ c
    · have hsz : o + n < cur.size := by omega
      have hrun := run_append_room_src (P := Try.prog) w 35 35 ty 3 i0 Try.underlying35 hi0 g o n c (.slice (some ⟨g2, 0, none⟩) 1 1) 1 [.int .i64 r] hsrc hroom (fun j hj => by
        rw [hz1]
        have : j = 0 := by simpa using hj
        subst this
        rw [Nat.mul_one, Nat.add_zero, hk.cell, Array.getElem?_eq_getElem hsz]
        rfl) (fun j hj => hk.free _)
      rw [hz1, Nat.mul_one] at hrun
      have hset : w.setCells g (o + n) [.int .i64 r] = w.setCell ⟨g, o + n, none⟩ (.int .i64 r) := by simp [World.setCells]
      rw [hset] at hrun
      refine ⟨_, _, _, hrun, ⟨by rw [List.length_append, hl]; rfl, hroom, .inr ⟨g, o, _, rfl, hBg, hk.stored (o + n) (.int .i64 r), by rw [Array.size_setIfInBounds]; exact hs, ?_⟩⟩, (Below.refl B w).setCell (p := ⟨g, o + n, none⟩) hBg _, ?_⟩
      · intro j x hx'
        rcases hget j x hx' with ⟨h1, h2⟩ | ⟨rfl, rfl⟩
        · rw [Array.getElem?_setIfInBounds_ne (by omega)]
          exact hcc j x h2
        · rw [Array.getElem?_setIfInBounds_self_of_lt hsz]
      · intro g' hg' hne
        exact ⟨Below.heap_setCell w ⟨g, o + n, none⟩ _ g' (fun e => hne _ rfl e.symm), hne⟩
    · refine grow (some ⟨g, o, none⟩) ?_ (by omega) rfl
      refine run_firstCells_some w.drew i0.size n ⟨g, o, none⟩ n c (ints zs) (by simp [ints, hl, hz1]) (fun j u hu => ?_)
      have e := que_cells hcc j u hu
      rw [Go.WideShapes.add_plain]
      exact (hk.cell (o + j)).trans e
theorem wpList_que {ops : Array Oper} {rest : List Oper} {o : Oper} {a : Act} {Q : Exit → Act → World → Prop} (hgd : o.guard = none) (s x : Operand)
    (ho : o.op = .call { callee := .builtin .append, args := #[s, x], argTypes := #[35, 35] })
    (hs : a.eval s = .slice A n c) (h : Que w B A n c zs) (hB : B ≤ w.heap.size) (hn : n ≤ 100000) (g2 : Nat) (r : Int) (hx : a.eval x = .slice (some ⟨g2, 0, none⟩) 1 1) (hc : w.cell? ⟨g2, 0, none⟩ = some (.int .i64 r))
    (hK : ∀ A' c' w', Que w' B A' (n + 1) c' (zs ++ [r]) → Below B w w' → (∀ g, g < w.heap.size → (∀ a, A = some a → a.block ≠ g) → w'.heap[g]? = w.heap[g]? ∧ ∀ a, A' = some a → a.block ≠ g) → wpList Try.prog ops Q rest (a.put o.dst (.slice A' (n + 1) c')) w') : wpList Try.prog ops Q (o :: rest) a w := by
  refine wpList_plain hgd fun K hK' => ?_
  obtain ⟨A', c', w', hr, h2, h3, h4⟩ := run_que h hB hn o.type g2 r hc
  unfold Oper.wp execOp
  simp only [ho, resolve, invoke, builtin, Sem.run_bind, Sem.run_pure, Result.andThen_ok, List.map_toArray, List.map_cons, List.map_nil, hs, hx, hr]
  exact hK' _ _ (hK A' c' w' h2 h3 h4)
theorem tailA_ne {g : Nat} (h : ∀ a, A = some a → a.block ≠ g) : ∀ a, tailA A c = some a → a.block ≠ g := by
  intro a e
  unfold tailA at e
  split at e
  · exact h a e
  · cases A with
    | none => cases e
    | some b =>
      simp only [Option.map_some, Option.some.injEq] at e
      subst e
      exact h b rfl
theorem Que.ne (h : Que w B A n c zs) {g : Nat} {t : TypeId} {cs : Array Value} (k : Bk w g t cs) (ht : t ≠ 3) : ∀ a, A = some a → a.block ≠ g := by
  intro a e
  rcases h.2.2 with ⟨h1, _⟩ | ⟨g', o', cur, h1, _, h2, _⟩
  · rw [h1] at e; cases e
  · rw [h1] at e
    injection e with e
    subst e
    intro e
    dsimp only at e
    subst e
    have := h2.symm.trans k
    injection this with this
    injection this with _ this _
    exact ht this.symm
theorem run_tail (hn : n + 1 ≤ c) : (Instr.sliceAt 35 (.slice A (n + 1) c) (some (.int .i64 1)) none none).run Try.prog w = .ok (.slice (tailA A c) n (c - 1)) w := by
  have hu : Try.prog.underlying 35 = some (.slice (Try.prog.elem 35)) := by rw [Try.underlying35]; simp [Program.elem, Try.underlying35]
  have hs : (sizeOf (Try.prog.elem 35)).run Try.prog w = .ok 1 w := by
    obtain ⟨i0, hi0, hz0, hz1, hz2⟩ := info_parts int_info
    rw [show Try.prog.elem 35 = 3 by simp [Program.elem, Try.underlying35]]
    simp [sizeOf, typeInfo, hi0, hz1]
  rw [run_sliceAt_slice (h := hu), run_slice_l (ht := hu) (h0 := by omega) (h1 := by omega), hs]
  simp only [Result.andThen, sliced, tailA]
  rfl
theorem wpList_tail {ops : Array Oper} {rest : List Oper} {o : Oper} {a : Act} {Q : Exit → Act → World → Prop} (hgd : o.guard = none) (x lo : Operand) (ho : o.op = .slice 35 x (some lo) none none)
    (hx : a.eval x = .slice A (n + 1) c) (hl : a.eval lo = .int .i64 1) (hn : n + 1 ≤ c) (hK : wpList Try.prog ops Q rest (a.put o.dst (.slice (tailA A c) n (c - 1))) w) : wpList Try.prog ops Q (o :: rest) a w := by
  refine wpList_plain hgd fun K hK' => ?_
  unfold Oper.wp execOp
  simp only [ho, Sem.run_bind, Sem.run_pure, Result.andThen_ok, Option.map_some, Option.map_none, hx, hl, run_tail hn]
  exact hK' _ _ hK
end
end Go.Proofs.Ytdjglkpcdhkodaa
namespace Go.Proofs.Ytdjglkpcdhkodaa
open Go.RowKit
set_option linter.unusedVariables false

/-- Alone, behind k accesses. -/
structure AtS (l : Ly) (op : Opr) (m : List Int) (k : Nat) (mk : List Int) (lg : Log) : Prop where
  eq : aloneS l op m k = (mk, lg)
  ask : ∀ j, j < k → ∃ a c o v, nextD l op (aloneS l op m j).2 = .ask a c o v ∧ (⟨a, c, o, v⟩ : Acc).err (aloneS l op m j).1.length = 0
  lin : ∀ j, j ≤ k → LogIn (aloneS l op m j).2
def InB (m : List Int) : Prop := ∀ c, -1 ≤ cel m c ∧ cel m c ≤ 1000
theorem InB.set {m : List Int} (h : InB m) {c : Nat} (hc : c < m.length) {v : Int} (hv : -1 ≤ v ∧ v ≤ 1000) : InB (m.set c v) := by
  intro d
  by_cases hd : 0 ≤ d
  · rw [cel_set hc d hd]
    split
    · exact hv
    · exact h d
  · have e : cel (m.set c v) d = cel (m.set c v) 0 := by unfold cel; rw [show d.toNat = (0 : Int).toNat by omega]
    rw [e, cel_set hc 0 (by omega)]
    split
    · exact hv
    · exact h 0
section
variable {l : Ly} {op : Opr} {m mk : List Int} {k : Nat} {lg : Log}
theorem AtS.zero : AtS l op m 0 m [] := ⟨rfl, fun j h => by omega, fun j h => by
  obtain rfl : j = 0 := by omega
  intro k x hx
  simp [aloneS] at hx⟩
theorem AtS.step (h : AtS l op m k mk lg) {a c o v : Int} (e : nextD l op lg = .ask a c o v) (he : (⟨a, c, o, v⟩ : Acc).err mk.length = 0) (hb : -1000000 ≤ (⟨a, c, o, v⟩ : Acc).had mk ∧ (⟨a, c, o, v⟩ : Acc).had mk ≤ 1000000) :
    AtS l op m (k + 1) ((⟨a, c, o, v⟩ : Acc).make mk) (lg ++ [((⟨a, c, o, v⟩ : Acc).had mk, (⟨a, c, o, v⟩ : Acc).ok ((⟨a, c, o, v⟩ : Acc).had mk))]) := by
  have e1 : aloneS l op m (k + 1) = ((⟨a, c, o, v⟩ : Acc).make mk, lg ++ [((⟨a, c, o, v⟩ : Acc).had mk, (⟨a, c, o, v⟩ : Acc).ok ((⟨a, c, o, v⟩ : Acc).had mk))]) := by
    simp only [aloneS, h.eq, e]
  refine ⟨e1, fun j hj => ?_, fun j hj => ?_⟩
  · by_cases hjk : j = k
    · subst hjk
      exact ⟨a, c, o, v, by rw [h.eq]; exact e, by rw [h.eq]; exact he⟩
    · exact h.ask j (by omega)
  · by_cases hjk : j = k + 1
    · subst hjk
      rw [e1]
      have h0 := h.lin k (Nat.le_refl _)
      rw [h.eq] at h0
      intro i x hx
      dsimp only at hx h0
      by_cases hi : i < lg.length
      · rw [List.getElem?_append_left hi] at hx
        exact h0 i x hx
      · rw [List.getElem?_append_right (by omega)] at hx
        have : i - lg.length = 0 := by
          have := (List.getElem?_eq_some_iff.1 hx).1
          simp at this
          omega
        rw [this] at hx
        simp at hx
        subst hx
        exact hb
    · exact h.lin j (by omega)
theorem nd9 (l : Ly) (a : Int) (lg : Log) : nextD l ⟨9, 0, a, 0⟩ lg = popM l lg := by unfold nextD; rw [if_neg (by show ¬ ((9 : Int) = 8); decide), if_pos rfl]
theorem nd10 (l : Ly) (a : Int) (lg : Log) : nextD l ⟨10, 0, a, 0⟩ lg = stealM l lg := by unfold nextD; rw [if_neg (by show ¬ ((10 : Int) = 8); decide), if_neg (by show ¬ ((10 : Int) = 9); decide)]
theorem nd8 (l : Ly) (a : Int) (lg : Log) : nextD l ⟨8, 0, a, 0⟩ lg = pushM l a lg := by unfold nextD; rw [if_pos rfl]
theorem had_cel (a c o v : Int) (z : List Int) : (⟨a, c, o, v⟩ : Acc).had z = cel z c := rfl
theorem setD_same {z : List Int} {c : Nat} (h : c < z.length) : z.set c (z.getD c 0) = z := by
  apply List.ext_getElem?
  intro i
  by_cases e : c = i
  · subst e
    rw [List.getElem?_set_self h, List.getD_eq_getElem?_getD, List.getElem?_eq_getElem h]
    rfl
  · rw [List.getElem?_set_ne e]
theorem AtS.load (h : AtS l op m k mk lg) {c : Int} (e : nextD l op lg = .ask 1 c 0 0) (h0 : 0 ≤ c) (h1 : c < mk.length) (hb : InB mk) : AtS l op m (k + 1) mk (lg ++ [(cel mk c, true)]) := by
  have hs := h.step e (by simp [Acc.err, Acc.right, h0, h1]) (by rw [had_cel]; have := hb c; omega)
  rw [had_cel] at hs
  have e1 : (⟨1, c, 0, 0⟩ : Acc).make mk = mk := by
    show mk.set c.toNat _ = mk
    exact setD_same (by omega)
  rw [e1] at hs
  exact hs
theorem AtS.store (h : AtS l op m k mk lg) {c v : Int} (e : nextD l op lg = .ask 2 c 0 v) (h0 : 0 ≤ c) (h1 : c < mk.length) (hb : InB mk) : AtS l op m (k + 1) (mk.set c.toNat v) (lg ++ [(cel mk c, true)]) := by
  have hs := h.step e (by simp [Acc.err, Acc.right, h0, h1]) (by rw [had_cel]; have := hb c; omega)
  rw [had_cel] at hs
  exact hs
theorem AtS.cas (h : AtS l op m k mk lg) {c o v : Int} (e : nextD l op lg = .ask 3 c o v) (h0 : 0 ≤ c) (h1 : c < mk.length) (hb : InB mk) (ho : cel mk c = o) : AtS l op m (k + 1) (mk.set c.toNat v) (lg ++ [(cel mk c, true)]) := by
  have hs := h.step e (by simp [Acc.err, Acc.right, h0, h1]) (by rw [had_cel]; have := hb c; omega)
  rw [had_cel] at hs
  have e1 : (⟨3, c, o, v⟩ : Acc).make mk = mk.set c.toNat v := by
    show mk.set c.toNat ((⟨3, c, o, v⟩ : Acc).next (cel mk c)) = _
    simp [Acc.next, ho]
  have e2 : (⟨3, c, o, v⟩ : Acc).ok (cel mk c) = true := by simp [Acc.ok, ho]
  rw [e1, e2] at hs
  exact hs
theorem AtS.done (h : AtS l op m k mk lg) {val : Int} {is : Bool} {err pt : Int} (e : nextD l op lg = .out val is err pt) (hk : k ≤ 300) : ARun l op m k val is err pt ∧ (aloneS l op m k).1 = mk :=
  ⟨⟨h.ask, h.lin, by rw [h.eq]; exact e, hk⟩, by rw [h.eq]⟩
end
/-- The memory of a row, between operations. -/
structure SoI (l : Ly) (sz n : Nat) (m : List Int) (row : List Int) (size : Int) : Prop where
  ml : m.length = sz
  t0 : 0 ≤ top m
  tb : top m ≤ bot m
  r0 : 0 ≤ whi m ∧ whi m < ringsN l.c.tasks
  sz : bot m - top m ≤ sizeN (whi m)
  bn : bot m ≤ n
  row : Lc m = row
  se : size = sizeN (whi m)
  inb : InB m
theorem SoI.len {l : Ly} {sz n : Nat} {m row : List Int} {size : Int} (h : SoI l sz n m row size) : (row.length : Int) = bot m - top m := by
  have := h.tb
  rw [← h.row]
  unfold Lc
  rw [rowM_length]
  omega
theorem SoI.rowOk {l : Ly} {sz n : Nat} {m row : List Int} {size : Int} (h : SoI l sz n m row size) (hn : n ≤ 1000) : RowOk l sz m :=
  ⟨h.ml, h.t0, h.tb, h.r0, h.sz, by have := h.bn; omega⟩
theorem Lc_push {m m' : List Int} {a : Int} (h1 : top m' = top m) (h2 : bot m' = bot m + 1) (h0 : top m ≤ bot m) (h3 : ∀ i : Int, top m ≤ i → i < bot m → rc m' (whi m') i = rc m (whi m) i) (h4 : rc m' (whi m') (bot m) = a) : Lc m' = Lc m ++ [a] := by
  unfold Lc
  rw [h1, h2, show (bot m + 1 - top m).toNat = (bot m - top m).toNat + 1 by omega, rowM_snoc, show top m + (((bot m - top m).toNat : Nat) : Int) = bot m by omega, h4]
  congr 1
  exact rowM_congr fun i hi hj => h3 i hi (by omega)
theorem take_prefix {xs ys : List Int} {a : Int} (h : xs = ys ++ [a]) : xs.take (xs.length - 1) = ys ∧ xs[xs.length - 1]? = some a ∧ 0 < xs.length := by
  subst h
  refine ⟨by simp, by simp, by simp⟩
section
variable {l : Ly} {sz n : Nat} {m row : List Int} {size : Int}
def PopPost (l : Ly) (sz n : Nat) (m row : List Int) (size : Int) (op : Opr) : Prop :=
  ∃ K val is pt m', ARun l op m K val is 0 pt ∧ (aloneS l op m K).1 = m' ∧ 0 < K ∧ is = decide (0 < row.length) ∧ (0 < row.length → row[row.length - 1]? = some val) ∧ SoI l sz (n + 1) m' (row.take (row.length - 1)) size
theorem solo_pop (ly : DLay l sz) (h : SoI l sz n m row size) (hn : n ≤ 100) (a : Int) : PopPost l sz n m row size ⟨9, 0, a, 0⟩ := by
  have hbig := ly.big
  have hdq := ly.dq
  have hml := h.ml
  have hr3 := rings3 ly
  have ha0 := aheadN_in (ringsN l.c.tasks)
  have hlen := h.len
  have t0 := h.t0; have tb := h.tb; have r0 := h.r0; have hsz := h.sz; have bn := h.bn
  have s1 := (AtS.zero (l := l) (op := ⟨9, 0, a, 0⟩) (m := m)).load (c := l.deque + 1) rfl (by omega) (by omega) h.inb
  rw [show cel m (l.deque + 1) = bot m by rw [hdq]; rfl] at s1
  have s2 := s1.store (c := l.deque + 1) (v := bot m - 1) rfl (by omega) (by omega) h.inb
  have e20 : (l.deque + 1).toNat = 20 := by omega
  rw [show cel m (l.deque + 1) = bot m by rw [hdq]; rfl, e20] at s2
  obtain ⟨b1, b2, b3⟩ := bot_st (m := m) (v := bot m - 1) (by omega)
  have i2 := h.inb.set (c := 20) (v := bot m - 1) (by omega) (by omega)
  have l2 : (m.set 20 (bot m - 1)).length = m.length := by simp
  obtain ⟨m2, hm2⟩ : ∃ m2, m.set 20 (bot m - 1) = m2 := ⟨_, rfl⟩
  have sm2 := same_low (m := m) (c := 20) (v := bot m - 1) (by omega) (by omega)
  rw [hm2] at s2 b1 b2 b3 i2 l2 sm2
  have s3 := s2.load (c := l.deque) rfl (by omega) (by omega) i2
  rw [show cel m2 l.deque = top m2 by rw [hdq]; rfl, b1] at s3
  by_cases hc : bot m - 1 < top m
  · have s4 := s3.store (c := l.deque + 1) (v := bot m) (by refine (nd9 _ _ _).trans ?_; exact pp3e (b := (bot m, true)) (y := (bot m, true)) (t := (top m, true)) rfl rfl rfl hc rfl) (by omega) (by omega) i2
    rw [e20] at s4
    obtain ⟨c1, c2, c3⟩ := bot_st (m := m2) (v := bot m) (by omega)
    have i4 := i2.set (c := 20) (v := bot m) (by omega) (by omega)
    have hrow0 : row = [] := by
      have : row.length = 0 := by omega
      exact List.length_eq_zero_iff.1 this
    obtain ⟨d1, d2⟩ := s4.done (val := 0) (is := false) (err := 0) (pt := 2) (by refine (nd9 _ _ _).trans ?_; exact pp4e (b := (bot m, true)) (y := (bot m, true)) (t := (top m, true)) (z := (cel m2 (l.deque + 1), true)) rfl rfl rfl hc rfl) (by omega)
    refine ⟨4, 0, false, 2, _, d1, d2, by omega, ?_, ?_, ?_⟩
    · rw [hrow0]; rfl
    · rw [hrow0]; intro h0; simp at h0
    · have hL : Lc (m2.set 20 (bot m)) = [] := Lc_nil (by omega)
      exact ⟨by simp [l2, hml], by omega, by omega, by rw [c3, b3]; exact r0, by rw [c3, b3]; omega, by omega, by rw [hL, hrow0]; rfl, by rw [c3, b3]; exact h.se, i4⟩
  · have hle : top m ≤ bot m - 1 := by omega
    have s4 := s3.load (c := l.deque + 2) (by refine (nd9 _ _ _).trans ?_; exact pp3 (b := (bot m, true)) (y := (bot m, true)) (t := (top m, true)) rfl rfl rfl hle rfl) (by omega) (by omega) i2
    rw [show cel m2 (l.deque + 2) = whi m2 by rw [hdq]; rfl, b3] at s4
    have hpl := place_eq ly r0.1 r0.2 (i := bot m - 1) (by omega)
    have hpi := plc_in r0.1 (by omega : whi m < 3) (bot m - 1)
    have hlt := plc_lt ly r0.1 r0.2 (bot m - 1)
    have s5 := s4.load (c := plc (whi m) (bot m - 1)) (by refine (nd9 _ _ _).trans ?_; refine (pp4 (b := (bot m, true)) (y := (bot m, true)) (t := (top m, true)) (r := (whi m, true)) rfl rfl rfl hle rfl rfl).trans ?_; rw [hpl]) (by omega) (by omega) i2
    have hx : cel m2 (plc (whi m) (bot m - 1)) = rc m (whi m) (bot m - 1) := by
      rw [← sm2.rc (whi m) (bot m - 1) r0.1 (by omega)]; rfl
    rw [hx] at s5
    have hrowS : row = rowM m (whi m) (top m) (bot m - 1 - top m).toNat ++ [rc m (whi m) (bot m - 1)] := by
      rw [← h.row]
      unfold Lc
      rw [show (bot m - top m).toNat = (bot m - 1 - top m).toNat + 1 by omega, rowM_snoc, show top m + (((bot m - 1 - top m).toNat : Nat) : Int) = bot m - 1 by omega]
    obtain ⟨p1, p2, p3⟩ := take_prefix hrowS
    have dtrue : true = decide (0 < row.length) := by simp [p3]
    by_cases he : top m = bot m - 1
    · have s6 := s5.cas (c := l.deque) (o := top m) (v := top m + 1) (by refine (nd9 _ _ _).trans ?_; exact pp5c (b := (bot m, true)) (y := (bot m, true)) (t := (top m, true)) (r := (whi m, true)) (x := (rc m (whi m) (bot m - 1), true)) rfl rfl rfl hle rfl rfl he rfl) (by omega) (by omega) i2 (by rw [hdq]; exact b1)
      rw [show l.deque.toNat = 19 by omega] at s6
      obtain ⟨c1, c2, c3⟩ := top_st (m := m2) (v := top m + 1) (by omega)
      have i6 := i2.set (c := 19) (v := top m + 1) (by omega) (by omega)
      have l6 : (m2.set 19 (top m + 1)).length = m.length := by simp [l2]
      rw [show cel m2 l.deque = top m by rw [hdq]; exact b1] at s6
      obtain ⟨m6, hm6⟩ : ∃ m6, m2.set 19 (top m + 1) = m6 := ⟨_, rfl⟩
      rw [hm6] at s6 c1 c2 c3 i6 l6
      have s7 := s6.store (c := l.deque + 1) (v := bot m) (by refine (nd9 _ _ _).trans ?_; exact pp6 (b := (bot m, true)) (y := (bot m, true)) (t := (top m, true)) (r := (whi m, true)) (x := (rc m (whi m) (bot m - 1), true)) (c := (top m, true)) rfl rfl rfl hle rfl rfl he rfl rfl) (by omega) (by omega) i6
      rw [e20] at s7
      obtain ⟨d1, d2, d3⟩ := bot_st (m := m6) (v := bot m) (by omega)
      have i7 := i6.set (c := 20) (v := bot m) (by omega) (by omega)
      obtain ⟨f1, f2⟩ := s7.done (val := rc m (whi m) (bot m - 1)) (is := true) (err := 0) (pt := 5) (by refine (nd9 _ _ _).trans ?_; exact pp7 (b := (bot m, true)) (y := (bot m, true)) (t := (top m, true)) (r := (whi m, true)) (x := (rc m (whi m) (bot m - 1), true)) (c := (top m, true)) (z := (cel m6 (l.deque + 1), true)) rfl rfl rfl hle rfl rfl he rfl rfl) (by omega)
      refine ⟨7, _, true, 5, _, f1, f2, by omega, dtrue, fun _ => p2, ?_⟩
      have hL : Lc (m6.set 20 (bot m)) = [] := Lc_nil (by omega)
      exact ⟨by simp [l6, hml], by omega, by omega, by rw [d3, c3, b3]; exact r0, by rw [d3, c3, b3]; omega, by omega, by rw [hL, p1, show (bot m - 1 - top m).toNat = 0 by omega]; rfl, by rw [d3, c3, b3]; exact h.se, i7⟩
    · obtain ⟨f1, f2⟩ := s5.done (val := rc m (whi m) (bot m - 1)) (is := true) (err := 0) (pt := 2) (by refine (nd9 _ _ _).trans ?_; exact pp5 (b := (bot m, true)) (y := (bot m, true)) (t := (top m, true)) (r := (whi m, true)) (x := (rc m (whi m) (bot m - 1), true)) rfl rfl rfl hle rfl rfl he) (by omega)
      refine ⟨5, _, true, 2, _, f1, f2, by omega, dtrue, fun _ => p2, ?_⟩
      have hL : Lc m2 = rowM m (whi m) (top m) (bot m - 1 - top m).toNat := by
        unfold Lc
        rw [b1, b2, b3]
        exact rowM_congr fun i _ _ => sm2.rc (whi m) i r0.1 (by omega)
      exact ⟨by rw [l2, hml], by omega, by omega, by rw [b3]; exact r0, by rw [b3]; omega, by omega, by rw [hL, p1], by rw [b3]; exact h.se, i2⟩
def StealPost (l : Ly) (sz n : Nat) (m row : List Int) (size : Int) (op : Opr) : Prop :=
  ∃ K val is err pt m', ARun l op m K val is err pt ∧ (aloneS l op m K).1 = m' ∧ 0 < K ∧ is = decide (0 < row.length) ∧ (err = 16 ↔ row.length = 0) ∧ (0 < row.length → row[0]? = some val) ∧ SoI l sz (n + 1) m' (row.drop 1) size
theorem solo_steal (ly : DLay l sz) (h : SoI l sz n m row size) (hn : n ≤ 100) (a : Int) : StealPost l sz n m row size ⟨10, 0, a, 0⟩ := by
  have hbig := ly.big
  have hdq := ly.dq
  have hml := h.ml
  have hr3 := rings3 ly
  have ha0 := aheadN_in (ringsN l.c.tasks)
  have hlen := h.len
  have t0 := h.t0; have tb := h.tb; have r0 := h.r0; have hsz := h.sz; have bn := h.bn
  have s1 := (AtS.zero (l := l) (op := ⟨10, 0, a, 0⟩) (m := m)).load (c := l.deque) rfl (by omega) (by omega) h.inb
  rw [show cel m l.deque = top m by rw [hdq]; rfl] at s1
  have s2 := s1.load (c := l.deque + 1) rfl (by omega) (by omega) h.inb
  rw [show cel m (l.deque + 1) = bot m by rw [hdq]; rfl] at s2
  by_cases hc : bot m ≤ top m
  · have hrow0 : row = [] := by
      have : row.length = 0 := by omega
      exact List.length_eq_zero_iff.1 this
    obtain ⟨f1, f2⟩ := s2.done (val := 0) (is := false) (err := 16) (pt := 1) (by refine (nd10 _ _ _).trans ?_; exact st2e (t := (top m, true)) (b := (bot m, true)) rfl rfl hc) (by omega)
    refine ⟨2, 0, false, 16, 1, _, f1, f2, by omega, by rw [hrow0]; rfl, by rw [hrow0]; simp, by rw [hrow0]; intro h0; simp at h0, ?_⟩
    exact ⟨hml, t0, tb, r0, hsz, by omega, by rw [h.row, hrow0]; rfl, h.se, h.inb⟩
  · have hlt : top m < bot m := by omega
    have s3 := s2.load (c := l.deque + 2) (by refine (nd10 _ _ _).trans ?_; exact st2 (t := (top m, true)) (b := (bot m, true)) rfl rfl hlt rfl) (by omega) (by omega) h.inb
    rw [show cel m (l.deque + 2) = whi m by rw [hdq]; rfl] at s3
    have hpl := place_eq ly r0.1 r0.2 (i := top m) t0
    have hpi := plc_in r0.1 (by omega : whi m < 3) (top m)
    have hplt := plc_lt ly r0.1 r0.2 (top m)
    have s4 := s3.load (c := plc (whi m) (top m)) (by refine (nd10 _ _ _).trans ?_; refine (st3 (t := (top m, true)) (b := (bot m, true)) (r := (whi m, true)) rfl rfl hlt rfl rfl).trans ?_; rw [hpl]) (by omega) (by omega) h.inb
    rw [show cel m (plc (whi m) (top m)) = rc m (whi m) (top m) from rfl] at s4
    have s5 := s4.cas (c := l.deque) (o := top m) (v := top m + 1) (by refine (nd10 _ _ _).trans ?_; exact st4 (t := (top m, true)) (b := (bot m, true)) (r := (whi m, true)) (x := (rc m (whi m) (top m), true)) rfl rfl hlt rfl rfl rfl) (by omega) (by omega) h.inb (by rw [hdq]; rfl)
    rw [show l.deque.toNat = 19 by omega, show cel m l.deque = top m by rw [hdq]; rfl] at s5
    obtain ⟨c1, c2, c3⟩ := top_st (m := m) (v := top m + 1) (by omega)
    have i5 := h.inb.set (c := 19) (v := top m + 1) (by omega) (by omega)
    have sm := same_low (m := m) (c := 19) (v := top m + 1) (by omega) (by omega)
    obtain ⟨f1, f2⟩ := s5.done (val := rc m (whi m) (top m)) (is := true) (err := 0) (pt := 4) (by refine (nd10 _ _ _).trans ?_; exact st5 (t := (top m, true)) (b := (bot m, true)) (r := (whi m, true)) (x := (rc m (whi m) (top m), true)) (c := (top m, true)) rfl rfl hlt rfl rfl rfl) (by omega)
    have hcons := Lc_cons hlt
    rw [h.row] at hcons
    refine ⟨5, _, true, 0, 4, _, f1, f2, by omega, by rw [hcons]; rfl, by rw [hcons]; simp, by rw [hcons]; intro _; rfl, ?_⟩
    have hL : Lc (m.set 19 (top m + 1)) = row.drop 1 := by
      rw [hcons]
      unfold Lc
      rw [c1, c2, c3]
      exact rowM_congr fun i _ _ => sm.rc (whi m) i r0.1 (by omega)
    exact ⟨by simp [hml], by omega, by omega, by rw [c3]; exact r0, by rw [c3]; omega, by omega, hL, by rw [c3]; exact h.se, i5⟩
/-- The end of a push: into ring r at b. -/
theorem solo_put (ly : DLay l sz) {a r : Int} {i K : Nat} {mk : List Int} {lg : Log} (ha : -1 ≤ a ∧ a ≤ 1000) (h0 : 0 ≤ r) (h1 : r < ringsN l.c.tasks) (hb0 : 0 ≤ bot mk) (hb1 : bot mk ≤ 500) (hl : mk.length = sz) (hi : InB mk) (hk : K ≤ 200)
    (s : AtS l ⟨8, 0, a, 0⟩ m K mk lg) (hp : ∀ rest, nextD l ⟨8, 0, a, 0⟩ (lg ++ rest) = putM l r (bot mk) a i rest) :
    ∃ m' pt, ARun l ⟨8, 0, a, 0⟩ m (K + 2) 0 true 0 pt ∧ (aloneS l ⟨8, 0, a, 0⟩ m (K + 2)).1 = m' ∧ m'.length = sz ∧ InB m' ∧ top m' = top mk ∧ whi m' = whi mk ∧ bot m' = bot mk + 1 ∧ ∀ r' i' : Int, 0 ≤ r' → r' < 3 → rc m' r' i' = if plc r (bot mk) = plc r' i' then a else rc mk r' i' := by
  have hbig := ly.big
  have hdq := ly.dq
  have hr3 := rings3 ly
  have ha0 := aheadN_in (ringsN l.c.tasks)
  have hpl := place_eq ly h0 h1 (i := bot mk) hb0
  have hpi := plc_in h0 (by omega : r < 3) (bot mk)
  have hlt := plc_lt ly h0 h1 (bot mk)
  have e1 := hp []
  rw [List.append_nil] at e1
  have s1 := s.store (c := plc r (bot mk)) (v := a) (by rw [e1]; show Ans.ask 2 (placeAt l 0 r (bot mk)) 0 a = _; rw [hpl]) (by omega) (by omega) hi
  obtain ⟨g1, g2, g3, g4, g5⟩ := ring_set (m := mk) (v := a) h0 (by omega : r < 3) (i := bot mk) (by omega)
  have i1 := hi.set (c := (plc r (bot mk)).toNat) (v := a) (by omega) ha
  obtain ⟨m1, hm1⟩ : ∃ m1, mk.set (plc r (bot mk)).toNat a = m1 := ⟨_, rfl⟩
  rw [hm1] at s1 g1 g2 g3 g4 g5 i1
  have e2 := hp [(cel mk (plc r (bot mk)), true)]
  have s2 := s1.store (c := l.deque + 1) (v := bot mk + 1) e2 (by omega) (by omega) i1
  rw [show (l.deque + 1).toNat = 20 by omega] at s2
  obtain ⟨c1, c2, c3⟩ := bot_st (m := m1) (v := bot mk + 1) (by omega)
  have i2 := i1.set (c := 20) (v := bot mk + 1) (by omega) (by omega)
  have sm := same_low (m := m1) (c := 20) (v := bot mk + 1) (by omega) (by omega)
  have e3 := hp [(cel mk (plc r (bot mk)), true), (cel m1 (l.deque + 1), true)]
  obtain ⟨f1, f2⟩ := s2.done (val := 0) (is := true) (err := 0) (pt := i + 1) (by rw [List.append_assoc]; exact e3) (by omega)
  exact ⟨_, _, f1, f2, by simp [g1, hl], i2, by omega, by omega, c2, fun r' i' k0 k1 => by rw [sm.rc r' i' k0 k1]; exact g5 r' i' k0 k1⟩
/-- Behind j moves. -/
structure MvS (sz : Nat) (r t : Int) (m0 mk : List Int) (j : Nat) : Prop where
  ml : mk.length = sz
  tp : top mk = top m0
  bt : bot mk = bot m0
  wh : whi mk = whi m0
  inb : InB mk
  old : ∀ i : Int, rc mk r i = rc m0 r i
  new : ∀ i : Int, t ≤ i → i < t + j → rc mk (r + 1) i = rc m0 r i
theorem solo_mov (ly : DLay l sz) {a r t b : Int} (h0 : 0 ≤ r) (h1 : r + 1 < ringsN l.c.tasks) (ht : 0 ≤ t) (hb : b - t = sizeN r) :
    ∀ (d j K i : Nat) (mk : List Int) (lg : Log), t + j + d = b → AtS l ⟨8, 0, a, 0⟩ m K mk lg → (∀ rest, nextD l ⟨8, 0, a, 0⟩ (lg ++ rest) = movM l r b a ((movesOf l 0 r t b).drop j) i rest) → MvS sz r t m mk j →
      ∃ mk' lg' i', AtS l ⟨8, 0, a, 0⟩ m (K + 2 * d) mk' lg' ∧ (∀ rest, nextD l ⟨8, 0, a, 0⟩ (lg' ++ rest) = movM l r b a [] i' rest) ∧ MvS sz r t m mk' (j + d) := by
  have hbig := ly.big
  have hr3 := rings3 ly
  have ha0 := aheadN_in (ringsN l.c.tasks)
  intro d
  induction d with
  | zero =>
    intro j K i mk lg hj s hp hm
    refine ⟨mk, lg, i, s, fun rest => ?_, hm⟩
    rw [hp rest, moves_drop ly h0 h1 ht hb j (by omega), if_neg (by omega)]
  | succ d ih =>
    intro j K i mk lg hj s hp hm
    have hd := moves_drop ly h0 h1 ht hb j (by omega)
    rw [if_pos (by omega)] at hd
    rw [hd] at hp
    have p1 := plc_in h0 (by omega : r < 3) (t + j)
    have p2 := plc_in (by omega : 0 ≤ r + 1) (by omega : r + 1 < 3) (t + j)
    have q1 := plc_lt ly h0 (by omega) (t + j)
    have q2 := plc_lt ly (by omega : 0 ≤ r + 1) h1 (t + j)
    have e1 := hp []
    rw [List.append_nil] at e1
    have s1 := s.load (c := plc r (t + j)) e1 (by omega) (by rw [hm.ml]; omega) hm.inb
    have e2 := hp [(cel mk (plc r (t + j)), true)]
    have s2 := s1.store (c := plc (r + 1) (t + j)) (v := cel mk (plc r (t + j))) e2 (by omega) (by rw [hm.ml]; omega) hm.inb
    obtain ⟨g1, g2, g3, g4, g5⟩ := ring_set (m := mk) (v := cel mk (plc r (t + j))) (by omega : 0 ≤ r + 1) (by omega : r + 1 < 3) (i := t + j) (by rw [hm.ml]; omega)
    have i1 := hm.inb.set (c := (plc (r + 1) (t + j)).toNat) (v := cel mk (plc r (t + j))) (by rw [hm.ml]; omega) (hm.inb _)
    obtain ⟨m1, hm1⟩ : ∃ m1, mk.set (plc (r + 1) (t + j)).toNat (cel mk (plc r (t + j))) = m1 := ⟨_, rfl⟩
    rw [hm1] at s2 g1 g2 g3 g4 g5 i1
    have hsr := size_cases h0 (by omega : r < 3)
    have hsr1 := size_cases (by omega : 0 ≤ r + 1) (by omega : r + 1 < 3)
    have hmv : MvS sz r t m m1 (j + 1) := by
      refine ⟨by rw [g1, hm.ml], by rw [g2, hm.tp], by rw [g3, hm.bt], by rw [g4, hm.wh], i1, fun x => ?_, fun x hx1 hx2 => ?_⟩
      · rw [g5 r x h0 (by omega), if_neg (plc_ne (by omega) (by omega) h0 (by omega) (.inl (by omega)))]
        exact hm.old x
      · rw [g5 (r + 1) x (by omega) (by omega)]
        by_cases e : x = t + j
        · subst e
          rw [if_pos rfl]
          exact hm.old _
        · rw [if_neg (fun e2 => plc_ne (by omega) (by omega) (by omega) (by omega) (.inr ⟨rfl, (by omega : x < t + j), by rcases hsr with ⟨h, e3⟩ | ⟨h, e3⟩ | ⟨h, e3⟩ <;> rcases hsr1 with ⟨h', e4⟩ | ⟨h', e4⟩ | ⟨h', e4⟩ <;> omega⟩) e2.symm)]
          exact hm.new x hx1 (by omega)
    obtain ⟨mk', lg', i', f1, f2, f3⟩ := ih (j + 1) (K + 1 + 1) (i + 2) m1 _ (by omega) s2 (fun rest => by
      rw [List.append_assoc, List.append_assoc]
      exact hp _) hmv
    exact ⟨mk', lg', i', by rw [show K + 2 * (d + 1) = K + 1 + 1 + 2 * d by omega]; exact f1, f2, by rw [show j + (d + 1) = j + 1 + d by omega]; exact f3⟩
def PushPost (l : Ly) (sz n : Nat) (m row : List Int) (size : Int) (op : Opr) : Prop :=
  ∃ K is err pt m', ARun l op m K 0 is err pt ∧ (aloneS l op m K).1 = m' ∧ 0 < K ∧
    (((row.length : Int) = sizeN (ringsN l.c.tasks - 1) ∧ K = 3 ∧ is = false ∧ err = 9 ∧ m' = m) ∨
     ((row.length : Int) ≠ sizeN (ringsN l.c.tasks - 1) ∧ is = true ∧ (((row.length : Int) = size ∧ (K : Int) = 6 + 2 * size ∧ SoI l sz (n + 1) m' (row ++ [op.a]) (2 * size)) ∨ ((row.length : Int) ≠ size ∧ K = 5 ∧ SoI l sz (n + 1) m' (row ++ [op.a]) size))))
theorem solo_push (ly : DLay l sz) (h : SoI l sz n m row size) (hn : n ≤ 100) (a : Int) (ha : -1 ≤ a ∧ a ≤ 1000) : PushPost l sz n m row size ⟨8, 0, a, 0⟩ := by
  have hbig := ly.big
  have hdq := ly.dq
  have hml := h.ml
  have hr3 := rings3 ly
  have ha0 := aheadN_in (ringsN l.c.tasks)
  have hlen := h.len
  have t0 := h.t0; have tb := h.tb; have r0 := h.r0; have hsz := h.sz; have bn := h.bn
  have hse := h.se
  have s1 := (AtS.zero (l := l) (op := ⟨8, 0, a, 0⟩) (m := m)).load (c := l.deque + 1) rfl (by omega) (by omega) h.inb
  rw [show cel m (l.deque + 1) = bot m by rw [hdq]; rfl] at s1
  have s2 := s1.load (c := l.deque) rfl (by omega) (by omega) h.inb
  rw [show cel m l.deque = top m by rw [hdq]; rfl] at s2
  have s3 := s2.load (c := l.deque + 2) rfl (by omega) (by omega) h.inb
  rw [show cel m (l.deque + 2) = whi m by rw [hdq]; rfl] at s3
  have hnx : ∀ rest, nextD l ⟨8, 0, a, 0⟩ ([] ++ [(bot m, true)] ++ [(top m, true)] ++ [(whi m, true)] ++ rest) = if sizeN (whi m) ≤ bot m - top m then (if whi m < 0 ∨ ringsN l.c.tasks - 1 ≤ whi m then .out 0 false 9 (-1) else movM l (whi m) (bot m) a (movesOf l 0 (whi m) (top m) (bot m)) 3 rest) else putM l (whi m) (bot m) a 3 rest := fun rest => by
    rw [nd8]
    rfl
  have hsc := size_cases r0.1 (by omega : whi m < 3)
  have hsm := size_cases (by omega : 0 ≤ ringsN l.c.tasks - 1) (by omega : ringsN l.c.tasks - 1 < 3)
  by_cases hc : sizeN (whi m) ≤ bot m - top m
  · by_cases hf : whi m < 0 ∨ ringsN l.c.tasks - 1 ≤ whi m
    · have e := hnx []
      rw [if_pos hc, if_pos hf, List.append_nil] at e
      obtain ⟨f1, f2⟩ := s3.done (val := 0) (is := false) (err := 9) (pt := -1) e (by omega)
      refine ⟨3, false, 9, -1, _, f1, f2, by omega, .inl ⟨?_, rfl, rfl, rfl, rfl⟩⟩
      rw [hlen, show ringsN l.c.tasks - 1 = whi m by omega]
      omega
    · have hmv0 : MvS sz (whi m) (top m) m m 0 := ⟨hml, rfl, rfl, rfl, h.inb, fun _ => rfl, fun i h1 h2 => by omega⟩
      obtain ⟨mk, lg, i, f1, f2, f3⟩ := solo_mov ly r0.1 (by omega) t0 (by omega : bot m - top m = sizeN (whi m)) (bot m - top m).toNat 0 3 3 m _ (by omega) s3 (fun rest => by rw [hnx rest, if_pos hc, if_neg hf]; rfl) hmv0
      have e4 := f2 []
      rw [List.append_nil] at e4
      have s4 := f1.store (c := l.deque + 2) (v := whi m + 1) e4 (by omega) (by rw [f3.ml]; omega) f3.inb
      rw [show (l.deque + 2).toNat = 21 by omega] at s4
      obtain ⟨c1, c2, c3⟩ := whi_st (m := mk) (v := whi m + 1) (by rw [f3.ml]; omega)
      have i4 := f3.inb.set (c := 21) (v := whi m + 1) (by rw [f3.ml]; omega) (by omega)
      have sm := same_low (m := mk) (c := 21) (v := whi m + 1) (by rw [f3.ml]; omega) (by omega)
      have l4 : (mk.set 21 (whi m + 1)).length = sz := by simp [f3.ml]
      obtain ⟨m4, hm4⟩ : ∃ m4, mk.set 21 (whi m + 1) = m4 := ⟨_, rfl⟩
      rw [hm4] at s4 c1 c2 c3 i4 sm l4
      have eb : bot m4 = bot m := by rw [c2, f3.bt]
      obtain ⟨m', pt, k1, k2, k3, k4, k5, k6, k7, k8⟩ := solo_put ly (a := a) (r := whi m + 1) (i := i + 1) ha (by omega) (by omega) (by omega) (by omega) l4 i4 (by omega) s4 (fun rest => by
        rw [List.append_assoc, f2, eb]
        rfl)
      have hsz1 := size_cases (by omega : 0 ≤ whi m + 1) (by omega : whi m + 1 < 3)
      refine ⟨_, true, 0, pt, m', k1, k2, by omega, .inr ⟨?_, rfl, .inl ⟨by omega, by omega, ?_⟩⟩⟩
      · rw [hlen]
        rcases hsc with ⟨e1, e2⟩ | ⟨e1, e2⟩ | ⟨e1, e2⟩ <;> rcases hsm with ⟨e3, e4⟩ | ⟨e3, e4⟩ | ⟨e3, e4⟩ <;> omega
      · have hw : whi m' = whi m + 1 := by omega
        have hs2 : 2 * size = sizeN (whi m') := by
          rw [hw]
          rcases hsc with ⟨e1, e2⟩ | ⟨e1, e2⟩ | ⟨e1, e2⟩ <;> rcases hsz1 with ⟨e3, e4⟩ | ⟨e3, e4⟩ | ⟨e3, e4⟩ <;> omega
        refine ⟨k3, by rw [k5, c1, f3.tp]; exact t0, by rw [k5, c1, f3.tp]; omega, by omega, by rw [← hs2, k5, c1, f3.tp]; omega, by omega, ?_, hs2, k4⟩
        rw [← h.row]
        refine Lc_push (by rw [k5, c1, f3.tp]) (by omega) tb (fun i g1 g2 => ?_) ?_
        · rw [hw, k8 (whi m + 1) i (by omega) (by omega), eb, if_neg (fun e2 => plc_ne (by omega) (by omega) (by omega) (by omega) (.inr ⟨rfl, g2, by rcases hsc with ⟨e1, e2⟩ | ⟨e1, e2⟩ | ⟨e1, e2⟩ <;> rcases hsz1 with ⟨e3, e4⟩ | ⟨e3, e4⟩ | ⟨e3, e4⟩ <;> omega⟩) e2.symm), sm.rc _ _ (by omega) (by omega)]
          exact f3.new i g1 (by omega)
        · rw [hw, k8 (whi m + 1) _ (by omega) (by omega), eb, if_pos rfl]
  · obtain ⟨m', pt, k1, k2, k3, k4, k5, k6, k7, k8⟩ := solo_put ly (a := a) (r := whi m) (i := 3) ha r0.1 r0.2 (by omega) (by omega) hml h.inb (by omega) s3 (fun rest => by rw [hnx rest, if_neg hc])
    refine ⟨_, true, 0, pt, m', k1, k2, by omega, .inr ⟨?_, rfl, .inr ⟨by omega, rfl, ?_⟩⟩⟩
    · rw [hlen]
      rcases hsc with ⟨e1, e2⟩ | ⟨e1, e2⟩ | ⟨e1, e2⟩ <;> rcases hsm with ⟨e3, e4⟩ | ⟨e3, e4⟩ | ⟨e3, e4⟩ <;> omega
    · refine ⟨k3, by omega, by omega, by omega, by rw [k6]; omega, by omega, ?_, by rw [k6]; exact hse, k4⟩
      rw [← h.row]
      refine Lc_push k5 k7 tb (fun i g1 g2 => ?_) ?_
      · rw [k6, k8 (whi m) i r0.1 (by omega), if_neg (fun e2 => plc_ne r0.1 (by omega) r0.1 (by omega) (.inr ⟨rfl, g2, by omega⟩) e2.symm)]
      · rw [k6, k8 (whi m) _ r0.1 (by omega), if_pos rfl]
end
/-- In the beginning. -/
theorem solo_begin {l : Ly} {sz : Nat} (ly : DLay l sz) : SoI l sz 0 (List.replicate sz 0) [] 4 := by
  have hbig := ly.big
  have hr3 := rings3 ly
  have hc : ∀ c, cel (List.replicate sz 0) c = 0 := fun c => by
    unfold cel
    rw [List.getD_eq_getElem?_getD, List.getElem?_replicate]
    split <;> rfl
  have h1 : top (List.replicate sz 0) = 0 := hc _
  have h2 : bot (List.replicate sz 0) = 0 := hc _
  have h3 : whi (List.replicate sz 0) = 0 := hc _
  exact ⟨by simp, by omega, by omega, by omega, by rw [h1, h2, h3]; decide, by omega, Lc_nil (by omega), by rw [h3]; decide, fun c => by rw [hc]; omega⟩
end Go.Proofs.Ytdjglkpcdhkodaa
