/- law18's where, few, wish. -/
import Derived.Test.YtdjglkpcdhkodaaDqT
import Derived.Test.YtdjglkpcdhkodaaRefO
namespace Go.Proofs.Ytdjglkpcdhkodaa
open Go.RowKit
set_option linter.unusedVariables false
attribute [local go_sem ↓] Go.wp_at_zero Go.wp_at_succ

/-- A slice of bytes. -/
def SlU8 (w : World) (B : Nat) (A : Option Addr) (l : List Nat) : Prop :=
  0 < l.length → ∃ b o, A = some ⟨b, o, none⟩ ∧ b < B ∧ ∀ k t, l[k]? = some t → w.cell? ⟨b, o + k, none⟩ = some (.int .u8 (t : Nat)) ∧ t < 256
theorem SlU8.below {w w' : World} {B : Nat} {A : Option Addr} {l : List Nat} (h : SlU8 w B A l) (hb : Below B w w') : SlU8 w' B A l := by
  intro hl
  obtain ⟨b, o, e, hbb, hc⟩ := h hl
  refine ⟨b, o, e, hbb, fun k a ha => ?_⟩
  obtain ⟨h1, h2⟩ := hc k a ha
  exact ⟨(hb.cell (p := ⟨b, _, none⟩) hbb).trans h1, h2⟩
theorem SlU8.more {w : World} {B B' : Nat} {A : Option Addr} {l : List Nat} (h : SlU8 w B A l) (hB : B ≤ B') : SlU8 w B' A l := by
  intro hl
  obtain ⟨b, o, e, hbb, hc⟩ := h hl
  exact ⟨b, o, e, Nat.lt_of_lt_of_le hbb hB, hc⟩
abbrev playC (O : Option Addr) (n c : Nat) (s1 s2 : Nat) (tk : Int) (T : Option Addr) (m d : Nat) : Array Value := #[.slice O n c, .int .u8 (s1 : Nat), .int .u8 (s2 : Nat), .int .u8 tk, .slice T m d]
def playCf (t : Int) : Cf := ⟨3, 0, 1, 1, 1 + t % 16, 0, 0, 0, 0⟩
def playL (t : Int) : Ly := lyOf (playCf t)
theorem playCf_can (t : Int) : (playCf t).can := by
  have m0 : 0 ≤ t % 16 := Int.emod_nonneg _ (by omega)
  have m1 : t % 16 < 16 := Int.emod_lt_of_pos _ (by omega)
  refine ⟨⟨fun j hj => ?_, rfl⟩, by simp [playCf], by simp [playCf]⟩
  have hc : j = 0 ∨ j = 1 ∨ j = 2 ∨ j = 3 ∨ j = 4 ∨ j = 5 ∨ j = 6 ∨ j = 7 := by omega
  rcases hc with rfl | rfl | rfl | rfl | rfl | rfl | rfl | rfl <;> simp [Cf.rowOk, playCf] <;> omega
def LyBelow (l : Ly) (w : World) (e : Ending) (w' : World) : Prop := e = .returned (lyV l) ∧ Below w.heap.size w w'
set_option maxRecDepth 100000 in
set_option maxHeartbeats 4000000 in
theorem where_any (O : Option Addr) (n c s1 s2 : Nat) (tk : Int) (T : Option Addr) (m d : Nat) (w : World) (t0 : 0 ≤ tk) (t1 : tk < 256) : Calls Try.prog 10 #[.agg (playC O n c s1 s2 tk T m d)] w (LyBelow (playL tk) w) := by
  have m0 : 0 ≤ tk % 16 := Int.emod_nonneg _ (by omega)
  have m1 : tk % 16 < 16 := Int.emod_lt_of_pos _ (by omega)
  have hc : Cf.can ⟨3, 0, 1, 1, 1 + tk % 16, 0, 0, 0, 0⟩ := playCf_can tk
  have HC := Lib.hid hc
  clear hc
  go_enter Try.func10, Try.ntmps10
  go_wp2_with fail
  (with_reducible refine (rof_ok ⟨3, 0, 1, 1, 1 + tk % 16, 0, 0, 0, 0⟩ _ HC.out).mono ?_)
  rintro e w1 ⟨rfl, hb1⟩
  have k0 := (Bk.new (w.alloc (.cells (playC O n c s1 s2 tk T m d) 25)) (g := w.heap.size + 1) (by simp) 31 (lyC zeroLy)).keep hb1
  have hbl := below_tr (below_al (below_al (Below.refl w.heap.size w) (.cells (playC O n c s1 s2 tk T m d) 25)) (.cells (lyC zeroLy) 31)) hb1
  have hg := k0.lt
  clear hb1
  have hwl : lyOf ⟨3, 0, 1, 1, 1 + tk % 16, 0, 0, 0, 0⟩ = playL tk := rfl
  rw [hwl]
  clear hwl HC
  generalize playL tk = l at *
  have k1 := k0.alloc (.cells (lyC l) 31)
  have hne : ¬ w1.heap.size = w.heap.size + 1 := by omega
  go_wp2_with (first
    | (refine wpList_store_new rfl 31 (.tmp 3) (.tmp 13) rfl rfl w1.heap.size _ _ (lyC l) rfl rfl rfl rfl (by kernel_rfl) rfl (by simp [Value.oneCell']) ?_)
    | (refine wpList_load_row rfl 31 (.tmp 3) rfl w1.heap.size rfl 31 (lyC l) (0, 0) _ (Bk.made w1 _ _) Try.underlying31 rfl (by kernel_rfl) ?_)
    | (refine wpList_store_rowTo rfl 31 (.tmp 2) (.tmp 15) rfl rfl (w.heap.size + 1) (lyC l) rfl rfl 31 (lyC zeroLy) k1 (by kernel_rfl) rfl (by simp [Value.oneCell']) ?_))
  exact bodyPost_ret (v := lyV l) (results_cell_row (p := 2) (ty := 31) rfl _ _ (w.heap.size + 1) 31 (lyC l) (0, 0) _ rfl (setRow_heap _ _ _ _ _ _ k1) Try.underlying31 rfl (by kernel_rfl)) rfl ⟨rfl, below_setRow (below_al hbl _) (by omega) _⟩
set_option maxHeartbeats 1000000 in
theorem few_any (O : Option Addr) (n c s1 s2 : Nat) (tk : Int) (T : Option Addr) (m d : Nat) (w : World) : Calls Try.prog 9 #[.agg (playC O n c s1 s2 tk T m d)] w (BoolBelow (decide (n ≤ 14 ∧ m ≤ 300)) w) := by
  by_cases h1 : n ≤ 14
  · have g1 : decide ((n : Int) ≤ 14) = true := by simp; omega
    by_cases h2 : m ≤ 300
    · have g2 : decide ((m : Int) ≤ 300) = true := by simp; omega
      have e : decide (n ≤ 14 ∧ m ≤ 300) = true := by simp [h1, h2]
      rw [e]
      clear e
      go_enter Try.func9, Try.ntmps9
      go_wp2
      go_ret
      exact ⟨rfl, below_al (Below.refl _ _) _⟩
    · have g2 : decide ((m : Int) ≤ 300) = false := by simp; omega
      have e : decide (n ≤ 14 ∧ m ≤ 300) = false := by simp [h2]
      rw [e]
      clear e
      go_enter Try.func9, Try.ntmps9
      go_wp2
      go_ret
      exact ⟨rfl, below_al (Below.refl _ _) _⟩
  · have g1 : decide ((n : Int) ≤ 14) = false := by simp; omega
    have e : decide (n ≤ 14 ∧ m ≤ 300) = false := by simp [h1]
    rw [e]
    clear e
    go_enter Try.func9, Try.ntmps9
    go_wp2
    go_ret
    exact ⟨rfl, below_al (Below.refl _ _) _⟩
def OpBelow (o : Opr) (w : World) (e : Ending) (w' : World) : Prop := e = .returned (.agg (oprC o)) ∧ Below w.heap.size w w'
abbrev opZ : Array Value := #[.int .i64 0, .int .i64 0, .int .i64 0, .int .i64 0]
set_option maxRecDepth 100000 in
set_option maxHeartbeats 4000000 in
theorem wish_any (p : PlayD) (O : Option Addr) (c : Nat) (tk : Int) (T : Option Addr) (m d : Nat) (who x : Nat) (w : World) (hw : who < 3) (hx : x ≤ 100000) (h1 : p.s1 < 256) (h2 : p.s2 < 256) (hO : SlU8 w w.heap.size O p.own) :
    Calls Try.prog 27 #[.agg (playC O p.own.length c p.s1 p.s2 tk T m d), .int .i64 (who : Nat), .int .i64 (x : Nat)] w (OpBelow (wishD p who x) w) := by
  have hO1 := hO.below ((below_al (below_al (Below.refl w.heap.size w) (.cells (playC O p.own.length c p.s1 p.s2 tk T m d) 25)) (.cells opZ 39)))
  have k0 := (Bk.made w 25 (playC O p.own.length c p.s1 p.s2 tk T m d)).alloc (.cells opZ 39)
  have k1 := Bk.new (w.alloc (.cells (playC O p.own.length c p.s1 p.s2 tk T m d) 25)) (g := w.heap.size + 1) (by simp) 39 opZ
  have hbl := below_al (below_al (Below.refl w.heap.size w) (.cells (playC O p.own.length c p.s1 p.s2 tk T m d) 25)) (.cells opZ 39)
  have HO := Lib.hid hO1
  clear hO hO1
  by_cases h0 : 0 < who
  · have hc : who = 1 ∨ who = 2 := by omega
    rcases hc with rfl | rfl
    all_goals
      have e7 := Nat.mod_lt (if (1 : Nat) = 1 then p.s1 else p.s2) (show 0 < 7 by omega)
      clear h0 hw
    · by_cases hq : x < p.s1 % 7
      · have g0 : decide ((x : Int) < (p.s1 : Int) % 7) = true := by simp; omega
        have e : wishD p 1 x = ⟨10, 0, 0, 0⟩ := by simp [wishD, hq]
        rw [e]
        clear e
        go_enter Try.func27, Try.ntmps27
        go_upto_region 1 with fail
        generalize (w.alloc (.cells (playC O p.own.length c p.s1 p.s2 tk T m d) 25)).alloc (.cells opZ 39) = w1 at *
        obtain ⟨gr, hgr⟩ : ∃ g, w.heap.size + 1 = g := ⟨_, rfl⟩
        have zr : w.heap.size ≤ gr := by omega
        rw [hgr] at k1 ⊢
        clear hgr
        have q0 := k0.cell 0
        have q1 := k0.cell 1
        have q2 := k0.cell 2
        have l0 := k0.lt
        simp at q0 q1 q2
        go_wp2_with (refine wpList_store_rowTo rfl 39 (.tmp 6) (.tmp 18) rfl rfl gr (oprC ⟨10, 0, 0, 0⟩) rfl rfl 39 opZ k1 (by kernel_rfl) rfl (by simp [Value.oneCell']) ?_)
        exact bodyPost_ret (v := .agg (oprC ⟨10, 0, 0, 0⟩)) (results_cell_row (p := 6) (ty := 39) rfl _ _ gr 39 _ (0, 0) _ rfl (setRow_heap _ _ _ _ _ _ k1) Try.underlying39 rfl (by kernel_rfl)) rfl ⟨rfl, below_setRow hbl zr _⟩
      · have g0 : decide ((x : Int) < (p.s1 : Int) % 7) = false := by simp; omega
        have e : wishD p 1 x = op0 := by simp [wishD, hq]
        rw [e]
        clear e
        go_enter Try.func27, Try.ntmps27
        go_upto_region 1 with fail
        generalize (w.alloc (.cells (playC O p.own.length c p.s1 p.s2 tk T m d) 25)).alloc (.cells opZ 39) = w1 at *
        obtain ⟨gr, hgr⟩ : ∃ g, w.heap.size + 1 = g := ⟨_, rfl⟩
        have zr : w.heap.size ≤ gr := by omega
        rw [hgr] at k1 ⊢
        clear hgr
        have q0 := k0.cell 0
        have q1 := k0.cell 1
        have q2 := k0.cell 2
        have l0 := k0.lt
        simp at q0 q1 q2
        go_wp2_with (refine wpList_store_rowTo rfl 39 (.tmp 6) (.tmp 19) rfl rfl gr (oprC op0) rfl rfl 39 opZ k1 (by kernel_rfl) rfl (by simp [Value.oneCell']) ?_)
        exact bodyPost_ret (v := .agg (oprC op0)) (results_cell_row (p := 6) (ty := 39) rfl _ _ gr 39 _ (0, 0) _ rfl (setRow_heap _ _ _ _ _ _ k1) Try.underlying39 rfl (by kernel_rfl)) rfl ⟨rfl, below_setRow hbl zr _⟩
    · by_cases hq : x < p.s2 % 7
      · have g0 : decide ((x : Int) < (p.s2 : Int) % 7) = true := by simp; omega
        have e : wishD p 2 x = ⟨10, 0, 0, 0⟩ := by simp [wishD, hq]
        rw [e]
        clear e
        go_enter Try.func27, Try.ntmps27
        go_upto_region 1 with fail
        generalize (w.alloc (.cells (playC O p.own.length c p.s1 p.s2 tk T m d) 25)).alloc (.cells opZ 39) = w1 at *
        obtain ⟨gr, hgr⟩ : ∃ g, w.heap.size + 1 = g := ⟨_, rfl⟩
        have zr : w.heap.size ≤ gr := by omega
        rw [hgr] at k1 ⊢
        clear hgr
        have q0 := k0.cell 0
        have q1 := k0.cell 1
        have q2 := k0.cell 2
        have l0 := k0.lt
        simp at q0 q1 q2
        go_wp2_with (refine wpList_store_rowTo rfl 39 (.tmp 6) (.tmp 18) rfl rfl gr (oprC ⟨10, 0, 0, 0⟩) rfl rfl 39 opZ k1 (by kernel_rfl) rfl (by simp [Value.oneCell']) ?_)
        exact bodyPost_ret (v := .agg (oprC ⟨10, 0, 0, 0⟩)) (results_cell_row (p := 6) (ty := 39) rfl _ _ gr 39 _ (0, 0) _ rfl (setRow_heap _ _ _ _ _ _ k1) Try.underlying39 rfl (by kernel_rfl)) rfl ⟨rfl, below_setRow hbl zr _⟩
      · have g0 : decide ((x : Int) < (p.s2 : Int) % 7) = false := by simp; omega
        have e : wishD p 2 x = op0 := by simp [wishD, hq]
        rw [e]
        clear e
        go_enter Try.func27, Try.ntmps27
        go_upto_region 1 with fail
        generalize (w.alloc (.cells (playC O p.own.length c p.s1 p.s2 tk T m d) 25)).alloc (.cells opZ 39) = w1 at *
        obtain ⟨gr, hgr⟩ : ∃ g, w.heap.size + 1 = g := ⟨_, rfl⟩
        have zr : w.heap.size ≤ gr := by omega
        rw [hgr] at k1 ⊢
        clear hgr
        have q0 := k0.cell 0
        have q1 := k0.cell 1
        have q2 := k0.cell 2
        have l0 := k0.lt
        simp at q0 q1 q2
        go_wp2_with (refine wpList_store_rowTo rfl 39 (.tmp 6) (.tmp 19) rfl rfl gr (oprC op0) rfl rfl 39 opZ k1 (by kernel_rfl) rfl (by simp [Value.oneCell']) ?_)
        exact bodyPost_ret (v := .agg (oprC op0)) (results_cell_row (p := 6) (ty := 39) rfl _ _ gr 39 _ (0, 0) _ rfl (setRow_heap _ _ _ _ _ _ k1) Try.underlying39 rfl (by kernel_rfl)) rfl ⟨rfl, below_setRow hbl zr _⟩
  · obtain rfl : who = 0 := by omega
    clear h0 hw
    cases hy : p.own[x]? with
    | none =>
      have hxl := List.getElem?_eq_none_iff.1 hy
      have g0 : decide ((p.own.length : Int) ≤ x) = true := by simp; omega
      have e : wishD p 0 x = op0 := by simp [wishD, hy]
      rw [e]
      clear e hy
      go_enter Try.func27, Try.ntmps27
      go_upto_region 1 with fail
      generalize (w.alloc (.cells (playC O p.own.length c p.s1 p.s2 tk T m d) 25)).alloc (.cells opZ 39) = w1 at *
      obtain ⟨gr, hgr⟩ : ∃ g, w.heap.size + 1 = g := ⟨_, rfl⟩
      have zr : w.heap.size ≤ gr := by omega
      rw [hgr] at k1 ⊢
      clear hgr
      have q0 := k0.cell 0
      have q1 := k0.cell 1
      have q2 := k0.cell 2
      have l0 := k0.lt
      simp at q0 q1 q2
      go_wp2_with (refine wpList_store_rowTo rfl 39 (.tmp 6) (.tmp 25) rfl rfl gr (oprC op0) rfl rfl 39 opZ k1 (by kernel_rfl) rfl (by simp [Value.oneCell']) ?_)
      exact bodyPost_ret (v := .agg (oprC op0)) (results_cell_row (p := 6) (ty := 39) rfl _ _ gr 39 _ (0, 0) _ rfl (setRow_heap _ _ _ _ _ _ k1) Try.underlying39 rfl (by kernel_rfl)) rfl ⟨rfl, below_setRow hbl zr _⟩
    | some y =>
      have hxl := (List.getElem?_eq_some_iff.1 hy).1
      have g0 : decide ((p.own.length : Int) ≤ x) = false := by simp; omega
      have g9 : decide (p.own.length ≤ x) = false := by simp; omega
      obtain ⟨b, o, rfl, hb, hcc⟩ := HO.out (by omega)
      obtain ⟨c1, c2⟩ := hcc x y hy
      have HY := Lib.hid hy
      clear hcc hy HO
      by_cases h3 : y % 3 = 2
      · have g3 : ((y : Int) % 3 == 2) = true := by simp; omega
        have e : wishD p 0 x = ⟨9, 0, 0, 0⟩ := by simp [wishD, HY.out, h3]
        rw [e]
        clear e h3
        go_enter Try.func27, Try.ntmps27
        go_upto_region 1 with fail
        generalize (w.alloc (.cells (playC (some ⟨b, o, none⟩) p.own.length c p.s1 p.s2 tk T m d) 25)).alloc (.cells opZ 39) = w1 at *
        obtain ⟨gr, hgr⟩ : ∃ g, w.heap.size + 1 = g := ⟨_, rfl⟩
        have zr : w.heap.size ≤ gr := by omega
        rw [hgr] at k1 ⊢
        clear hgr
        have q0 := k0.cell 0
        have q1 := k0.cell 1
        have q2 := k0.cell 2
        have l0 := k0.lt
        simp at q0 q1 q2
        go_wp2_with (refine wpList_store_rowTo rfl 39 (.tmp 6) (.tmp 33) rfl rfl gr (oprC ⟨9, 0, 0, 0⟩) rfl rfl 39 opZ k1 (by kernel_rfl) rfl (by simp [Value.oneCell']) ?_)
        exact bodyPost_ret (v := .agg (oprC ⟨9, 0, 0, 0⟩)) (results_cell_row (p := 6) (ty := 39) rfl _ _ gr 39 _ (0, 0) _ rfl (setRow_heap _ _ _ _ _ _ k1) Try.underlying39 rfl (by kernel_rfl)) rfl ⟨rfl, below_setRow hbl zr _⟩
      · have g3 : ((y : Int) % 3 == 2) = false := by simp; omega
        have e : wishD p 0 x = ⟨8, 0, x + 1, 0⟩ := by simp [wishD, HY.out, h3]
        rw [e]
        clear e h3
        go_enter Try.func27, Try.ntmps27
        go_upto_region 1 with fail
        generalize (w.alloc (.cells (playC (some ⟨b, o, none⟩) p.own.length c p.s1 p.s2 tk T m d) 25)).alloc (.cells opZ 39) = w1 at *
        obtain ⟨gr, hgr⟩ : ∃ g, w.heap.size + 1 = g := ⟨_, rfl⟩
        have zr : w.heap.size ≤ gr := by omega
        rw [hgr] at k1 ⊢
        clear hgr
        have q0 := k0.cell 0
        have q1 := k0.cell 1
        have q2 := k0.cell 2
        have l0 := k0.lt
        simp at q0 q1 q2
        go_wp2_with (refine wpList_store_rowTo rfl 39 (.tmp 6) (.tmp 36) rfl rfl gr (oprC ⟨8, 0, x + 1, 0⟩) rfl rfl 39 opZ k1 (by kernel_rfl) rfl (by simp [Value.oneCell']) ?_)
        exact bodyPost_ret (v := .agg (oprC ⟨8, 0, x + 1, 0⟩)) (results_cell_row (p := 6) (ty := 39) rfl _ _ gr 39 _ (0, 0) _ rfl (setRow_heap _ _ _ _ _ _ k1) Try.underlying39 rfl (by kernel_rfl)) rfl ⟨rfl, below_setRow hbl zr _⟩
end Go.Proofs.Ytdjglkpcdhkodaa
