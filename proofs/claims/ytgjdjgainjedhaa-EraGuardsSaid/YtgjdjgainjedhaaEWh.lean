/- law16.where, law16.few: a play's layout, its size. -/
import Derived.Test.YtgjdjgainjedhaaRefO
import Derived.Test.YtgjdjgainjedhaaLayN
namespace Go.Proofs.Ytgjdjgainjedhaa
open Go.RowKit
attribute [local go_sem ↓] Go.wp_at_zero Go.wp_at_succ

def SlU8 (w : World) (B : Nat) (A : Option Addr) (l : List Nat) : Prop :=
  0 < l.length → ∃ b o, A = some ⟨b, o, none⟩ ∧ b < B ∧ ∀ k t, l[k]? = some t → w.cell? ⟨b, o + k, none⟩ = some (.int .u8 (t : Nat)) ∧ t < 256
theorem SlU8.below {w w' : World} {B : Nat} {A : Option Addr} {l : List Nat} (h : SlU8 w B A l) (hb : Below B w w') : SlU8 w' B A l := by
  intro hl
  obtain ⟨b, o, e, hbb, hc⟩ := h hl
  refine ⟨b, o, e, hbb, fun k a ha => ?_⟩
  obtain ⟨h1, h2⟩ := hc k a ha
  exact ⟨(hb.cell (p := ⟨b, _, none⟩) hbb).trans h1, h2⟩
theorem SlU8.more {w : World} {B B' : Nat} {A : Option Addr} {l : List Nat} (h : SlU8 w B A l) (hB : B ≤ B') : SlU8 w B' A l := by
  intro hl
  obtain ⟨b, o, e, hbb, hc⟩ := h hl
  exact ⟨b, o, e, Nat.lt_of_lt_of_le hbb hB, hc⟩

def SlU8s (w : World) (B : Nat) (A : Option Addr) (l : List (List Nat)) : Prop :=
  0 < l.length → ∃ b o, A = some ⟨b, o, none⟩ ∧ b < B ∧ ∀ k xs, l[k]? = some xs → ∃ A' c, w.cell? ⟨b, o + k, none⟩ = some (.slice A' xs.length c) ∧ SlU8 w B A' xs
theorem SlU8s.below {w w' : World} {B : Nat} {A : Option Addr} {l : List (List Nat)} (h : SlU8s w B A l) (hb : Below B w w') : SlU8s w' B A l := by
  intro hl
  obtain ⟨b, o, e, hbb, hc⟩ := h hl
  refine ⟨b, o, e, hbb, fun k a ha => ?_⟩
  obtain ⟨A', c, h1, h2⟩ := hc k a ha
  exact ⟨A', c, (hb.cell (p := ⟨b, _, none⟩) hbb).trans h1, h2.below hb⟩
theorem SlU8s.more {w : World} {B B' : Nat} {A : Option Addr} {l : List (List Nat)} (h : SlU8s w B A l) (hB : B ≤ B') : SlU8s w B' A l := by
  intro hl
  obtain ⟨b, o, e, hbb, hc⟩ := h hl
  exact ⟨b, o, e, Nat.lt_of_lt_of_le hbb hB, fun k a ha => by
    obtain ⟨A', c, h1, h2⟩ := hc k a ha
    exact ⟨A', c, h1, h2.more hB⟩⟩
abbrev playC (t : Int) (W : Option Addr) (n c : Nat) (T : Option Addr) (m d : Nat) : Array Value := #[.int .u8 t, .slice W n c, .slice T m d]
def playCf (n : Nat) (t : Int) : Cf := ⟨n, 2 + t % 8, 1, 1, 1, 1, 0, 0, 0⟩
def playL (n : Nat) (t : Int) : Ly := lyOf (playCf n t)
theorem playCf_can (n : Nat) (t : Int) (h1 : 1 ≤ n) (h2 : n ≤ 8) : (playCf n t).can := by
  have m0 : 0 ≤ t % 8 := Int.emod_nonneg _ (by omega)
  have m1 : t % 8 < 8 := Int.emod_lt_of_pos _ (by omega)
  refine ⟨⟨fun j hj => ?_, rfl⟩, by simp [playCf]; omega, by simp [playCf]; omega⟩
  have hc : j = 0 ∨ j = 1 ∨ j = 2 ∨ j = 3 ∨ j = 4 ∨ j = 5 ∨ j = 6 ∨ j = 7 := by omega
  rcases hc with rfl | rfl | rfl | rfl | rfl | rfl | rfl | rfl <;> simp [Cf.rowOk, playCf] <;> omega
def LyBelow (l : Ly) (w : World) (e : Ending) (w' : World) : Prop := e = .returned (lyV l) ∧ Below w.heap.size w w'
set_option maxRecDepth 100000 in
set_option maxHeartbeats 4000000 in
theorem where_any (t : Int) (W : Option Addr) (n c : Nat) (T : Option Addr) (m d : Nat) (w : World) (t0 : 0 ≤ t) (t1 : t < 256) (h1 : 1 ≤ n) (h2 : n ≤ 8) : Calls Try.prog 10 #[.agg (playC t W n c T m d)] w (LyBelow (playL n t) w) := by
  have m0 : 0 ≤ t % 8 := Int.emod_nonneg _ (by omega)
  have m1 : t % 8 < 8 := Int.emod_lt_of_pos _ (by omega)
  have hc : Cf.can ⟨n, 2 + t % 8, 1, 1, 1, 1, 0, 0, 0⟩ := playCf_can n t h1 h2
  have HC := Lib.hid hc
  clear hc
  go_enter Try.func10, Try.ntmps10
  go_wp2_with fail
  (with_reducible refine (rof_ok ⟨n, 2 + t % 8, 1, 1, 1, 1, 0, 0, 0⟩ _ HC.out).mono ?_)
  rintro e w1 ⟨rfl, hb1⟩
  have k0 := (Bk.new (w.alloc (.cells (playC t W n c T m d) 25)) (g := w.heap.size + 1) (by simp) 40 (lyC zeroLy)).keep hb1
  have hbl := below_tr (below_al (below_al (Below.refl w.heap.size w) (.cells (playC t W n c T m d) 25)) (.cells (lyC zeroLy) 40)) hb1
  have hg := k0.lt
  clear hb1
  have hwl : lyOf ⟨n, 2 + t % 8, 1, 1, 1, 1, 0, 0, 0⟩ = playL n t := rfl
  rw [hwl]
  clear hwl HC
  generalize playL n t = l at *
  have k1 := k0.alloc (.cells (lyC l) 40)
  have hne : ¬ w1.heap.size = w.heap.size + 1 := by omega
  go_wp2_with (first
    | (refine wpList_store_new rfl 40 (.tmp 3) (.tmp 16) rfl rfl w1.heap.size _ _ (lyC l) rfl rfl rfl rfl (by kernel_rfl) rfl (by simp [Value.oneCell']) ?_)
    | (refine wpList_load_row rfl 40 (.tmp 3) rfl w1.heap.size rfl 40 (lyC l) (0, 0) _ (Bk.made w1 _ _) Try.underlying40 rfl (by kernel_rfl) ?_)
    | (refine wpList_store_rowTo rfl 40 (.tmp 2) (.tmp 18) rfl rfl (w.heap.size + 1) (lyC l) rfl rfl 40 (lyC zeroLy) k1 (by kernel_rfl) rfl (by simp [Value.oneCell']) ?_))
  exact bodyPost_ret (v := lyV l) (results_cell_row (p := 2) (ty := 40) rfl _ _ (w.heap.size + 1) 40 (lyC l) (0, 0) _ rfl (setRow_heap _ _ _ _ _ _ k1) Try.underlying40 rfl (by kernel_rfl)) rfl ⟨rfl, below_setRow (below_al hbl _) (by omega) _⟩
def FewRel (want : List (List Nat)) (n : Nat) (v : Value) : Prop := ∃ k : Nat, k ≤ n ∧ v = .int .i64 k ∧ ∀ j xs, j < k → want[j]? = some xs → xs.length ≤ 5
def FewPost (want : List (List Nat)) (n m : Nat) (w : World) (e : Ending) (w' : World) : Prop := ∃ b, e = .returned (.bool b) ∧ Below w.heap.size w w' ∧ (b = true → 1 ≤ n ∧ n ≤ 3 ∧ m ≤ 200 ∧ ∀ xs ∈ want, xs.length ≤ 5)
set_option maxHeartbeats 2000000 in
theorem few_any (t : Int) (W : Option Addr) (n c : Nat) (T : Option Addr) (m d : Nat) (want : List (List Nat)) (w : World) (hn : want.length = n) (hW : SlU8s w w.heap.size W want) :
    Calls Try.prog 8 #[.agg (playC t W n c T m d)] w (FewPost want n m w) := by
  have HW := Lib.hid hW
  have HN := Lib.hid hn
  clear hW hn
  by_cases h1 : n < 1
  · obtain rfl : n = 0 := by omega
    go_enter Try.func8, Try.ntmps8
    go_wp2
    go_ret
    exact ⟨_, rfl, below_al (Below.refl _ _) _, fun h => by cases h⟩
  by_cases h2 : 3 < n
  · have g1 : decide ((n : Int) < 1) = false := by simp; omega
    have g2 : decide ((3 : Int) < n) = true := by simp; omega
    go_enter Try.func8, Try.ntmps8
    go_wp2
    go_ret
    exact ⟨_, rfl, below_al (Below.refl _ _) _, fun h => by cases h⟩
  have g1 : decide ((n : Int) < 1) = false := by simp; omega
  have g2 : decide ((3 : Int) < n) = false := by simp; omega
  by_cases h3 : 200 < m
  · have g3 : decide ((200 : Int) < m) = true := by simp; omega
    go_enter Try.func8, Try.ntmps8
    go_wp2
    go_ret
    exact ⟨_, rfl, below_al (Below.refl _ _) _, fun h => by cases h⟩
  have g3 : decide ((200 : Int) < m) = false := by simp; omega
  have k0 := Bk.made w 25 (playC t W n c T m d)
  have hbl := below_al (Below.refl w.heap.size w) (.cells (playC t W n c T m d) 25)
  go_enter Try.func8, Try.ntmps8
  go_wp2_with fail
  generalize w.alloc (.cells (playC t W n c T m d) 25) = w1 at *
  go_loop [3] (fun i => FewRel want n i) (fun i => n - (intOf i).toNat)
  case atStart => exact ⟨0, Nat.zero_le _, rfl, fun j xs hj => absurd hj (by omega)⟩
  case round =>
    obtain ⟨k, hk, rfl, hall⟩ := hrel
    have HALL := Lib.hid hall
    clear hall
    have q0 := k0.cell 1
    have z0 := k0.lt
    simp at q0
    by_cases hlt : k < n
    · obtain ⟨ops, hops⟩ : ∃ ops, want[k]? = some ops := ⟨_, List.getElem?_eq_getElem (by rw [HN.out]; exact hlt)⟩
      obtain ⟨bW, oW, rfl, hbW, hcW⟩ := (HW.out.below hbl) (by rw [HN.out]; omega)
      obtain ⟨AO, cO, cW, hsO⟩ := hcW k ops hops
      have i1 : (k : Int) < n := by omega
      have HOPS := Lib.hid hops
      clear hcW hops hsO
      by_cases h7 : 5 < ops.length
      · have g7 : decide ((5 : Int) < ops.length) = true := by simp; omega
        go_wp2
        go_ret
        exact ⟨_, rfl, hbl, fun h => by cases h⟩
      · have g7 : decide ((5 : Int) < ops.length) = false := by simp; omega
        go_wp2_with fail
        go_round
        case rel =>
          refine ⟨k + 1, by omega, by go_num, fun j xs hj hx => ?_⟩
          by_cases e : j = k
          · subst e
            rw [HOPS.out] at hx
            injection hx with hx
            subst hx
            omega
          · exact HALL.out j xs (by omega) hx
        case measure => simp [intOf]; omega
    · have i1 : decide ((k : Int) < n) = false := by simp; omega
      have i2 : decide (k < n) = false := by simp; omega
      go_wp2
      go_ret
      refine ⟨_, rfl, hbl, fun _ => ⟨by omega, by omega, by omega, fun xs hx => ?_⟩⟩
      obtain ⟨j, hj⟩ := List.getElem?_of_mem hx
      have hjl := (List.getElem?_eq_some_iff.1 hj).1
      rw [HN.out] at hjl
      exact HALL.out j xs (by omega) hj
end Go.Proofs.Ytgjdjgainjedhaa
