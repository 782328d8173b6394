/- Contracts of the reference's functions for layer 2, and of mem.Same. -/
import Derived.Test.YtdajnmmjmfhihaaMemD
import Derived.BigQuiet
import Derived.Deep.QuietTactic
namespace Go.Proofs.Ytdajnmmjmfhihaa
open Go.RowKit
attribute [local go_sem ↓] Go.wp_at_zero Go.wp_at_succ

set_option maxHeartbeats 1000000 in
theorem rright_any (a : Acc) (w : World) : Calls Try.prog 14 #[accV a] w (BoolBelow a.right w) := by
  obtain ⟨k, cl, old, new⟩ := a
  have hb := below_al (Below.refl w.heap.size w)
  by_cases hc : k < 1 ∨ 5 < k ∨ cl < 0
  · have hf : ({ kind := k, cell := cl, old := old, new := new } : Acc).right = false := by simp [Acc.right]; omega
    rw [hf]
    have HF := Lib.hid hf
    clear hf
    rcases hc with hc | hc | hc
    · go_enter Try.func14, Try.ntmps14
      go_wp2
      go_ret
      exact ⟨rfl, hb _⟩
    · by_cases h1 : k < 1
      · omega
      · go_enter Try.func14, Try.ntmps14
        go_wp2
        go_ret
        exact ⟨rfl, hb _⟩
    · go_enter Try.func14, Try.ntmps14
      go_wp2
      all_goals
        go_ret
        exact ⟨rfl, hb _⟩
  · have h1 : ¬ k < 1 := by omega
    have h2 : ¬ 5 < k := by omega
    have h3 : ¬ cl < 0 := by omega
    go_enter Try.func14, Try.ntmps14
    go_wp2
    all_goals
      go_ret
      refine ⟨ret_bool ?_, hb _⟩
      simp_all [Acc.right]
      try omega

/-- The list that a slice of ints reads as, over a growing world. -/
theorem Sl.keepb {w w' : World} {A : Option Addr} {n : Nat} {xs : List Value} (h : Sl w w.heap.size A n xs) (hb : Below w.heap.size w w') : Sl w' w'.heap.size A n xs := (h.below hb).more hb.size

theorem below_drewN {a w : World} (h : Below a.heap.size a w) (n : Nat) : Below a.heap.size a (w.drewN n) := ⟨h.os, h.tape, h.output, h.size, h.block⟩
def SameRel (w : World) (A A' : Option Addr) (c c' : Nat) (xs ys : List Int) (i : Value) (wr : World) : Prop :=
  ∃ k : Nat, k ≤ xs.length ∧ i = .int .i64 k ∧ Below w.heap.size w wr ∧ Bk wr w.heap.size 24 #[.slice A xs.length c] ∧ Bk wr (w.heap.size + 1) 24 #[.slice A' ys.length c'] ∧ xs.take k = ys.take k

set_option maxHeartbeats 2000000 in
theorem rsame_any (A A' : Option Addr) (c c' : Nat) (xs ys : List Int) (w : World) (h : Sl w w.heap.size A xs.length (ints xs)) (h' : Sl w w.heap.size A' ys.length (ints ys)) (hm : xs.length ≤ 1000000) (hm' : ys.length ≤ 1000000) :
    Calls Try.prog 16 #[memV A xs.length c, memV A' ys.length c'] w (BoolBelow (decide (xs = ys)) w) := by
  by_cases hl : xs.length = ys.length
  · have hn : ((xs.length : Int) != ys.length) = false := by simp [hl]
    have HL := Lib.hid hl
    clear hl
    go_enter Try.func16, Try.ntmps16
    go_wp2
    go_loopw [5] (fun i wr => SameRel w A A' c c' xs ys i wr) (fun i _ => xs.length - (intOf i).toNat)
    case atStart => exact ⟨0, Nat.zero_le _, rfl, below_al (below_al (Below.refl _ _) _) _, (Bk.made _ _ _).alloc _, Bk.new _ (by simp) _ _, by simp⟩
    case round =>
      obtain ⟨k, hk, rfl, hbw, k0, k1, ht⟩ := hrel
      have c0 := k0.cell 0
      have c1 := k1.cell 0
      simp at c0 c1
      by_cases hlt : k < xs.length
      · have hlt' : k < ys.length := by rw [← HL.out]; exact hlt
        obtain ⟨b, o, u, hA, hbl, hu, hcl⟩ := (h.below hbw).at_ hlt
        obtain ⟨b', o', u', hA', hbl', hu', hcl'⟩ := (h'.below hbw).at_ hlt'
        obtain ⟨x, hx, rfl⟩ := ints_get hu
        obtain ⟨y, hy, rfl⟩ := ints_get hu'
        subst hA hA'
        have i1 : (k : Int) < xs.length := by omega
        have i2 : (k : Int) < ys.length := by omega
        have HK := Lib.hid (And.intro k0 k1)
        have HB := Lib.hid hbw
        have HT := Lib.hid (And.intro ht (And.intro hx hy))
        have HS := Lib.hid (And.intro h h')
        clear k0 k1 hbw ht hx hy h h' hu hu'
        by_cases hxy : x = y
        · have hq : (x != y) = false := by simp [hxy]
          have HQ := Lib.hid hxy
          clear hxy
          go_wp2_with fail
          go_quiet (fail)
          go_wp2
          go_roundw
          case rel =>
            obtain ⟨h1, h2, h3⟩ := HT.out
            refine ⟨k + 1, by omega, by go_num, below_drewN (HB.out) _, HK.out.1, HK.out.2, ?_⟩
            rw [List.take_add_one, List.take_add_one, h1, h2, h3, HQ.out]
          case measure => simp [intOf]; omega
        · have hq : (x != y) = true := by simpa using hxy
          have hf : decide (xs = ys) = false := by
            obtain ⟨_, h2, h3⟩ := HT.out
            simp
            rintro rfl
            rw [h2] at h3
            injection h3 with h3
            exact hxy h3
          have HF := Lib.hid hf
          clear hf hxy
          go_wp2_with fail
          go_quiet (fail)
          go_wp2
          go_ret
          rw [HF.out]
          exact ⟨rfl, below_drewN (HB.out) _⟩
      · obtain rfl : k = xs.length := by omega
        have hf : decide (xs = ys) = true := by
          have e := HL.out
          rw [List.take_length, e, List.take_length] at ht
          simp [ht]
        have HF := Lib.hid hf
        have HT := Lib.hid ht
        clear hf ht
        go_wp2
        go_ret
        rw [HF.out]
        exact ⟨rfl, hbw⟩
  · have hn : ((xs.length : Int) != ys.length) = true := by simp; omega
    have hf : decide (xs = ys) = false := by simp; intro e; exact hl (by rw [e])
    rw [hf]
    have HF := Lib.hid hf
    clear hf
    go_enter Try.func16, Try.ntmps16
    go_wp2
    go_ret
    exact ⟨rfl, below_al (below_al (Below.refl _ _) _) _⟩
def EqRel (w : World) (xs ys : List Int) (i : Value) (wr : World) : Prop :=
  ∃ k : Nat, k ≤ xs.length ∧ i = .int .i64 k ∧ Below w.heap.size w wr ∧ xs.take k = ys.take k

set_option maxHeartbeats 2000000 in
theorem equal_any (A A' : Option Addr) (c c' : Nat) (xs ys : List Int) (w : World) (h : Sl w w.heap.size A xs.length (ints xs)) (h' : Sl w w.heap.size A' ys.length (ints ys)) (hm : xs.length ≤ 1000000) (hm' : ys.length ≤ 1000000) :
    Calls Try.prog 24 #[.slice A xs.length c, .slice A' ys.length c'] w (BoolBelow (decide (xs = ys)) w) := by
  by_cases hl : xs.length = ys.length
  · have hn : ((xs.length : Int) != ys.length) = false := by simp [hl]
    have HL := Lib.hid hl
    clear hl
    go_enter Try.func24, Try.ntmps24
    go_wp2
    go_loopw [13] (fun i wr => EqRel w xs ys i wr) (fun i _ => xs.length - (intOf i).toNat)
    case atStart => exact ⟨0, Nat.zero_le _, rfl, Below.refl _ _, by simp⟩
    case round =>
      obtain ⟨k, hk, rfl, hbw, ht⟩ := hrel
      by_cases hlt : k < xs.length
      · have hlt' : k < ys.length := by rw [← HL.out]; exact hlt
        obtain ⟨b, o, u, hA, hbl, hu, hcl⟩ := (h.below hbw).at_ hlt
        obtain ⟨b', o', u', hA', hbl', hu', hcl'⟩ := (h'.below hbw).at_ hlt'
        obtain ⟨x, hx, rfl⟩ := ints_get hu
        obtain ⟨y, hy, rfl⟩ := ints_get hu'
        subst hA hA'
        have i1 : (k : Int) < xs.length := by omega
        have i2 : (k : Int) < ys.length := by omega
        have HB := Lib.hid hbw
        have HT := Lib.hid (And.intro ht (And.intro hx hy))
        have HS := Lib.hid (And.intro h h')
        clear hbw ht hx hy h h' hu hu'
        by_cases hxy : x = y
        · have hq : (x != y) = false := by simp [hxy]
          have HQ := Lib.hid hxy
          clear hxy
          go_wp2_with fail
          go_quiet (fail)
          go_wp2
          go_roundw
          case rel =>
            obtain ⟨h1, h2, h3⟩ := HT.out
            refine ⟨k + 1, by omega, by go_num, below_drewN (HB.out) _, ?_⟩
            rw [List.take_add_one, List.take_add_one, h1, h2, h3, HQ.out]
          case measure => simp [intOf]; omega
        · have hq : (x != y) = true := by simpa using hxy
          have hf : decide (xs = ys) = false := by
            obtain ⟨_, h2, h3⟩ := HT.out
            simp
            rintro rfl
            rw [h2] at h3
            injection h3 with h3
            exact hxy h3
          have HF := Lib.hid hf
          clear hf hxy
          go_wp2_with fail
          go_quiet (fail)
          go_wp2
          go_ret
          rw [HF.out]
          exact ⟨rfl, below_drewN (HB.out) _⟩
      · obtain rfl : k = xs.length := by omega
        have hf : decide (xs = ys) = true := by
          have e := HL.out
          rw [List.take_length, e, List.take_length] at ht
          simp [ht]
        have HF := Lib.hid hf
        have HT := Lib.hid ht
        clear hf ht
        go_wp2
        go_ret
        rw [HF.out]
        exact ⟨rfl, hbw⟩
  · have hn : ((xs.length : Int) != ys.length) = true := by simp; omega
    have hf : decide (xs = ys) = false := by simp; intro e; exact hl (by rw [e])
    rw [hf]
    have HF := Lib.hid hf
    clear hf
    go_enter Try.func24, Try.ntmps24
    go_wp2
    go_ret
    exact ⟨rfl, Below.refl _ _⟩

theorem same_any (A A' : Option Addr) (c c' : Nat) (xs ys : List Int) (w : World) (h : Sl w w.heap.size A xs.length (ints xs)) (h' : Sl w w.heap.size A' ys.length (ints ys)) (hm : xs.length ≤ 1000000) (hm' : ys.length ≤ 1000000) :
    Calls Try.prog 15 #[memV A xs.length c, memV A' ys.length c'] w (BoolBelow (decide (xs = ys)) w) := by
  go_enter Try.func15, Try.ntmps15
  go_wp2_with fail
  have hb := below_al (below_al (Below.refl w.heap.size w) (.cells #[.slice A xs.length c] 24)) (.cells #[.slice A' ys.length c'] 24)
  refine (equal_any A A' c c' xs ys _ (h.keepb hb) (h'.keepb hb) hm hm').mono ?_
  rintro e w1 ⟨rfl, hb1⟩
  go_wp2
  go_ret
  exact ⟨rfl, below_tr hb hb1⟩
end Go.Proofs.Ytdajnmmjmfhihaa
