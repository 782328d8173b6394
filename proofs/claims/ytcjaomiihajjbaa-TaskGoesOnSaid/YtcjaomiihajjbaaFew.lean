/- law25.few. -/
import Derived.Test.YtcjaomiihajjbaaAwake
namespace Go.Proofs.Ytcjaomiihajjbaa
open Go.RowKit
attribute [local go_sem ↓] Go.wp_at_zero Go.wp_at_succ

def FewPost (n m : Nat) (w : World) (e : Ending) (w' : World) : Prop := ∃ b, e = .returned (.bool b) ∧ Below w.heap.size w w' ∧ (b = true → 1 ≤ n ∧ n ≤ 3 ∧ m ≤ 200)
set_option maxHeartbeats 2000000 in
theorem few_any (t : Int) (W : Option Addr) (n c : Nat) (T : Option Addr) (m d : Nat) (want : List (List Opr)) (w : World) (hn : want.length = n) (hW : SlWant w w.heap.size W want) :
    Calls Try.prog 15 #[.agg (playC t W n c T m d)] w (FewPost n m w) := by
  have HW := Lib.hid hW
  have HN := Lib.hid hn
  clear hW hn
  by_cases h1 : n < 1
  · obtain rfl : n = 0 := by omega
    go_enter Try.func15, Try.ntmps15
    go_wp2
    go_ret
    exact ⟨_, rfl, below_al (Below.refl _ _) _, fun h => by cases h⟩
  by_cases h2 : 3 < n
  · have g1 : decide ((n : Int) < 1) = false := by simp; omega
    have g2 : decide ((3 : Int) < n) = true := by simp; omega
    go_enter Try.func15, Try.ntmps15
    go_wp2
    go_ret
    exact ⟨_, rfl, below_al (Below.refl _ _) _, fun h => by cases h⟩
  have g1 : decide ((n : Int) < 1) = false := by simp; omega
  have g2 : decide ((3 : Int) < n) = false := by simp; omega
  by_cases h3 : 200 < m
  · have g3 : decide ((200 : Int) < m) = true := by simp; omega
    go_enter Try.func15, Try.ntmps15
    go_wp2
    go_ret
    exact ⟨_, rfl, below_al (Below.refl _ _) _, fun h => by cases h⟩
  have g3 : decide ((200 : Int) < m) = false := by simp; omega
  have k0 := Bk.made w 27 (playC t W n c T m d)
  have hbl := below_al (Below.refl w.heap.size w) (.cells (playC t W n c T m d) 27)
  go_enter Try.func15, Try.ntmps15
  go_wp2_with fail
  generalize w.alloc (.cells (playC t W n c T m d) 27) = w1 at *
  go_loop [3] (fun i => ∃ k : Nat, k ≤ n ∧ i = .int .i64 k) (fun i => n - (intOf i).toNat)
  case atStart => exact ⟨0, Nat.zero_le _, rfl⟩
  case round =>
    obtain ⟨k, hk, rfl⟩ := hrel
    have q0 := k0.cell 1
    have z0 := k0.lt
    simp at q0
    by_cases hlt : k < n
    · obtain ⟨ops, hops⟩ : ∃ ops, want[k]? = some ops := ⟨_, List.getElem?_eq_getElem (by rw [HN.out]; exact hlt)⟩
      obtain ⟨bW, oW, rfl, hbW, hcW⟩ := (HW.out.below hbl) (by rw [HN.out]; omega)
      obtain ⟨AO, cO, cW, hsO⟩ := hcW k ops hops
      have i1 : (k : Int) < n := by omega
      clear hcW hops hsO
      by_cases h7 : 7 < ops.length
      · have g7 : decide ((7 : Int) < ops.length) = true := by simp; omega
        go_wp2
        go_ret
        exact ⟨_, rfl, hbl, fun h => by cases h⟩
      · have g7 : decide ((7 : Int) < ops.length) = false := by simp; omega
        go_wp2_with fail
        go_round
        case rel => exact ⟨k + 1, by omega, by go_num⟩
        case measure => simp [intOf]; omega
    · have i1 : decide ((k : Int) < n) = false := by simp; omega
      have i2 : decide (k < n) = false := by simp; omega
      go_wp2
      go_ret
      exact ⟨_, rfl, hbl, fun _ => ⟨by omega, by omega, by omega⟩⟩
end Go.Proofs.Ytcjaomiihajjbaa
