/- law15.few. -/
import Derived.Test.YtbcgjolcfagboaaWhere
import Derived.Test.YtbcgjolcfagboaaTab
namespace Go.Proofs.Ytbcgjolcfagboaa
open Go.RowKit
attribute [local go_sem ↓] Go.wp_at_zero Go.wp_at_succ

def FewRel (want : List (List Nat)) (n : Nat) (v : Value) : Prop := ∃ k : Nat, k ≤ n ∧ v = .int .i64 k ∧ ∀ j xs, j < k → want[j]? = some xs → xs.length ≤ 6
def FewPost (want : List (List Nat)) (n m : Nat) (w : World) (e : Ending) (w' : World) : Prop := ∃ b, e = .returned (.bool b) ∧ Below w.heap.size w w' ∧ (b = true → 1 ≤ n ∧ n ≤ 3 ∧ m ≤ 200 ∧ ∀ xs ∈ want, xs.length ≤ 6)
set_option maxHeartbeats 2000000 in
theorem few_any (t : Int) (W : Option Addr) (n c : Nat) (T : Option Addr) (m d : Nat) (want : List (List Nat)) (w : World) (hn : want.length = n) (hW : SlU8s w w.heap.size W want) :
    Calls Try.prog 8 #[.agg (playC t W n c T m d)] w (FewPost want n m w) := by
  have HW := Lib.hid hW
  have HN := Lib.hid hn
  clear hW hn
  by_cases h1 : n < 1
  · obtain rfl : n = 0 := by omega
    go_enter Try.func8, Try.ntmps8
    go_wp2
    go_ret
    exact ⟨_, rfl, below_al (Below.refl _ _) _, fun h => by cases h⟩
  by_cases h2 : 3 < n
  · have g1 : decide ((n : Int) < 1) = false := by simp; omega
    have g2 : decide ((3 : Int) < n) = true := by simp; omega
    go_enter Try.func8, Try.ntmps8
    go_wp2
    go_ret
    exact ⟨_, rfl, below_al (Below.refl _ _) _, fun h => by cases h⟩
  have g1 : decide ((n : Int) < 1) = false := by simp; omega
  have g2 : decide ((3 : Int) < n) = false := by simp; omega
  by_cases h3 : 200 < m
  · have g3 : decide ((200 : Int) < m) = true := by simp; omega
    go_enter Try.func8, Try.ntmps8
    go_wp2
    go_ret
    exact ⟨_, rfl, below_al (Below.refl _ _) _, fun h => by cases h⟩
  have g3 : decide ((200 : Int) < m) = false := by simp; omega
  have k0 := Bk.made w 25 (playC t W n c T m d)
  have hbl := below_al (Below.refl w.heap.size w) (.cells (playC t W n c T m d) 25)
  go_enter Try.func8, Try.ntmps8
  go_wp2_with fail
  generalize w.alloc (.cells (playC t W n c T m d) 25) = w1 at *
  go_loop [3] (fun i => FewRel want n i) (fun i => n - (intOf i).toNat)
  case atStart => exact ⟨0, Nat.zero_le _, rfl, fun j xs hj => absurd hj (by omega)⟩
  case round =>
    obtain ⟨k, hk, rfl, hall⟩ := hrel
    have HALL := Lib.hid hall
    clear hall
    have q0 := k0.cell 1
    have z0 := k0.lt
    simp at q0
    by_cases hlt : k < n
    · obtain ⟨ops, hops⟩ : ∃ ops, want[k]? = some ops := ⟨_, List.getElem?_eq_getElem (by rw [HN.out]; exact hlt)⟩
      obtain ⟨bW, oW, rfl, hbW, hcW⟩ := (HW.out.below hbl) (by rw [HN.out]; omega)
      obtain ⟨AO, cO, cW, hsO⟩ := hcW k ops hops
      have i1 : (k : Int) < n := by omega
      have HOPS := Lib.hid hops
      clear hcW hops hsO
      by_cases h7 : 6 < ops.length
      · have g7 : decide ((6 : Int) < ops.length) = true := by simp; omega
        go_wp2
        go_ret
        exact ⟨_, rfl, hbl, fun h => by cases h⟩
      · have g7 : decide ((6 : Int) < ops.length) = false := by simp; omega
        go_wp2_with fail
        go_round
        case rel =>
          refine ⟨k + 1, by omega, by go_num, fun j xs hj hx => ?_⟩
          by_cases e : j = k
          · subst e
            rw [HOPS.out] at hx
            injection hx with hx
            subst hx
            omega
          · exact HALL.out j xs (by omega) hx
        case measure => simp [intOf]; omega
    · have i1 : decide ((k : Int) < n) = false := by simp; omega
      have i2 : decide (k < n) = false := by simp; omega
      go_wp2
      go_ret
      refine ⟨_, rfl, hbl, fun _ => ⟨by omega, by omega, by omega, fun xs hx => ?_⟩⟩
      obtain ⟨j, hj⟩ := List.getElem?_of_mem hx
      have hjl := (List.getElem?_eq_some_iff.1 hj).1
      rw [HN.out] at hjl
      exact HALL.out j xs (by omega) hj
end Go.Proofs.Ytbcgjolcfagboaa
