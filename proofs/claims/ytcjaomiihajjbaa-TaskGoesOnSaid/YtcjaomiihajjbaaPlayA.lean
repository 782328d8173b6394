/- ref15.Cell; law25.where, few. -/
import Derived.Test.YtcjaomiihajjbaaInts
import Derived.Test.YtcjaomiihajjbaaTaskI
namespace Go.Proofs.Ytcjaomiihajjbaa
open Go.RowKit
attribute [local go_sem ↓] Go.wp_at_zero Go.wp_at_succ

def cellN (zs : List Int) (k : Int) : Int := if k < 0 ∨ (zs.length : Int) ≤ k then 0 else zs.getD k.toNat 0
set_option maxHeartbeats 1000000 in
theorem cell_any (A : Option Addr) (c : Nat) (zs : List Int) (k : Int) (w : World) (h : SlInt w w.heap.size A zs) : Calls Try.prog 10 #[.agg #[.slice A zs.length c], .int .i64 k] w (IntBelow (cellN zs k) w) := by
  by_cases h0 : k < 0
  · have e : cellN zs k = 0 := by unfold cellN; rw [if_pos (.inl h0)]
    rw [e]
    have g0 : decide (k < 0) = true := by simpa using h0
    go_enter Try.func10, Try.ntmps10
    go_wp2
    go_ret
    exact ⟨rfl, below_al (Below.refl _ _) _⟩
  · have g0 : decide (k < 0) = false := by simpa using h0
    obtain ⟨n, rfl⟩ : ∃ n : Nat, k = n := ⟨k.toNat, by omega⟩
    by_cases h1 : zs.length ≤ n
    · have e : cellN zs n = 0 := by unfold cellN; rw [if_pos (.inr (by omega))]
      rw [e]
      have g1 : decide ((zs.length : Int) ≤ n) = true := by simp; omega
      go_enter Try.func10, Try.ntmps10
      go_wp2
      go_ret
      exact ⟨rfl, below_al (Below.refl _ _) _⟩
    · obtain ⟨x, hx⟩ : ∃ x, zs[n]? = some x := ⟨_, List.getElem?_eq_getElem (by omega)⟩
      have e : cellN zs n = x := by
        unfold cellN
        rw [if_neg (by omega)]
        simp [hx]
      rw [e]
      have g1 : decide ((zs.length : Int) ≤ n) = false := by simp; omega
      obtain ⟨b, o, hA, hbb, hc⟩ := h (by omega)
      have q := hc n x hx
      subst hA
      have i1 : (n : Int) < zs.length := by omega
      clear e hc h
      go_enter Try.func10, Try.ntmps10
      go_wp2
      go_ret
      exact ⟨rfl, below_al (Below.refl _ _) _⟩
end Go.Proofs.Ytcjaomiihajjbaa
