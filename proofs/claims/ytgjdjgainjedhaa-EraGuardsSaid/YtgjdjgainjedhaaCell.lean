/- ref15.Cell, In. -/
import Derived.Test.YtgjdjgainjedhaaInts
import Derived.Test.YtgjdjgainjedhaaLayP
namespace Go.Proofs.Ytgjdjgainjedhaa
open Go.RowKit
attribute [local go_sem ↓] Go.wp_at_zero Go.wp_at_succ

def cellN (zs : List Int) (k : Int) : Int := if k < 0 ∨ (zs.length : Int) ≤ k then 0 else zs.getD k.toNat 0
set_option maxHeartbeats 1000000 in
theorem cell_any (A : Option Addr) (c : Nat) (zs : List Int) (k : Int) (w : World) (h : SlInt w w.heap.size A zs) : Calls Try.prog 12 #[.agg #[.slice A zs.length c], .int .i64 k] w (IntBelow (cellN zs k) w) := by
  by_cases h0 : k < 0
  · have e : cellN zs k = 0 := by unfold cellN; rw [if_pos (.inl h0)]
    rw [e]
    have g0 : decide (k < 0) = true := by simpa using h0
    go_enter Try.func12, Try.ntmps12
    go_wp2
    go_ret
    exact ⟨rfl, below_al (Below.refl _ _) _⟩
  · have g0 : decide (k < 0) = false := by simpa using h0
    obtain ⟨n, rfl⟩ : ∃ n : Nat, k = n := ⟨k.toNat, by omega⟩
    by_cases h1 : zs.length ≤ n
    · have e : cellN zs n = 0 := by unfold cellN; rw [if_pos (.inr (by omega))]
      rw [e]
      have g1 : decide ((zs.length : Int) ≤ n) = true := by simp; omega
      go_enter Try.func12, Try.ntmps12
      go_wp2
      go_ret
      exact ⟨rfl, below_al (Below.refl _ _) _⟩
    · obtain ⟨x, hx⟩ : ∃ x, zs[n]? = some x := ⟨_, List.getElem?_eq_getElem (by omega)⟩
      have e : cellN zs n = x := by
        unfold cellN
        rw [if_neg (by omega)]
        simp [hx]
      rw [e]
      have g1 : decide ((zs.length : Int) ≤ n) = false := by simp; omega
      obtain ⟨b, o, hA, hbb, hc⟩ := h (by omega)
      have q := hc n x hx
      subst hA
      have i1 : (n : Int) < zs.length := by omega
      clear e hc h
      go_enter Try.func12, Try.ntmps12
      go_wp2
      go_ret
      exact ⟨rfl, below_al (Below.refl _ _) _⟩
def InRel (n : Nat) (zs : List Int) (x : Int) (v : Value) : Prop := ∃ k : Nat, k ≤ n ∧ v = .int .i64 k ∧ ∀ j : Nat, j < k → zs[j]? ≠ some x
set_option maxHeartbeats 1000000 in
theorem in_any (A : Option Addr) (c : Nat) (zs : List Int) (x : Int) (w : World) (h : SlInt w w.heap.size A zs) (hm : zs.length ≤ 1000000) : Calls Try.prog 45 #[.slice A zs.length c, .int .i64 x] w fun e w' => e = .returned (.bool (decide (x ∈ zs))) ∧ Below w.heap.size w w' := by
  obtain ⟨n, hn⟩ : ∃ n, zs.length = n := ⟨_, rfl⟩
  have HN := Lib.hid hn
  have HS := Lib.hid h
  rw [hn] at hm ⊢
  clear hn h
  go_enter Try.func45, Try.ntmps45
  go_wp2_with fail
  go_loop [5] (fun i => InRel n zs x i) (fun i => n - (intOf i).toNat)
  case atStart => exact ⟨0, Nat.zero_le _, rfl, fun j hj => absurd hj (by omega)⟩
  case round =>
    obtain ⟨k, hk, rfl, hall⟩ := hrel
    have HALL := Lib.hid hall
    clear hall
    by_cases hlt : k < n
    · have i1 : (k : Int) < n := by omega
      obtain ⟨y, hy⟩ : ∃ y, zs[k]? = some y := ⟨_, List.getElem?_eq_getElem (by rw [HN.out]; exact hlt)⟩
      obtain ⟨b, o, rfl, hbb, hc⟩ := HS.out (by rw [HN.out]; omega)
      have q := hc k y hy
      have HY := Lib.hid hy
      clear hc hy
      by_cases e : y = x
      · have g1 : (y == x) = true := by simp [e]
        have g2 : decide (y = x) = true := by simp [e]
        have HE := Lib.hid e
        clear e
        go_wp2
        go_ret
        refine ⟨?_, Below.refl _ _⟩
        have : x ∈ zs := by rw [← HE.out]; exact List.mem_of_getElem? HY.out
        simp [this]
      · have g1 : (y == x) = false := by simp [e]
        have g2 : decide (y = x) = false := by simp [e]
        have HE := Lib.hid e
        clear e
        go_wp2_with fail
        go_round
        case rel =>
          refine ⟨k + 1, by omega, by go_num, fun j hj => ?_⟩
          by_cases ej : j = k
          · subst ej
            rw [HY.out]
            intro q
            injection q with q
            exact HE.out q
          · exact HALL.out j (by omega)
        case measure => simp [intOf]; omega
    · have i1 : decide ((k : Int) < n) = false := by simp; omega
      have i2 : decide (k < n) = false := by simp; omega
      go_wp2
      go_ret
      refine ⟨?_, Below.refl _ _⟩
      have : ¬ x ∈ zs := by
        intro hx
        obtain ⟨j, hj⟩ := List.getElem?_of_mem hx
        have hjl := (List.getElem?_eq_some_iff.1 hj).1
        rw [HN.out] at hjl
        exact HALL.out j (by omega) hj
      simp [this]
end Go.Proofs.Ytgjdjgainjedhaa
