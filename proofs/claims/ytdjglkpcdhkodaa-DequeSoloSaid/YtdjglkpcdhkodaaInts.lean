/- Ints of a reference: are two rows of numbers the same? -/
import Derived.Test.YtdjglkpcdhkodaaLib
import Derived.Test.YtdjglkpcdhkodaaProg
import Derived.WalkKit
import Derived.Deep.QuietTactic
import Derived.Deep.DrawnRows
import Derived.BigQuiet
import Derived.Outline
namespace Go.Proofs.Ytdjglkpcdhkodaa
open Go.RowKit
attribute [local go_sem ↓] Go.wp_at_zero Go.wp_at_succ

theorem below_dN {a w : World} (h : Below a.heap.size a w) (n : Nat) : Below a.heap.size a (w.drewN n) := ⟨h.os, h.tape, h.output, h.size, h.block⟩
/-- A slice of numbers. -/
def SlInt (w : World) (B : Nat) (A : Option Addr) (l : List Int) : Prop :=
  0 < l.length → ∃ b o, A = some ⟨b, o, none⟩ ∧ b < B ∧ ∀ (k : Nat) (r : Int), l[k]? = some r → w.cell? ⟨b, o + k, none⟩ = some (.int .i64 r)
theorem SlInt.below {w w' : World} {B : Nat} {A : Option Addr} {l : List Int} (h : SlInt w B A l) (hb : Below B w w') : SlInt w' B A l := by
  intro hl
  obtain ⟨b, o, e, hbb, hc⟩ := h hl
  exact ⟨b, o, e, hbb, fun k a ha => (hb.cell (p := ⟨b, _, none⟩) hbb).trans (hc k a ha)⟩
theorem SlInt.more {w : World} {B B' : Nat} {A : Option Addr} {l : List Int} (h : SlInt w B A l) (hB : B ≤ B') : SlInt w B' A l := by
  intro hl
  obtain ⟨b, o, e, hbb, hc⟩ := h hl
  exact ⟨b, o, e, Nat.lt_of_lt_of_le hbb hB, hc⟩
theorem SlInt.of_bk {w : World} {g : Nat} {t : TypeId} {zs : List Int} (h : Bk w g t (zs.map (Value.int .i64)).toArray) : SlInt w w.heap.size (some ⟨g, 0, none⟩) zs := by
  intro _
  refine ⟨g, 0, rfl, h.lt, fun k r hr => ?_⟩
  rw [Nat.zero_add, h.cell k]
  simp [hr]
def IntsRel (w : World) (xs ys : List Int) (i : Value) (wr : World) : Prop :=
  ∃ k : Nat, k ≤ xs.length ∧ i = .int .i64 k ∧ Below w.heap.size w wr ∧ xs.take k = ys.take k

set_option maxHeartbeats 2000000 in
theorem ints_any (A A' : Option Addr) (c c' : Nat) (xs ys : List Int) (w : World) (h : SlInt w w.heap.size A xs) (h' : SlInt w w.heap.size A' ys) (hm : xs.length ≤ 1000000) (hm' : ys.length ≤ 1000000) :
    Calls Try.prog 17 #[.slice A xs.length c, .slice A' ys.length c'] w (BoolBelow (decide (xs = ys)) w) := by
  by_cases hl : xs.length = ys.length
  · have hn : ((xs.length : Int) != ys.length) = false := by simp [hl]
    have HL := Lib.hid hl
    clear hl
    go_enter Try.func17, Try.ntmps17
    go_wp2
    go_loopw [5] (fun i wr => IntsRel w xs ys i wr) (fun i _ => xs.length - (intOf i).toNat)
    case atStart => exact ⟨0, Nat.zero_le _, rfl, Below.refl _ _, by simp⟩
    case round =>
      obtain ⟨k, hk, rfl, hbw, ht⟩ := hrel
      by_cases hlt : k < xs.length
      · have hlt' : k < ys.length := by rw [← HL.out]; exact hlt
        obtain ⟨b, o, hA, hbl, hcc⟩ := (h.below hbw) (by omega)
        obtain ⟨b', o', hA', hbl', hcc'⟩ := (h'.below hbw) (by omega)
        obtain ⟨x, hx⟩ : ∃ x, xs[k]? = some x := ⟨_, List.getElem?_eq_getElem hlt⟩
        obtain ⟨y, hy⟩ : ∃ y, ys[k]? = some y := ⟨_, List.getElem?_eq_getElem hlt'⟩
        have g1 := hcc k _ hx
        have g3 := hcc' k _ hy
        subst hA hA'
        have i1 : (k : Int) < xs.length := by omega
        have i2 : (k : Int) < ys.length := by omega
        have HB := Lib.hid hbw
        have HT := Lib.hid (And.intro ht (And.intro hx hy))
        have HS := Lib.hid (And.intro h h')
        clear hbw ht hx hy h h' hcc hcc'
        by_cases hxy : x = y
        · have hq : (x != y) = false := by simp [hxy]
          have HQ := Lib.hid hxy
          clear hxy
          go_wp2_with fail
          go_quiet (fail)
          go_wp2
          go_roundw
          case rel =>
            obtain ⟨h1, h2, h3⟩ := HT.out
            refine ⟨k + 1, by omega, by go_num, below_dN (HB.out) _, ?_⟩
            rw [List.take_add_one, List.take_add_one, h1, h2, h3, HQ.out]
          case measure => simp [intOf]; omega
        · have hq : (x != y) = true := by simp [hxy]
          have hf : decide (xs = ys) = false := by
            obtain ⟨_, h2, h3⟩ := HT.out
            simp
            rintro rfl
            rw [h2] at h3
            injection h3 with h3
            exact hxy h3
          have HF := Lib.hid hf
          clear hf hxy
          go_wp2_with fail
          go_quiet (fail)
          go_wp2
          go_ret
          rw [HF.out]
          exact ⟨rfl, below_dN (HB.out) _⟩
      · obtain rfl : k = xs.length := by omega
        have hf : decide (xs = ys) = true := by
          have e := HL.out
          rw [List.take_length, e, List.take_length] at ht
          simp [ht]
        have HF := Lib.hid hf
        have HT := Lib.hid ht
        clear hf ht
        go_wp2
        go_ret
        rw [HF.out]
        exact ⟨rfl, hbw⟩
  · have hn : ((xs.length : Int) != ys.length) = true := by simp; omega
    have hf : decide (xs = ys) = false := by
      simp
      rintro rfl
      exact hl rfl
    have HF := Lib.hid hf
    clear hf hl
    go_enter Try.func17, Try.ntmps17
    go_wp2
    go_ret
    rw [HF.out]
    exact ⟨rfl, Below.refl _ _⟩
end Go.Proofs.Ytdjglkpcdhkodaa
