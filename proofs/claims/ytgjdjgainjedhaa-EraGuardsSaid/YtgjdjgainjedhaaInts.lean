/- Rows of numbers that are read. -/
import Derived.Test.YtgjdjgainjedhaaLib
import Derived.Test.YtgjdjgainjedhaaProg
import Derived.WalkKit
import Derived.Deep.QuietTactic
import Derived.Deep.DrawnRows
import Derived.BigQuiet
import Derived.Outline
namespace Go.Proofs.Ytgjdjgainjedhaa
open Go.RowKit
attribute [local go_sem ↓] Go.wp_at_zero Go.wp_at_succ

theorem below_dN {a w : World} (h : Below a.heap.size a w) (n : Nat) : Below a.heap.size a (w.drewN n) := ⟨h.os, h.tape, h.output, h.size, h.block⟩
/-- A slice of numbers. -/
def SlInt (w : World) (B : Nat) (A : Option Addr) (l : List Int) : Prop :=
  0 < l.length → ∃ b o, A = some ⟨b, o, none⟩ ∧ b < B ∧ ∀ (k : Nat) (r : Int), l[k]? = some r → w.cell? ⟨b, o + k, none⟩ = some (.int .i64 r)
theorem SlInt.below {w w' : World} {B : Nat} {A : Option Addr} {l : List Int} (h : SlInt w B A l) (hb : Below B w w') : SlInt w' B A l := by
  intro hl
  obtain ⟨b, o, e, hbb, hc⟩ := h hl
  exact ⟨b, o, e, hbb, fun k a ha => (hb.cell (p := ⟨b, _, none⟩) hbb).trans (hc k a ha)⟩
theorem SlInt.more {w : World} {B B' : Nat} {A : Option Addr} {l : List Int} (h : SlInt w B A l) (hB : B ≤ B') : SlInt w B' A l := by
  intro hl
  obtain ⟨b, o, e, hbb, hc⟩ := h hl
  exact ⟨b, o, e, Nat.lt_of_lt_of_le hbb hB, hc⟩
theorem SlInt.of_bk {w : World} {g : Nat} {t : TypeId} {zs : List Int} (h : Bk w g t (zs.map (Value.int .i64)).toArray) : SlInt w w.heap.size (some ⟨g, 0, none⟩) zs := by
  intro _
  refine ⟨g, 0, rfl, h.lt, fun k r hr => ?_⟩
  rw [Nat.zero_add, h.cell k]
  simp [hr]
end Go.Proofs.Ytgjdjgainjedhaa
