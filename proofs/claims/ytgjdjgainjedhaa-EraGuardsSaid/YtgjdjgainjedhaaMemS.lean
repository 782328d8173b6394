/- Words of mem/XMemS that speak of no reference: for seats without it. -/
import Derived.Test.YtgjdjgainjedhaaMemD
import Derived.BigQuiet
import Derived.Deep.QuietTactic
namespace Go.Proofs.Ytgjdjgainjedhaa
open Go.RowKit
attribute [local go_sem ↓] Go.wp_at_zero Go.wp_at_succ

theorem sl_of_own {w : World} {base g n cap : Nat} {zs : List Int} (h : OwnInts w base (.slice (some ⟨g, 0, none⟩) n cap) zs) (hn : zs.length = n) : Sl w w.heap.size (some ⟨g, 0, none⟩) n (ints zs) := by
  subst hn
  refine ⟨by simp [ints], fun hp => ⟨g, 0, rfl, ?_, fun j u hu => ?_⟩⟩
  · obtain ⟨g', cap', he, _, hg⟩ := World.ownsRow.form h hp
    injection he with he
    injection he with he
    injection he with he
    omega
  · have hj : j < zs.length := by
      have := (List.getElem?_eq_some_iff.1 hu).1
      rwa [ints_length] at this
    rw [Nat.zero_add, World.ownsRow.cellAt h j (by omega)]
    exact hu

theorem own_slice {w : World} {base n : Nat} {e : TypeId} {sz : Nat} {v : Value} {xs : List Value} (h : w.ownsRow base e sz v n xs) : ∃ G cap, v = .slice G n cap := by
  rcases h.2 with ⟨rfl, rfl⟩ | ⟨g, cap, cur, rfl, _⟩
  · exact ⟨none, 0, rfl⟩
  · exact ⟨_, cap, rfl⟩
theorem own_keepSet {w : World} {base n : Nat} {e : TypeId} {sz : Nat} {v : Value} {xs : List Value} (h : w.ownsRow base e sz v n xs) {p : Addr} (hp : p.block < base) (u : Value) : (w.setCell p u).ownsRow base e sz v n xs :=
  ownsRow_setCell_below h hp u
theorem own_lower {w : World} {B B' n : Nat} {e : TypeId} {sz : Nat} {v : Value} {xs : List Value} (h : w.ownsRow B e sz v n xs) (hB : B' ≤ B) : w.ownsRow B' e sz v n xs := by
  rcases h.2 with h0 | ⟨g, cap, cur, h1, h2, h3⟩
  · exact ⟨h.1, .inl h0⟩
  · exact ⟨h.1, .inr ⟨g, cap, cur, h1, Nat.le_trans hB h2, h3⟩⟩
theorem own_keepb {w w' : World} {base n : Nat} {e : TypeId} {sz : Nat} {v : Value} {xs : List Value} (h : w.ownsRow base e sz v n xs) (hb : Below w.heap.size w w') : w'.ownsRow base e sz v n xs :=
  World.ownsRow.kept (row := none) h ⟨hb.os, hb.tape, hb.output, hb.size, fun k hk _ => hb.block k hk⟩ (by cases h' : v.ownBlock <;> simp)

theorem own_sl {w : World} {base n cap : Nat} {G : Option Addr} {zs : List Int} (h : OwnInts w base (.slice G n cap) zs) (hn : zs.length = n) : Sl w w.heap.size G n (ints zs) := by
  subst hn
  rcases h.2 with ⟨h1, h2⟩ | ⟨g, cap', cur, h1, _⟩
  · have : zs = [] := List.eq_nil_of_length_eq_zero h2
    subst this
    exact Sl.nil _ _ _
  · injection h1 with h1 _ h3
    subst h1 h3
    exact sl_of_own h rfl
/-- A memory's cells: in a row that lies below block B, or in one of the call's own, from B on. -/
def MemAt (w : World) (B : Nat) (X : Option Addr) (n c : Nat) (zs : List Int) : Prop := zs.length = n ∧ (Sl w B X n (ints zs) ∨ OwnInts w B (.slice X n c) zs)
section
variable {w w' : World} {B n c : Nat} {X : Option Addr} {zs : List Int}
theorem MemAt.sl (h : MemAt w B X n c zs) (hB : B ≤ w.heap.size) : Sl w w.heap.size X n (ints zs) := by
  rcases h.2 with h' | h'
  · exact h'.more hB
  · exact own_sl h' h.1
theorem MemAt.keep (h : MemAt w B X n c zs) (hB : B ≤ w.heap.size) (hb : Below w.heap.size w w') : MemAt w' B X n c zs := by
  refine ⟨h.1, ?_⟩
  rcases h.2 with h' | h'
  · exact .inl (h'.below (hb.mono hB))
  · exact .inr (own_keepb h' hb)
theorem MemAt.of_own {B' : Nat} (h : OwnInts w B' (.slice X n c) zs) (hn : zs.length = n) (hB : B ≤ B') : MemAt w B X n c zs := ⟨hn, .inr (own_lower h hB)⟩
theorem MemAt.of_sl (h : Sl w B X zs.length (ints zs)) : MemAt w B X zs.length c zs := ⟨rfl, .inl h⟩
end

theorem OwnInts.keepSet {w : World} {base : Nat} {v : Value} {zs : List Int} (h : OwnInts w base v zs) {p : Addr} (hp : p.block < base) (u : Value) : OwnInts (w.setCell p u) base v zs := ownsRow_setCell_below h hp u
theorem Sl.keepb {w w' : World} {A : Option Addr} {n : Nat} {xs : List Value} (h : Sl w w.heap.size A n xs) (hb : Below w.heap.size w w') : Sl w' w'.heap.size A n xs := (h.below hb).more hb.size

end Go.Proofs.Ytgjdjgainjedhaa
