/- The walk of MemApart, and its plain law. -/
import Derived.Test.YtdajnmmjmfhihaaLaw02A
import Derived.Test.YtdajnmmjmfhihaaLaw02B
namespace Go.Proofs.Ytdajnmmjmfhihaa
open Go.RowKit
attribute [local go_sem ↓] Go.wp_at_zero Go.wp_at_succ

theorem allErr2 (zs : List Int) (a b : Acc) : allErr zs [a, b] = if a.err zs.length = 0 then b.err zs.length else a.err zs.length := by
  simp only [allErr, Acc.make_length]
  split
  · split
    · rename_i h; exact h.symm
    · rfl
  · rfl

theorem wrap_add3 (h x y : Int) : wrap64 (wrap64 (h + x) + y) = wrap64 (wrap64 (h + y) + x) := by
  unfold wrap64
  omega
theorem Acc.had_other (a b : Acc) (zs : List Int) (h : a.cell.toNat ≠ b.cell.toNat) : a.had (b.make zs) = a.had zs := by
  simp only [Acc.had, Acc.make, List.getD_eq_getElem?_getD, List.getElem?_set_ne (Ne.symm h)]
theorem Acc.make_load (a : Acc) (zs : List Int) (h : a.kind = 1) : a.make zs = zs := by
  simp only [Acc.make, Acc.next, h, if_true, Acc.had]
  by_cases hi : a.cell.toNat < zs.length
  · rw [List.getD_eq_getElem?_getD, List.getElem?_eq_getElem hi]
    simp
  · rw [List.set_eq_of_length_le (by omega)]

theorem apart_cells (a b : Acc) (zs : List Int) (ha : a.cell.toNat < zs.length) (h0 : 0 ≤ a.cell) (h1 : 0 ≤ b.cell)
    (h : a.cell ≠ b.cell ∨ (a.kind = b.kind ∧ (a.kind = 1 ∨ a.kind = 4))) : allCells zs [a, b] = allCells zs [b, a] := by
  show b.make (a.make zs) = a.make (b.make zs)
  by_cases hc : a.cell = b.cell
  · rcases h with h | ⟨hk, h | h⟩
    · exact absurd hc h
    · rw [Acc.make_load a _ h, Acc.make_load b _ (hk ▸ h), Acc.make_load a _ h]
    · have hb : b.kind = 4 := hk ▸ h
      simp only [Acc.make, Acc.next, h, hb, Acc.had, ← hc]
      simp only [List.set_set, show ¬ ((4 : Int) = 1) by omega, show ¬ ((4 : Int) = 3) by omega, if_false, if_true, List.getD_eq_getElem?_getD, List.getElem?_set_self ha, Option.getD_some]
      rw [wrap_add3]
  · have hn : a.cell.toNat ≠ b.cell.toNat := by omega
    have e1 := Acc.had_other a b zs hn
    have e2 := Acc.had_other b a zs (Ne.symm hn)
    unfold Acc.make at *
    rw [e1, e2, List.set_comm _ _ hn]
theorem apart_told (a b : Acc) (zs : List Int) (h0 : 0 ≤ a.cell) (h1 : 0 ≤ b.cell) (h : a.cell ≠ b.cell ∨ (a.kind = b.kind ∧ a.kind = 1)) : a.had (b.make zs) = a.had zs ∧ b.had (a.make zs) = b.had zs := by
  by_cases hc : a.cell = b.cell
  · rcases h with h | ⟨hk, h⟩
    · exact absurd hc h
    · rw [Acc.make_load a _ h, Acc.make_load b _ (hk ▸ h)]; exact ⟨rfl, rfl⟩
  · have hn : a.cell.toNat ≠ b.cell.toNat := by omega
    exact ⟨Acc.had_other a b zs hn, Acc.had_other b a zs (Ne.symm hn)⟩

abbrev accs2 (a b : Acc) : Array Value := #[.int .i64 a.kind, .int .i64 a.cell, .int .i64 a.old, .int .i64 a.new, .int .i64 b.kind, .int .i64 b.cell, .int .i64 b.old, .int .i64 b.new]
theorem slacc2 {w : World} {g : Nat} {a b : Acc} (k : Bk w g 26 (accs2 a b)) : SlAcc w w.heap.size (some ⟨g, 0, none⟩) [a, b] := fun _ => ⟨g, 0, rfl, k.lt, fun j x hx => by
  simp only [Nat.zero_add]
  rw [k.cell, k.cell, k.cell, k.cell]
  match j, hx with
  | 0, hx => simp at hx; subst hx; simp
  | 1, hx => simp at hx; subst hx; simp
  | j + 2, hx => simp at hx⟩

def All2Ok (B n : Nat) (xs : List Int) (r0 r1 : Int × Bool) (w : World) (e : Ending) (w' : World) : Prop :=
  ∃ A c g d, e = .returned (.tuple #[memV A n c, .slice (some ⟨g, 0, none⟩) 2 d, .int .i64 0]) ∧ MemAt w' B A n c xs ∧ g < w'.heap.size ∧ w.heap.size ≤ g ∧ Below w.heap.size w w' ∧
    w'.cell? ⟨g, 0, none⟩ = some (.int .i64 r0.1) ∧ w'.cell? ⟨g, 1, none⟩ = some (.bool r0.2) ∧ w'.cell? ⟨g, 2, none⟩ = some (.int .i64 r1.1) ∧ w'.cell? ⟨g, 3, none⟩ = some (.bool r1.2)
theorem all2_ok (A : Option Addr) (B c g : Nat) (zs : List Int) (a b : Acc) (w : World) (hB : B ≤ w.heap.size) (h : MemAt w B A zs.length c zs) (k : Bk w g 26 (accs2 a b)) (hm : zs.length ≤ 1000000) (he : allErr zs [a, b] = 0) :
    Calls Try.prog 17 #[memV A zs.length c, .slice (some ⟨g, 0, none⟩) 2 2] w (All2Ok B zs.length (allCells zs [a, b]) (a.had zs, a.ok (a.had zs)) (b.had (a.make zs), b.ok (b.had (a.make zs))) w) := by
  refine (all_any A (some ⟨g, 0, none⟩) B c 2 zs [a, b] w hB h (slacc2 k) hm (by simp)).mono ?_
  rintro e w' ⟨X, cx, R, d, rfl, hM, hR, hb⟩
  have e1 : allToldOut zs [a, b] = [(a.had zs, a.ok (a.had zs)), (b.had (a.make zs), b.ok (b.had (a.make zs)))] := by simp only [allToldOut, he, if_true]; rfl
  have e2 : allCellsOut zs [a, b] = allCells zs [a, b] := by simp only [allCellsOut, he, if_true]
  rw [e1] at hR ⊢
  rw [e2] at hM
  obtain ⟨g', cap, hv, hg1, hg2⟩ := World.ownsRow.form hR (by simp)
  injection hv with h1 h2 h3
  subst h1 h3
  have hc : ∀ j, j < 4 → w'.cell? ⟨g', j, none⟩ = (resCells [(a.had zs, a.ok (a.had zs)), (b.had (a.make zs), b.ok (b.had (a.make zs)))])[j]? := fun j hj => World.ownsRow.cellAt (n := 2) hR j (by omega)
  exact ⟨X, cx, g', d, by rw [he]; rfl, hM, hg2, hg1, hb, hc 0 (by omega), hc 1 (by omega), hc 2 (by omega), hc 3 (by omega)⟩
def All2Bad (n : Nat) (er : Int) (w : World) (e : Ending) (w' : World) : Prop :=
  ∃ A c R m d, e = .returned (.tuple #[memV A n c, .slice R m d, .int .i64 er]) ∧ Below w.heap.size w w'
theorem all2_bad (A : Option Addr) (B c g : Nat) (zs : List Int) (a b : Acc) (w : World) (hB : B ≤ w.heap.size) (h : MemAt w B A zs.length c zs) (k : Bk w g 26 (accs2 a b)) (hm : zs.length ≤ 1000000) :
    Calls Try.prog 17 #[memV A zs.length c, .slice (some ⟨g, 0, none⟩) 2 2] w (All2Bad zs.length (allErr zs [a, b]) w) := by
  refine (all_any A (some ⟨g, 0, none⟩) B c 2 zs [a, b] w hB h (slacc2 k) hm (by simp)).mono ?_
  rintro e w' ⟨X, cx, R, d, rfl, hM, hR, hb⟩
  exact ⟨X, cx, R, _, d, rfl, hb⟩

structure Boxes4 (A : Option Addr) (n c : Nat) (a b : Acc) (w w1 : World) : Prop where
  bel : Below w.heap.size w w1
  k0 : Bk w1 w.heap.size 24 #[.slice A n c]
  k1 : Bk w1 (w.heap.size + 1) 26 #[.int .i64 a.kind, .int .i64 a.cell, .int .i64 a.old, .int .i64 a.new]
  k2 : Bk w1 (w.heap.size + 1 + 1) 26 #[.int .i64 b.kind, .int .i64 b.cell, .int .i64 b.old, .int .i64 b.new]
theorem boxes4 (A : Option Addr) (n c : Nat) (a b : Acc) (w : World) : Boxes4 A n c a b w (((w.alloc (.cells #[.slice A n c] 24)).alloc (.cells #[.int .i64 a.kind, .int .i64 a.cell, .int .i64 a.old, .int .i64 a.new] 26)).alloc (.cells #[.int .i64 b.kind, .int .i64 b.cell, .int .i64 b.old, .int .i64 b.new] 26)) :=
  ⟨below_al (below_al (below_al (Below.refl w.heap.size w) _) _) _, ((Bk.made w _ _).alloc _).alloc _, (Bk.new _ (by simp) _ _).alloc _, Bk.new _ (by simp) _ _⟩
theorem Boxes4.keep {A : Option Addr} {n c : Nat} {a b : Acc} {w w1 w2 : World} (h : Boxes4 A n c a b w w1) (hb : Below w1.heap.size w1 w2) : Boxes4 A n c a b w w2 :=
  ⟨below_tr h.bel hb, h.k0.keep hb, h.k1.keep hb, h.k2.keep hb⟩
end Go.Proofs.Ytdajnmmjmfhihaa
