/- The walk of MemApart, where both accesses can be done. -/
import Derived.Test.YtdajnmmjmfhihaaLaw02J
namespace Go.Proofs.Ytdajnmmjmfhihaa
open Go.RowKit

theorem apart_any (A : Option Addr) (c : Nat) (zs : List Int) (a b : Acc) (w : World) (h : Sl w w.heap.size A zs.length (ints zs)) : Calls Try.prog 5 #[memV A zs.length c, accV a, accV b] w (BoolBelow true w) := by
  have h3 : ¬ ((a.kind == 1) = true ∧ (a.kind == 4) = true) := by
    simp only [beq_iff_eq]
    omega
  by_cases h1 : 100 < zs.length
  · exact apart_early A c zs a b w _ _ _ _ rfl rfl rfl rfl (.inl h1)
  cases h2 : ((a.cell == b.cell) && !((a.kind == b.kind) && ((a.kind == 1) || (a.kind == 4))))
  · by_cases he : a.err zs.length = 0 ∧ b.err zs.length = 0
    · obtain ⟨hea, heb⟩ := he
      obtain ⟨_, ha0, ha1⟩ := Acc.err_ok hea
      obtain ⟨_, hb0, hb1⟩ := Acc.err_ok heb
      have e1 : allErr zs [a, b] = 0 := by rw [allErr2, if_pos hea]; exact heb
      have e2 : allErr zs [b, a] = 0 := by rw [allErr2, if_pos heb]; exact hea
      have hcond : a.cell ≠ b.cell ∨ (a.kind = b.kind ∧ (a.kind = 1 ∨ a.kind = 4)) := by
        by_cases hc : a.cell = b.cell
        · right
          simp [hc] at h2
          exact ⟨h2.1, by by_cases h4 : a.kind = 1 <;> simp [h4] at h2 ⊢; exact h2.2⟩
        · exact .inl hc
      have hcells := apart_cells a b zs (by omega) ha0 hb0 hcond
      have N1 : ∀ (g : Nat) (W : World), Below w.heap.size w W → Bk W g 26 (accs2 a b) → Calls Try.prog 17 #[memV A zs.length c, .slice (some ⟨g, 0, none⟩) 2 2] W (All2Ok w.heap.size zs.length (allCells zs [a, b]) (a.had zs, a.ok (a.had zs)) (b.had (a.make zs), b.ok (b.had (a.make zs))) W) := fun g W hb k =>
        all2_ok A w.heap.size c g zs a b W hb.size ((MemAt.of_sl h).keep (Nat.le_refl _) hb) k (by omega) e1
      have N2 : ∀ (g : Nat) (W : World), Below w.heap.size w W → Bk W g 26 (accs2 b a) → Calls Try.prog 17 #[memV A zs.length c, .slice (some ⟨g, 0, none⟩) 2 2] W (All2Ok w.heap.size zs.length (allCells zs [a, b]) (b.had zs, b.ok (b.had zs)) (a.had (b.make zs), a.ok (a.had (b.make zs))) W) := fun g W hb k => by
        rw [hcells]
        exact all2_ok A w.heap.size c g zs b a W hb.size ((MemAt.of_sl h).keep (Nat.le_refl _) hb) k (by omega) e2
      by_cases hadd : (a.cell == b.cell) = true ∧ (a.kind == 4) = true
      · have q4 := hadd.1
        have q3 := hadd.2
        have q2 : (a.kind == 1) = false := by
          simp only [beq_iff_eq] at q3
          simp only [beq_eq_false_iff_ne]
          omega
        have q1 : (a.kind == b.kind) = true := by simpa [q4, q3, q2] using h2
        exact apart_add A c zs (allCells zs [a, b]) a b w _ _ _ _ _ _ _ _ q1 q2 q3 q4 h1 N1 N2
      · have htold := apart_told a b zs ha0 hb0 (by
          rcases hcond with hc | ⟨hk, h4 | h4⟩
          · exact .inl hc
          · exact .inr ⟨hk, h4⟩
          · left
            intro hc
            exact hadd ⟨by simpa using hc, by simpa using h4⟩)
        rw [htold.2] at N1
        rw [htold.1] at N2
        exact apart_good A c zs (allCells zs [a, b]) a b w _ _ _ _ _ _ _ _ rfl rfl rfl rfl h1 h2 h3 N1 N2 hadd
    · have b1 : (allErr zs [a, b] != 0) = true := by
        rw [bne_iff_ne, allErr2]
        split
        · intro h0; exact he ⟨by assumption, h0⟩
        · assumption
      have b2 : (allErr zs [b, a] != 0) = true := by
        rw [bne_iff_ne, allErr2]
        split
        · intro h0; exact he ⟨h0, by assumption⟩
        · assumption
      exact apart_bad A c zs a b w _ _ _ _ rfl rfl rfl rfl h h1 h2 h3 b1 b2
  · exact apart_early A c zs a b w _ _ _ _ rfl rfl rfl rfl (.inr h2)
end Go.Proofs.Ytdajnmmjmfhihaa
