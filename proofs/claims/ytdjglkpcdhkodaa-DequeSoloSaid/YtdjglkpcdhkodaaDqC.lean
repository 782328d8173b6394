/- Regions 'x, y, z := call(..)' with two structs and one plain result, in whatever order: b the call, behind it the move, three extracts, two allocs, two stores, the assign. -/
import Derived.Test.YtdjglkpcdhkodaaDqT
namespace Go.Proofs.Ytdjglkpcdhkodaa
open Go.RowKit
set_option linter.unusedVariables false

abbrev tup3 (c1 c2 : Array Value) (v3 : Value) : Value := .tuple #[.agg c1, .agg c2, v3]
def c3P (b : Nat) (i : Nat) : List Nat := if i = b + 1 then [b] else if i = b + 2 then [b + 1] else if i = b + 3 then [b + 1] else if i = b + 4 then [b + 1] else if i = b + 7 then [b, b + 2, b + 5] else if i = b + 8 then [b, b + 3, b + 6] else if i = b + 9 then [b + 4] else []
def c3R (b B : Nat) (t1 t2 : TypeId) (z1 z2 : Array Value) (X : Array Value → Array Value → Value → World → Prop) (i : Nat) (val : Nat → Option Value) (v : Value) (w : World) : Prop :=
  if i = b then ∃ c1 c2 v3, v = tup3 c1 c2 v3 ∧ X c1 c2 v3 w
  else if i = b + 1 then ∃ c1 c2 v3, v = tup3 c1 c2 v3 ∧ val b = some v
  else if i = b + 2 then ∃ c1 c2 v3, val b = some (tup3 c1 c2 v3) ∧ v = .agg c1
  else if i = b + 3 then ∃ c1 c2 v3, val b = some (tup3 c1 c2 v3) ∧ v = .agg c2
  else if i = b + 4 then ∃ c1 c2 v3, val b = some (tup3 c1 c2 v3) ∧ v = v3
  else if i = b + 5 then ∃ g, v = ptr g ∧ B ≤ g ∧ (val (b + 7) = none → Bk w g t1 z1)
  else if i = b + 6 then ∃ g, v = ptr g ∧ B ≤ g ∧ (val (b + 8) = none → Bk w g t2 z2)
  else if i = b + 7 then ∃ g c1 c2 v3, val b = some (tup3 c1 c2 v3) ∧ val (b + 5) = some (ptr g) ∧ B ≤ g ∧ Bk w g t1 c1
  else if i = b + 8 then ∃ g c1 c2 v3, val b = some (tup3 c1 c2 v3) ∧ val (b + 6) = some (ptr g) ∧ B ≤ g ∧ Bk w g t2 c2
  else ∃ c1 c2 v3, val b = some (tup3 c1 c2 v3) ∧ v = v3
def c3G (b B : Nat) (t1 t2 : TypeId) (i : Nat) (w1 w2 : World) : Prop := if i = b + 7 then KeptT t1 w1 w2 ∧ Below B w1 w2 else if i = b + 8 then KeptT t2 w1 w2 ∧ Below B w1 w2 else Below w1.heap.size w1 w2
theorem c3T_keep {b : Nat} {t1 t2 : TypeId} {i : Nat} {w0 w1 w2 : World} (h : Below w0.heap.size w0 w1) (hg : c3G b w0.heap.size t1 t2 i w1 w2) : Below w0.heap.size w0 w2 := by
  unfold c3G at hg
  split at hg
  · exact h.trans hg.2
  · split at hg
    · exact h.trans hg.2
    · exact below_tr h hg
theorem c3R_keep {b B : Nat} {t1 t2 : TypeId} {z1 z2 : Array Value} {X : Array Value → Array Value → Value → World → Prop} (hne : t1 ≠ t2)
    (hX : ∀ c1 c2 v3 w1 w2, X c1 c2 v3 w1 → (KeptT t1 w1 w2 ∨ KeptT t2 w1 w2 ∨ Below w1.heap.size w1 w2) → X c1 c2 v3 w2) {i j : Nat} (hij : i ≠ j) {val : Nat → Option Value} {v u : Value} {w1 w2 : World} (hi : val i = some v) (hj : val j = none)
    (h : c3R b B t1 t2 z1 z2 X i val v w1) (hg : c3G b B t1 t2 j w1 w2) : c3R b B t1 t2 z1 z2 X i (upd val j u) v w2 := by
  have hv : ∀ k x, val k = some x → upd val j u k = some x := fun k x hk => by
    simp only [upd]
    split
    · rename_i e; subst e; rw [hj] at hk; cases hk
    · exact hk
  have hn : ∀ k, upd val j u k = none → val k = none ∧ k ≠ j := fun k hk => by
    simp only [upd] at hk
    split at hk
    · cases hk
    · rename_i e; exact ⟨hk, e⟩
  have hd : KeptT t1 w1 w2 ∨ KeptT t2 w1 w2 ∨ Below w1.heap.size w1 w2 := by
    unfold c3G at hg
    split at hg
    · exact .inl hg.1
    · split at hg
      · exact .inr (.inl hg.1)
      · exact .inr (.inr hg)
  have k1 : ∀ {g : Nat} {c : Array Value}, j ≠ b + 7 → Bk w1 g t1 c → Bk w2 g t1 c := by
    intro g c hne7 k
    unfold c3G at hg
    rw [if_neg hne7] at hg
    split at hg
    · exact k.keptT hg.1 hne
    · exact k.keep hg
  have k2 : ∀ {g : Nat} {c : Array Value}, j ≠ b + 8 → Bk w1 g t2 c → Bk w2 g t2 c := by
    intro g c hne8 k
    unfold c3G at hg
    split at hg
    · exact k.keptT hg.1 hne.symm
    · first
      | exact k.keep hg
      | (rw [if_neg hne8] at hg; exact k.keep hg)
  unfold c3R at h ⊢
  split
  · rename_i e
    rw [if_pos e] at h
    obtain ⟨c1, c2, v3, h1, h2⟩ := h
    exact ⟨c1, c2, v3, h1, hX _ _ _ _ _ h2 hd⟩
  rename_i e0
  rw [if_neg e0] at h
  split
  · rename_i e
    rw [if_pos e] at h
    obtain ⟨c1, c2, v3, h1, h2⟩ := h
    exact ⟨c1, c2, v3, h1, hv _ _ h2⟩
  rename_i e1
  rw [if_neg e1] at h
  split
  · rename_i e
    rw [if_pos e] at h
    obtain ⟨c1, c2, v3, h1, h2⟩ := h
    exact ⟨c1, c2, v3, hv _ _ h1, h2⟩
  rename_i e2
  rw [if_neg e2] at h
  split
  · rename_i e
    rw [if_pos e] at h
    obtain ⟨c1, c2, v3, h1, h2⟩ := h
    exact ⟨c1, c2, v3, hv _ _ h1, h2⟩
  rename_i e3
  rw [if_neg e3] at h
  split
  · rename_i e
    rw [if_pos e] at h
    obtain ⟨c1, c2, v3, h1, h2⟩ := h
    exact ⟨c1, c2, v3, hv _ _ h1, h2⟩
  rename_i e4
  rw [if_neg e4] at h
  split
  · rename_i e
    rw [if_pos e] at h
    obtain ⟨g, h1, h2, h3⟩ := h
    exact ⟨g, h1, h2, fun q => k1 (fun e' => (hn _ q).2 e'.symm) (h3 (hn _ q).1)⟩
  rename_i e5
  rw [if_neg e5] at h
  split
  · rename_i e
    rw [if_pos e] at h
    obtain ⟨g, h1, h2, h3⟩ := h
    exact ⟨g, h1, h2, fun q => k2 (fun e' => (hn _ q).2 e'.symm) (h3 (hn _ q).1)⟩
  rename_i e6
  rw [if_neg e6] at h
  split
  · rename_i e
    rw [if_pos e] at h
    obtain ⟨g, c1, c2, v3, h0, h1, h2, h3⟩ := h
    exact ⟨g, c1, c2, v3, hv _ _ h0, hv _ _ h1, h2, k1 (fun e' => hij (e.trans e'.symm)) h3⟩
  rename_i e7
  rw [if_neg e7] at h
  split
  · rename_i e
    rw [if_pos e] at h
    obtain ⟨g, c1, c2, v3, h0, h1, h2, h3⟩ := h
    exact ⟨g, c1, c2, v3, hv _ _ h0, hv _ _ h1, h2, k2 (fun e' => hij (e.trans e'.symm)) h3⟩
  rename_i e8
  rw [if_neg e8] at h
  obtain ⟨c1, c2, v3, h1, h2⟩ := h
  exact ⟨c1, c2, v3, hv _ _ h1, h2⟩
theorem tup3_inj {c1 c2 d1 d2 : Array Value} {v3 u3 : Value} (h : some (tup3 c1 c2 v3) = some (tup3 d1 d2 u3)) : c1 = d1 ∧ c2 = d2 ∧ v3 = u3 := by
  injection h with h
  injection h with h
  have h1 := congrArg (fun x => x.toList) h
  simp only [List.cons.injEq, and_true] at h1
  obtain ⟨h1, h2, h3⟩ := h1
  injection h1 with h1
  injection h2 with h2
  exact ⟨h1, h2, h3⟩
theorem ptr_inj {g g' : Nat} (h : some (ptr g) = some (ptr g')) : g = g' := by
  injection h with h
  injection h with h
  injection h with h
  injection h with h
theorem below_setRowB' {B : Nat} {w : World} {g : Nat} (hg : B ≤ g) (cs : Array Value) : Below B w (w.setRow g cs) :=
  ⟨rfl, rfl, rfl, by simp [World.setRow], fun k hk => setRow_other w g k cs (by omega)⟩
end Go.Proofs.Ytdjglkpcdhkodaa
