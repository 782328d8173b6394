/- EraGuards: what a guard that is passed now and then does, in numbers. No program in sight. -/
import Derived.Test.YtgjdjgainjedhaaECp
namespace Go.Proofs.Ytgjdjgainjedhaa
open Go.RowKit
set_option linter.unusedVariables false
/-- A guard under way: i accesses behind it, era at cell er, its reserve at rs, the guarded cell at ce. -/
def GdPh (val has e : Int) (i : Nat) (log : Log) : EPh → Prop
  | .gu k h => k = i ∧ h = has
  | .gv k h x => k = i ∧ h = has ∧ x = val ∧ 1 ≤ i
  | .gs k x => k = i ∧ 1 ≤ x ∧ x ≤ e
  | .gz x p => x = val ∧ p + 2 = i ∧ 1 ≤ has ∧ log.getLast? = some (has, true)
  | _ => False
structure GdI (sz er rs ce : Nat) (val B : Int) (i : Nat) (m : List Int) (q : EPh) (log : Log) : Prop where
  ml : m.length = sz
  ll : log.length = i
  v : m.getD ce 0 = val
  e0 : 1 ≤ m.getD er 0
  e1 : m.getD er 0 ≤ B
  ph : GdPh val (m.getD rs 0) (m.getD er 0) i log q
def gdM (e : Int) : EPh → Nat
  | .gu _ h => if h = e then 2 else 5
  | .gv _ h _ => if h = e then 1 else 4
  | .gs _ x => if x = e then 3 else 6
  | _ => 0
def gdAcc (l : Ly) (me s c : Int) : EPh → Acc
  | .gu _ _ => ⟨1, c, 0, 0⟩
  | .gv _ _ _ => ⟨1, l.era, 0, 0⟩
  | .gs _ e => ⟨2, resvAt l me s, 0, e⟩
  | _ => ⟨1, 0, 0, 0⟩
section
variable {l : Ly} {me s c : Int} {sz er rs ce : Nat} {val B : Int} {i : Nat} {m : List Int} {q : EPh} {log : Log}
/-- The era goes on. -/
theorem gd_pass (h : GdI sz er rs ce val B i m q log) (h1 : er ≠ rs) (h2 : er ≠ ce) (h3 : er < sz) : GdI sz er rs ce val (B + 1) i (m.set er (m.getD er 0 + 1)) q log := by
  have hl := h.ml
  have e1 : (m.set er (m.getD er 0 + 1)).getD er 0 = m.getD er 0 + 1 := by rw [set_at (by omega), if_pos rfl]
  have e2 : (m.set er (m.getD er 0 + 1)).getD rs 0 = m.getD rs 0 := by rw [set_at (by omega), if_neg (by omega)]
  have e3 : (m.set er (m.getD er 0 + 1)).getD ce 0 = m.getD ce 0 := by rw [set_at (by omega), if_neg (by omega)]
  have b0 := h.e0
  have b1 := h.e1
  refine ⟨by simp [hl], h.ll, by rw [e3]; exact h.v, by rw [e1]; omega, by rw [e1]; omega, ?_⟩
  rw [e1, e2]
  have hp := h.ph
  cases q <;> simp only [GdPh] at hp ⊢ <;> first | exact hp | (obtain ⟨a, b, c⟩ := hp; exact ⟨a, b, by omega⟩)
/-- A step. -/
theorem gd_step (h : GdI sz er rs ce val B i m q log) (hq : ∀ x p, q ≠ .gz x p) (hc : c = ce) (he : l.era = er) (hr : resvAt l me s = rs) (h1 : er ≠ rs) (h2 : er ≠ ce) (h3 : er < sz) (h4 : rs ≠ ce) (h5 : rs < sz) (h6 : ce < sz) :
    q.ans l me ⟨1, 0, s, c⟩ [] = .ask (gdAcc l me s c q).kind (gdAcc l me s c q).cell (gdAcc l me s c q).old (gdAcc l me s c q).new ∧ (gdAcc l me s c q).err m.length = 0 ∧ (gdAcc l me s c q).ok ((gdAcc l me s c q).had m) = true ∧
    GdI sz er rs ce val B (i + 1) ((gdAcc l me s c q).make m) (q.add l s [] ((gdAcc l me s c q).had m, true)) (log ++ [((gdAcc l me s c q).had m, true)]) ∧
    gdM (((gdAcc l me s c q).make m).getD er 0) (q.add l s [] ((gdAcc l me s c q).had m, true)) + 1 ≤ gdM (m.getD er 0) q := by
  have hl := h.ml
  have hp := h.ph
  cases q <;> simp only [GdPh] at hp
  case gu k has =>
    obtain ⟨rfl, rfl⟩ := hp
    simp only [gdAcc]
    obtain ⟨f1, f2, f3⟩ := acc_load (c := c) (m := m)
    rw [f1, f3, hc, Int.toNat_natCast, h.v]
    refine ⟨by simp [EPh.ans], acc_err (by omega) (.inl ⟨rfl, rfl, rfl⟩), rfl, ⟨h.ml, by simp [h.ll], h.v, h.e0, h.e1, ?_⟩, ?_⟩
    · simp [EPh.add, GdPh]
    · simp only [EPh.add, gdM]
      split <;> omega
  case gv k has x =>
    obtain ⟨rfl, rfl, rfl, hi⟩ := hp
    simp only [gdAcc]
    obtain ⟨f1, f2, f3⟩ := acc_load (c := l.era) (m := m)
    rw [f1, f3, he, Int.toNat_natCast]
    have b0 := h.e0
    refine ⟨by simp [EPh.ans, he], acc_err (by omega) (.inl ⟨rfl, rfl, rfl⟩), rfl, ⟨h.ml, by simp [h.ll], h.v, h.e0, h.e1, ?_⟩, ?_⟩
    · simp only [EPh.add]
      by_cases e : m.getD er 0 = m.getD rs 0
      · rw [if_pos e]
        exact ⟨rfl, by omega, by omega, by simp; exact e⟩
      · rw [if_neg e]
        exact ⟨rfl, h.e0, Int.le_refl _⟩
    · simp only [EPh.add]
      by_cases e : m.getD er 0 = m.getD rs 0
      · rw [if_pos e]
        simp only [gdM]
        rw [if_pos e.symm]
        omega
      · rw [if_neg e]
        simp only [gdM]
        rw [if_pos trivial, if_neg (fun h => e h.symm)]
        omega
  case gs k x =>
    obtain ⟨rfl, hx1, hx2⟩ := hp
    simp only [gdAcc]
    obtain ⟨f1, f2⟩ := acc_store (c := resvAt l me s) (v := x) (m := m)
    rw [f1, hr, Int.toNat_natCast]
    have e1 : (m.set rs x).getD er 0 = m.getD er 0 := by rw [set_at (by omega), if_neg (by omega)]
    have e2 : (m.set rs x).getD rs 0 = x := by rw [set_at (by omega), if_pos rfl]
    have e3 : (m.set rs x).getD ce 0 = m.getD ce 0 := by rw [set_at (by omega), if_neg (by omega)]
    refine ⟨by simp [EPh.ans, hr], acc_err (by omega) (.inr (.inl ⟨rfl, rfl⟩)), rfl, ⟨by simp [hl], by simp [h.ll], by rw [e3]; exact h.v, by rw [e1]; exact h.e0, by rw [e1]; exact h.e1, ?_⟩, ?_⟩
    · rw [e2]
      exact ⟨rfl, rfl⟩
    · rw [e1]
      simp only [EPh.add, gdM]
      split <;> omega
  case gz x p => exact absurd rfl (hq x p)
/-- The memory and the log behind k rounds: ahead of access k the era goes on where pass k. -/
def gdS (l : Ly) (me s c : Int) (er : Nat) (pass : Nat → Bool) (m : List Int) : Nat → List Int × Log
  | 0 => (m, [])
  | k + 1 =>
    let st := gdS l me s c er pass m k
    let m1 := if pass k then st.1.set er (st.1.getD er 0 + 1) else st.1
    let a := gdAcc l me s c (ePh l ⟨1, 0, s, c⟩ [] st.2)
    (a.make m1, st.2 ++ [(a.had m1, true)])
theorem gd_run (pass : Nat → Bool) (hpass : ∀ k, 20 ≤ k → pass k = false) (hm : m.length = sz) (hv : m.getD ce 0 = val) (he0 : 1 ≤ m.getD er 0) (he1 : m.getD er 0 ≤ 256) (hr0 : m.getD rs 0 = 0) (hs : 0 ≤ s ∧ s < 3) (hcs : 0 ≤ c ∧ c < l.size) (hc : c = ce) (he : l.era = er) (hr : resvAt l me s = rs) (h1 : er ≠ rs) (h2 : er ≠ ce) (h3 : er < sz) (h4 : rs ≠ ce) (h5 : rs < sz) (h6 : ce < sz) :
    ∃ K, K ≤ 30 ∧ (∀ k, k < K → (∀ x p, ePh l ⟨1, 0, s, c⟩ [] (gdS l me s c er pass m k).2 ≠ .gz x p) ∧ GdI sz er rs ce val (256 + (min k 20 : Nat)) k (gdS l me s c er pass m k).1 (ePh l ⟨1, 0, s, c⟩ [] (gdS l me s c er pass m k).2) (gdS l me s c er pass m k).2) ∧
      (∃ p, ePh l ⟨1, 0, s, c⟩ [] (gdS l me s c er pass m K).2 = .gz val p) ∧ GdI sz er rs ce val (256 + (min K 20 : Nat)) K (gdS l me s c er pass m K).1 (ePh l ⟨1, 0, s, c⟩ [] (gdS l me s c er pass m K).2) (gdS l me s c er pass m K).2 := by
  have hz : GdI sz er rs ce val 256 0 m (ePh l ⟨1, 0, s, c⟩ [] []) [] := by
    have p0 : ePh l ⟨1, 0, s, c⟩ [] [] = .gu 0 0 := by simp [ePh, startE, mayE, hs.1, hs.2, hcs.1, hcs.2]
    rw [p0]
    exact ⟨hm, rfl, hv, he0, he1, rfl, hr0.symm⟩
  have hstep : ∀ k, GdI sz er rs ce val (256 + (min k 20 : Nat)) k (gdS l me s c er pass m k).1 (ePh l ⟨1, 0, s, c⟩ [] (gdS l me s c er pass m k).2) (gdS l me s c er pass m k).2 →
      (∀ x p, ePh l ⟨1, 0, s, c⟩ [] (gdS l me s c er pass m k).2 ≠ .gz x p) →
      GdI sz er rs ce val (256 + (min (k + 1) 20 : Nat)) (k + 1) (gdS l me s c er pass m (k + 1)).1 (ePh l ⟨1, 0, s, c⟩ [] (gdS l me s c er pass m (k + 1)).2) (gdS l me s c er pass m (k + 1)).2 ∧
      (20 ≤ k → gdM ((gdS l me s c er pass m (k + 1)).1.getD er 0) (ePh l ⟨1, 0, s, c⟩ [] (gdS l me s c er pass m (k + 1)).2) + 1 ≤ gdM ((gdS l me s c er pass m k).1.getD er 0) (ePh l ⟨1, 0, s, c⟩ [] (gdS l me s c er pass m k).2)) := by
    intro k hk hne
    generalize hst : gdS l me s c er pass m k = st at *
    have hS : gdS l me s c er pass m (k + 1) = ((gdAcc l me s c (ePh l ⟨1, 0, s, c⟩ [] st.2)).make (if pass k then st.1.set er (st.1.getD er 0 + 1) else st.1), st.2 ++ [((gdAcc l me s c (ePh l ⟨1, 0, s, c⟩ [] st.2)).had (if pass k then st.1.set er (st.1.getD er 0 + 1) else st.1), true)]) := by
      rw [gdS, hst]
    rw [hS]
    dsimp only
    rw [ePh_snoc]
    by_cases hp : pass k = true
    · have hk20 : k < 20 := by
        by_cases h : 20 ≤ k
        · rw [hpass k h] at hp; cases hp
        · omega
      rw [if_pos hp]
      have hg := gd_pass hk h1 h2 h3
      obtain ⟨-, -, -, g4, -⟩ := gd_step (l := l) (me := me) (s := s) (c := c) hg hne hc he hr h1 h2 h3 h4 h5 h6
      refine ⟨?_, fun h => by omega⟩
      rw [show (256 : Int) + (min (k + 1) 20 : Nat) = 256 + (min k 20 : Nat) + 1 by omega]
      exact g4
    · rw [if_neg hp]
      obtain ⟨-, -, -, g4, g5⟩ := gd_step (l := l) (me := me) (s := s) (c := c) hk hne hc he hr h1 h2 h3 h4 h5 h6
      refine ⟨⟨g4.ml, g4.ll, g4.v, g4.e0, by have := g4.e1; omega, g4.ph⟩, fun _ => g5⟩
  -- either it ends at some K, or it is on its way at each k
  have hall : ∀ k, (∃ K, K ≤ k ∧ (∀ j, j < K → (∀ x p, ePh l ⟨1, 0, s, c⟩ [] (gdS l me s c er pass m j).2 ≠ .gz x p) ∧ GdI sz er rs ce val (256 + (min j 20 : Nat)) j (gdS l me s c er pass m j).1 (ePh l ⟨1, 0, s, c⟩ [] (gdS l me s c er pass m j).2) (gdS l me s c er pass m j).2) ∧
      (∃ x p, ePh l ⟨1, 0, s, c⟩ [] (gdS l me s c er pass m K).2 = .gz x p) ∧ GdI sz er rs ce val (256 + (min K 20 : Nat)) K (gdS l me s c er pass m K).1 (ePh l ⟨1, 0, s, c⟩ [] (gdS l me s c er pass m K).2) (gdS l me s c er pass m K).2) ∨
      ((∀ j, j ≤ k → (∀ x p, ePh l ⟨1, 0, s, c⟩ [] (gdS l me s c er pass m j).2 ≠ .gz x p) ∧ GdI sz er rs ce val (256 + (min j 20 : Nat)) j (gdS l me s c er pass m j).1 (ePh l ⟨1, 0, s, c⟩ [] (gdS l me s c er pass m j).2) (gdS l me s c er pass m j).2) ∧
        (20 ≤ k → gdM ((gdS l me s c er pass m k).1.getD er 0) (ePh l ⟨1, 0, s, c⟩ [] (gdS l me s c er pass m k).2) + (k - 20) ≤ 6)) := by
    intro k
    induction k with
    | zero =>
      by_cases h : ∃ x p, ePh l ⟨1, 0, s, c⟩ [] (gdS l me s c er pass m 0).2 = .gz x p
      · exact .inl ⟨0, Nat.le_refl _, fun j hj => absurd hj (by omega), h, by simpa [gdS] using hz⟩
      · refine .inr ⟨fun j hj => ?_, fun h => by omega⟩
        obtain rfl : j = 0 := by omega
        exact ⟨fun x p e => h ⟨x, p, e⟩, by simpa [gdS] using hz⟩
    | succ k ih =>
      rcases ih with ⟨K, hK, hrest⟩ | ⟨hw, hmu⟩
      · exact .inl ⟨K, by omega, hrest⟩
      · obtain ⟨hne, hgi⟩ := hw k (Nat.le_refl _)
        obtain ⟨hn, hd⟩ := hstep k hgi hne
        by_cases h : ∃ x p, ePh l ⟨1, 0, s, c⟩ [] (gdS l me s c er pass m (k + 1)).2 = .gz x p
        · exact .inl ⟨k + 1, Nat.le_refl _, fun j hj => hw j (by omega), h, hn⟩
        · refine .inr ⟨fun j hj => ?_, fun h20 => ?_⟩
          · by_cases hjk : j ≤ k
            · exact hw j hjk
            · obtain rfl : j = k + 1 := by omega
              exact ⟨fun x p e => h ⟨x, p, e⟩, hn⟩
          · by_cases h20' : 20 ≤ k
            · have a1 := hd h20'
              have a2 := hmu h20'
              omega
            · have hb : gdM ((gdS l me s c er pass m (k + 1)).1.getD er 0) (ePh l ⟨1, 0, s, c⟩ [] (gdS l me s c er pass m (k + 1)).2) ≤ 6 := by
                generalize ePh l ⟨1, 0, s, c⟩ [] (gdS l me s c er pass m (k + 1)).2 = q
                cases q <;> simp only [gdM] <;> (try split) <;> omega
              omega
  rcases hall 30 with ⟨K, hK, hrest, ⟨x, p, hgz⟩, hgi⟩ | ⟨-, hmu⟩
  · refine ⟨K, hK, hrest, ⟨p, ?_⟩, hgi⟩
    have hph := hgi.ph
    rw [hgz] at hph ⊢
    rw [hph.1]
  · have := hmu (by omega)
    omega
end
end Go.Proofs.Ytgjdjgainjedhaa
