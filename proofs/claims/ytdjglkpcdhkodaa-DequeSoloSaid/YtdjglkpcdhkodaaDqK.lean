/- The deque's plain law: an access of a thief keeps what holds; who wakes, who is done. -/
import Derived.Test.YtdjglkpcdhkodaaDqJ
namespace Go.Proofs.Ytdjglkpcdhkodaa
open Go.RowKit
set_option linter.unusedVariables false
section
variable {l : Ly} {sz : Nat} {m : List Int} {a : Int} {ph : Nat → Ph} {f : Nat → Nat} {p : Nat} {q : Bool}
theorem beff_le (m : List Int) (x : Ph) (q : Bool) : bot m ≤ beff m x q ∧ beff m x q ≤ bot m + fli x := by
  unfold beff fli
  cases x.fl <;> cases q <;> simp <;> omega
/-- A thief goes on, the memory as it was. -/
theorem CI.quietk (h : CI l sz m a ph f p q) {k : Nat} (hk : k = 1 ∨ k = 2) {x : Ph} (hx : ThOk l m (beff m (ph 0) q) (f k) p x) : CI l sz m a (upP ph k x) f p q := by
  have e0 : upP ph k x 0 = ph 0 := upP_other _ _ (by omega)
  refine ⟨h.ml, h.t0, by rw [e0]; exact h.b0, by rw [e0]; exact h.tb, h.r0, by rw [e0]; exact h.sz, by rw [e0]; exact h.qb, by rw [e0]; exact h.own, fun j hj => ?_⟩
  rw [e0]
  by_cases e : j = k
  · subst e; rw [upP_same]; exact hx
  · rw [upP_other _ _ e]; exact h.th j hj
theorem CI.th_step (h : CI l sz m a ph f p q) (ly : DLay l sz) {i : Nat} (hi : i = 1 ∨ i = 2) {pt a' k c o v : Int} (hp : (ph i).ans l a' pt = .ask k c o v) :
    (⟨k, c, o, v⟩ : Acc).err m.length = 0 ∧ CI l sz (mkM k c o v m) a (upP ph i ((ph i).add l (tlM k c o v m))) f p q := by
  have hl := h.big ly
  have hdq := ly.dq
  have hr3 := rings3 ly
  have ht := h.th i hi
  obtain ⟨hr0, hr1⟩ := h.r0
  have ht0 := h.t0
  have hbe := beff_le m (ph 0) q
  have hml := h.ml
  cases e : ph i with
  | s0 =>
    rw [e] at hp
    injection hp with h1 h2 h3 h4
    subst h1 h2 h3 h4
    rw [(mk1 _ m).1, (mk1 _ m).2, hdq]
    exact ⟨err0 (.inl ⟨rfl, rfl, rfl⟩) (by omega) (by omega), h.quietk hi ⟨ht0, Int.le_refl _⟩⟩
  | s1 t =>
    rw [e] at hp ht
    injection hp with h1 h2 h3 h4
    subst h1 h2 h3 h4
    rw [(mk1 _ m).1, (mk1 _ m).2, hdq]
    refine ⟨err0 (.inl ⟨rfl, rfl, rfl⟩) (by omega) (by omega), ?_⟩
    have hw : cel m (19 + 1) = bot m := rfl
    simp only [Ph.add, hw]
    split
    · exact h.quietk hi trivial
    · exact h.quietk hi ⟨ht.1, ht.2, fun _ => ⟨by omega, fun hb => by omega⟩⟩
  | s2 t =>
    rw [e] at hp ht
    injection hp with h1 h2 h3 h4
    subst h1 h2 h3 h4
    rw [(mk1 _ m).1, (mk1 _ m).2, hdq]
    exact ⟨err0 (.inl ⟨rfl, rfl, rfl⟩) (by omega) (by omega), h.quietk hi ⟨ht.1, ht.2.1, hr0, hr1, fun e => ⟨(ht.2.2 e).1, (ht.2.2 e).2, Int.le_refl _, rfl⟩⟩⟩
  | s3 t r =>
    rw [e] at hp ht
    obtain ⟨g1, g2, g3, g4, g5⟩ := ht
    injection hp with h1 h2 h3 h4
    subst h1 h2 h3 h4
    have hpl := plc_in g3 (by omega) t
    have hpl2 := plc_lt ly g3 g4 t
    rw [place_eq ly g3 g4 g1, (mk1 _ m).1, (mk1 _ m).2]
    exact ⟨err0 (.inl ⟨rfl, rfl, rfl⟩) (by omega) (by omega), h.quietk hi ⟨g1, g2, fun e => ⟨(g5 e).1, (g5 e).2.1, (g5 e).2.2.2⟩⟩⟩
  | s4 t x =>
    rw [e] at hp ht
    obtain ⟨g1, g2, g3⟩ := ht
    injection hp with h1 h2 h3 h4
    subst h1 h2 h3 h4
    rw [(mk3 _ _ _ m).1, (mk3 _ _ _ m).2, hdq]
    refine ⟨err0 (.inr (.inr rfl)) (by omega) (by omega), ?_⟩
    have hw : cel m 19 = top m := rfl
    rw [hw]
    by_cases hc : top m = t
    · rw [if_pos hc]
      obtain ⟨g4, g5, g6⟩ := g3 hc
      subst hc
      obtain ⟨k1, k2, k3⟩ := top_st (m := m) (v := top m + 1) (by omega)
      have sm := same_low (m := m) (c := 19) (v := top m + 1) (by omega) (by omega)
      simp only [decide_true]
      show CI l sz (m.set 19 (top m + 1)) a (upP ph i (.sn _ true 0 4)) f p q
      have e0 : ∀ y, upP ph i (.sn y true 0 4) 0 = ph 0 := fun y => upP_other _ _ (by omega)
      have hown := h.own
      have hsz := h.sz
      have hqb := h.qb
      have hb0 := h.b0
      refine ⟨by rw [sm.len]; exact hml, by rw [k1]; omega, by rw [e0, k2]; exact h.b0, ?_, by rw [k3]; exact ⟨hr0, hr1⟩, by rw [e0, k1, k2, k3]; omega, (by rw [e0, k1, k2]; intro h1 h2; have := hqb h1 h2; omega), ?_, fun j hj => ?_⟩
      · rw [e0, k1]
        unfold beff at g4 ⊢
        rw [k2]
        omega
      · rw [e0]
        cases e' : ph 0 with
        | u1 b => rw [e'] at hown; show b = _; rw [k2]; exact hown
        | u2 b t => rw [e'] at hown; obtain ⟨x1, x2, x3, x4⟩ := hown; exact ⟨by rw [k2]; exact x1, x2, by rw [k1]; omega, by rw [k3]; exact x4⟩
        | mv b r t ms =>
          rw [e'] at hown
          obtain ⟨x1, x2, x3, x4, x5, x6, kk, x7, x8, x9⟩ := hown
          exact ⟨by rw [k2]; exact x1, by rw [k3]; exact x2, x3, by rw [k1]; omega, x5, x6, kk, x7, x8, fun i i0 i1 => by rw [sm.rc _ _ (by omega) (by omega), sm.rc _ _ (by omega) (by omega)]; exact x9 i i0 i1⟩
        | mx b r t mm ms x =>
          rw [e'] at hown
          obtain ⟨x1, x2, x3, x4, x5, x6, kk, x7, x8, x9, x10⟩ := hown
          exact ⟨by rw [k2]; exact x1, by rw [k3]; exact x2, x3, by rw [k1]; omega, x5, x6, kk, x7, x8, fun i i0 i1 => by rw [sm.rc _ _ (by omega) (by omega), sm.rc _ _ (by omega) (by omega)]; exact x9 i i0 i1, by rw [sm.rc _ _ (by omega) (by omega)]; exact x10⟩
        | pt b t r => rw [e'] at hown; obtain ⟨x1, x2, x3, x4, x5⟩ := hown; exact ⟨by rw [k2]; exact x1, by rw [k3]; exact x2, x3, by rw [k1]; omega, x5⟩
        | bt b t => rw [e'] at hown; obtain ⟨x1, x3, x4, x5, x6⟩ := hown; exact ⟨by rw [k2]; exact x1, x3, by rw [k1]; omega, by rw [k3]; exact x5, by rw [k3, sm.rc _ _ hr0 (by omega)]; exact x6⟩
        | o1 b => rw [e'] at hown; show b = _; rw [k2]; exact hown
        | o2 b => rw [e'] at hown; show bot _ = _; rw [k2]; exact hown
        | oe b =>
          rw [e'] at hown
          obtain ⟨x1, x2⟩ := hown
          rw [e'] at g4 hbe
          simp only [fli, Ph.fl, if_true] at hbe
          omega
        | o3 b t => rw [e'] at hown; obtain ⟨x1, x2, x3, x4, x5⟩ := hown; exact ⟨by rw [k2]; exact x1, x2, by rw [k1]; omega, x4, x5⟩
        | o4 b t r => rw [e'] at hown; obtain ⟨x1, x2, x3, x4, x5, x6⟩ := hown; exact ⟨by rw [k2]; exact x1, x2, by rw [k1]; omega, x4, x5, by rw [k3]; exact x6⟩
        | o5 b x => rw [e'] at hown; obtain ⟨x1, x2, x3, x4⟩ := hown; exact ⟨by rw [k2]; exact x1, by rw [k1]; omega, x3, by rw [k3, sm.rc _ _ hr0 (by omega)]; exact x4⟩
        | o6 b x c =>
          rw [e'] at hown
          obtain ⟨x1, x2, x3⟩ := hown
          rw [e'] at g4 hbe
          simp only [fli, Ph.fl, if_true] at hbe
          omega
        | _ => rw [e'] at hown; exact hown
      · rw [e0]
        by_cases ej : j = i
        · subst ej; rw [upP_same]; trivial
        · rw [upP_other _ _ ej]
          exact (h.th j hj).frame (by rw [k1]; omega) (fun h1 _ => by rw [k1] at h1; omega)
    · rw [if_neg hc]
      exact h.quietk hi trivial
  | id => rw [e] at hp; cases hp
  | sn _ _ _ _ => rw [e] at hp; cases hp
  | _ => rw [e] at ht; exact ht.elim
/-- The owner wakes, or is done. -/
theorem CI.set0 (h : CI l sz m a ph f p q) {a' : Int} {f' : Nat → Nat} {x : Ph} (hx : x.fl = false) (h0 : (ph 0).fl = false) (ho : OwnOk l m a' q x) (hf : ∀ k, k ≠ 0 → f' k = f k) : CI l sz m a' (upP ph 0 x) f' p q := by
  have e0 : upP ph 0 x 0 = x := upP_same _ _ _
  have hfl : fli x = fli (ph 0) := by unfold fli; rw [hx, h0]
  have hbe : beff m x q = beff m (ph 0) q := by unfold beff; rw [hx, h0]
  refine ⟨h.ml, h.t0, by rw [e0, hfl]; exact h.b0, by rw [e0, hbe]; exact h.tb, h.r0, by rw [e0, hfl]; exact h.sz, (by rw [e0, hx]; intro h1; cases h1), by rw [e0]; exact ho, fun k hk => ?_⟩
  rw [e0, hbe, upP_other ph x (by omega), hf k (by omega)]
  exact h.th k hk
/-- A thief wakes, or is done. -/
theorem CI.setk (h : CI l sz m a ph f p q) {f' : Nat → Nat} {i : Nat} (hi : i = 1 ∨ i = 2) {x : Ph} (hx : ∀ be f p, ThOk l m be f p x) (hf : ∀ k, k ≠ i → f' k = f k) : CI l sz m a (upP ph i x) f' p q := by
  have e0 : upP ph i x 0 = ph 0 := upP_other _ _ (by omega)
  refine ⟨h.ml, h.t0, by rw [e0]; exact h.b0, by rw [e0]; exact h.tb, h.r0, by rw [e0]; exact h.sz, by rw [e0]; exact h.qb, by rw [e0]; exact h.own, fun j hj => ?_⟩
  rw [e0]
  by_cases e : j = i
  · subst e; rw [upP_same]; exact hx _ _ _
  · rw [upP_other _ _ e, hf j e]; exact h.th j hj
end
end Go.Proofs.Ytdjglkpcdhkodaa
