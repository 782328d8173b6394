/- The deque's plain law: an access of the owner keeps what holds. -/
import Derived.Test.YtdjglkpcdhkodaaDqI
namespace Go.Proofs.Ytdjglkpcdhkodaa
open Go.RowKit
set_option linter.unusedVariables false

def upP (ph : Nat → Ph) (who : Nat) (x : Ph) : Nat → Ph := fun k => if k = who then x else ph k
theorem upP_same (ph : Nat → Ph) (who : Nat) (x : Ph) : upP ph who x who = x := if_pos rfl
theorem upP_other (ph : Nat → Ph) {who k : Nat} (x : Ph) (h : k ≠ who) : upP ph who x k = ph k := if_neg h
/-- An access by its numbers: what it makes, what it tells. -/
def mkM (k c o v : Int) (m : List Int) : List Int := (⟨k, c, o, v⟩ : Acc).make m
def tlM (k c o v : Int) (m : List Int) : Int × Bool := ((⟨k, c, o, v⟩ : Acc).had m, (⟨k, c, o, v⟩ : Acc).ok ((⟨k, c, o, v⟩ : Acc).had m))
theorem set_same {m : List Int} {c : Nat} : m.set c (m.getD c 0) = m := by
  apply List.ext_getElem?
  intro j
  by_cases e : j = c
  · subst e
    by_cases hj : j < m.length
    · rw [List.getElem?_set_self hj, List.getD_eq_getElem?_getD, List.getElem?_eq_getElem hj]; rfl
    · rw [List.getElem?_eq_none (by simp; omega), List.getElem?_eq_none (by omega)]
  · rw [List.getElem?_set_ne (fun e' => e e'.symm)]
theorem mk1 (c : Int) (m : List Int) : mkM 1 c 0 0 m = m ∧ tlM 1 c 0 0 m = (cel m c, true) := by
  refine ⟨?_, ?_⟩
  · unfold mkM Acc.make Acc.next Acc.had
    simp only [if_pos]
    exact set_same
  · simp [tlM, Acc.had, Acc.ok, cel]
theorem mk2 (c v : Int) (m : List Int) : mkM 2 c 0 v m = m.set c.toNat v ∧ tlM 2 c 0 v m = (cel m c, true) := by
  refine ⟨?_, ?_⟩
  · simp [mkM, Acc.make, Acc.next]
  · simp [tlM, Acc.had, Acc.ok, cel]
theorem mk3 (c o v : Int) (m : List Int) : mkM 3 c o v m = (if cel m c = o then m.set c.toNat v else m) ∧ tlM 3 c o v m = (cel m c, decide (cel m c = o)) := by
  refine ⟨?_, ?_⟩
  · unfold mkM Acc.make Acc.next Acc.had
    show m.set c.toNat (if (3 : Int) = 1 then _ else if (3 : Int) = 3 then (if cel m c = o then v else cel m c) else _) = _
    rw [if_neg (by omega), if_pos rfl]
    split
    · rfl
    · exact set_same
  · simp only [tlM, Acc.had, Acc.ok, cel]
    congr 1
    rw [Bool.eq_iff_iff]
    simp
theorem err0 {k c o v : Int} {n : Nat} (h : (k = 1 ∧ o = 0 ∧ v = 0) ∨ (k = 2 ∧ o = 0) ∨ k = 3) (h0 : 0 ≤ c) (h1 : c < n) : (⟨k, c, o, v⟩ : Acc).err n = 0 := by
  have hr : (⟨k, c, o, v⟩ : Acc).right = true := by
    unfold Acc.right
    rcases h with ⟨rfl, rfl, rfl⟩ | ⟨rfl, rfl⟩ | rfl <;> simp [h0]
  unfold Acc.err
  rw [if_pos hr, if_pos h1]
def gp (p0 : Ph) (step p : Nat) : Nat := match p0 with | .o1 _ => step | _ => p
def gq (p0 : Ph) (m : List Int) (q : Bool) : Bool := match p0 with | .o1 b => decide (b - 1 ≤ top m) | .o5 _ _ => true | _ => q
theorem ThOk.frame {l : Ly} {m m' : List Int} {be be' : Int} {f p p' : Nat} {ph : Ph} (h : ThOk l m be f p ph) (h1 : top m ≤ top m')
    (h2 : top m' = top m → top m < be → top m < be' ∧ ((bot m ≤ top m → f ≤ p) → (bot m' ≤ top m → f ≤ p')) ∧ whi m ≤ whi m' ∧ (∀ r, 0 ≤ r → r ≤ whi m → rc m r (top m) = rc m (whi m) (top m) → rc m' r (top m) = rc m' (whi m') (top m)) ∧ rc m' (whi m') (top m) = rc m (whi m) (top m)) : ThOk l m' be' f p' ph := by
  cases ph with
  | s1 t => exact ⟨h.1, by have := h.2; omega⟩
  | s2 t =>
    refine ⟨h.1, by have := h.2.1; omega, fun e => ?_⟩
    have e' : top m = t := by have := h.2.1; omega
    have h3 := h.2.2 e'
    subst e'
    have h4 := h2 e h3.1
    exact ⟨h4.1, h4.2.1 h3.2⟩
  | s3 t r =>
    refine ⟨h.1, by have := h.2.1; omega, h.2.2.1, h.2.2.2.1, fun e => ?_⟩
    have e' : top m = t := by have := h.2.1; omega
    have h3 := h.2.2.2.2 e'
    subst e'
    have h4 := h2 e h3.1
    exact ⟨h4.1, h4.2.1 h3.2.1, by have := h4.2.2.1; have := h3.2.2.1; omega, h4.2.2.2.1 r h.2.2.1 h3.2.2.1 h3.2.2.2⟩
  | s4 t x =>
    refine ⟨h.1, by have := h.2.1; omega, fun e => ?_⟩
    have e' : top m = t := by have := h.2.1; omega
    have h3 := h.2.2 e'
    subst e'
    have h4 := h2 e h3.1
    exact ⟨h4.1, h4.2.1 h3.2.1, by rw [h4.2.2.2.2]; exact h3.2.2⟩
  | _ => exact h
/-- With the memory as it was. -/
theorem ThOk.still {l : Ly} {m : List Int} {be be' : Int} {f p p' : Nat} {ph : Ph} (h : ThOk l m be f p ph) (h2 : top m < be → top m < be' ∧ ((bot m ≤ top m → f ≤ p) → (bot m ≤ top m → f ≤ p'))) : ThOk l m be' f p' ph :=
  h.frame (Int.le_refl _) fun _ hb => ⟨(h2 hb).1, (h2 hb).2, Int.le_refl _, fun _ _ _ e => e, rfl⟩
section
variable {l : Ly} {sz : Nat} {m : List Int} {a : Int} {ph : Nat → Ph} {f : Nat → Nat} {p : Nat} {q : Bool}
/-- The owner goes on, the memory as it was, no pop begun or ended. -/
theorem CI.quiet (h : CI l sz m a ph f p q) {x : Ph} {q' : Bool} (hf : x.fl = (ph 0).fl) (hq : q' = q) (ho : OwnOk l m a q x) : CI l sz m a (upP ph 0 x) f p q' := by
  subst hq
  have e0 : upP ph 0 x 0 = x := upP_same _ _ _
  have hfl : fli (upP ph 0 x 0) = fli (ph 0) := by rw [e0]; unfold fli; rw [hf]
  have hbe : beff m (upP ph 0 x 0) q' = beff m (ph 0) q' := by rw [e0]; unfold beff; rw [hf]
  refine ⟨h.ml, h.t0, by rw [hfl]; exact h.b0, by rw [hbe]; exact h.tb, h.r0, by rw [hfl]; exact h.sz, by rw [e0, hf]; exact h.qb, by rw [e0]; exact ho, fun k hk => ?_⟩
  rw [hbe, upP_other ph x (by omega)]
  exact h.th k hk
theorem CI.big (h : CI l sz m a ph f p q) (ly : DLay l sz) : 40 ≤ m.length := by
  have h1 := ly.big
  have h2 := h.ml
  rcases rings_cases ly.tk.1 ly.tk.2 with ⟨_, e⟩ | ⟨_, e⟩ | ⟨_, e⟩ <;> omega
theorem CI.own_step (h : CI l sz m a ph f p q) (ly : DLay l sz) {step : Nat} (hf : ∀ k, k < 3 → f k ≤ step) {pt k c o v : Int} (hp : (ph 0).ans l a pt = .ask k c o v) :
    (⟨k, c, o, v⟩ : Acc).err m.length = 0 ∧ CI l sz (mkM k c o v m) a (upP ph 0 ((ph 0).add l (tlM k c o v m))) f (gp (ph 0) step p) (gq (ph 0) m q) := by
  have hl := h.big ly
  have hdq := ly.dq
  have hr3 := rings3 ly
  have hown := h.own
  have hsz0 := h.sz
  have hb0 := h.b0
  have htb := h.tb
  have hqb := h.qb
  obtain ⟨hr0, hr1⟩ := h.r0
  have ht0 := h.t0
  have hs := size_cases hr0 (by omega)
  cases e : ph 0 with
  | id => rw [e] at hp; cases hp
  | un => rw [e] at hp; cases hp
  | fu => rw [e] at hp; cases hp
  | on a b c => rw [e] at hp; cases hp
  | s0 => rw [e] at hown; exact hown.elim
  | s1 _ => rw [e] at hown; exact hown.elim
  | s2 _ => rw [e] at hown; exact hown.elim
  | s3 _ _ => rw [e] at hown; exact hown.elim
  | s4 _ _ => rw [e] at hown; exact hown.elim
  | sn _ _ _ _ => rw [e] at hown; exact hown.elim
  | u0 =>
    rw [e] at hp
    injection hp with h1 h2 h3 h4
    subst h1 h2 h3 h4
    rw [(mk1 _ m).1, (mk1 _ m).2, hdq]
    refine ⟨err0 (.inl ⟨rfl, rfl, rfl⟩) (by omega) (by omega), ?_⟩
    exact h.quiet (by rw [e]; rfl) rfl (show bot m = bot m from rfl)
  | u1 b =>
    rw [e] at hp hown hsz0
    injection hp with h1 h2 h3 h4
    subst h1 h2 h3 h4
    rw [(mk1 _ m).1, (mk1 _ m).2, hdq]
    refine ⟨err0 (.inl ⟨rfl, rfl, rfl⟩) (by omega) (by omega), ?_⟩
    refine h.quiet (by rw [e]; rfl) rfl ⟨hown, ht0, Int.le_refl _, ?_⟩
    have h5 : b = bot m := hown
    simp only [fli, Ph.fl] at hsz0
    show b - top m ≤ _
    rw [h5]
    simpa using hsz0
  | u2 b t =>
    rw [e] at hp hown
    injection hp with h1 h2 h3 h4
    subst h1 h2 h3 h4
    obtain ⟨g1, g2, g3, g4⟩ := hown
    rw [(mk1 _ m).1, (mk1 _ m).2, hdq]
    refine ⟨err0 (.inl ⟨rfl, rfl, rfl⟩) (by omega) (by omega), ?_⟩
    have hw : cel m (19 + 2) = whi m := rfl
    simp only [Ph.add, hw]
    split
    · rename_i hge
      split
      · exact h.quiet (by rw [e]; rfl) rfl trivial
      · rename_i hr
        refine h.quiet (by rw [e]; rfl) rfl ⟨g1, rfl, g2, g3, by omega, by omega, 0, by have := sizeN_in (whi m); omega, rfl, fun i hi hi2 => by omega⟩
    · exact h.quiet (by rw [e]; rfl) rfl ⟨g1, rfl, g2, g3, by omega⟩
  | mv b r t ms =>
    rw [e] at hp hown
    obtain ⟨g1, g2, g3, g4, g5, g6, kk, g7, g8, g9⟩ := hown
    subst g2
    have hdr := moves_drop ly hr0 g6 g3 g5 kk g7
    by_cases hk : t + kk < b
    · rw [if_pos hk] at hdr
      rw [hdr] at g8
      subst g8
      injection hp with h1 h2 h3 h4
      subst h1 h2 h3 h4
      rw [(mk1 _ m).1, (mk1 _ m).2]
      have hpl := plc_in hr0 (by omega) (t + kk)
      have hpl2 := plc_lt ly hr0 (by omega) (t + kk)
      have := h.ml
      refine ⟨err0 (.inl ⟨rfl, rfl, rfl⟩) (by dsimp only; omega) (by dsimp only; omega), ?_⟩
      refine h.quiet (by rw [e]; rfl) rfl ⟨g1, rfl, g3, g4, g5, g6, kk, hk, hdr.symm, g9, rfl⟩
    · rw [if_neg hk] at hdr
      rw [hdr] at g8
      subst g8
      injection hp with h1 h2 h3 h4
      subst h1 h2 h3 h4
      rw [(mk2 _ _ m).1, (mk2 _ _ m).2, hdq]
      have hs2 := size_cases (r := whi m + 1) (by omega) (by omega)
      refine ⟨err0 (.inr (.inl ⟨rfl, rfl⟩)) (by omega) (by omega), ?_⟩
      obtain ⟨k1, k2, k3⟩ := whi_st (m := m) (v := whi m + 1) (by omega)
      have sm := same_low (m := m) (c := 21) (v := whi m + 1) (by omega) (by omega)
      show CI l sz (m.set 21 (whi m + 1)) a (upP ph 0 (.pt b t (whi m + 1))) f p q
      have e0 : upP ph 0 (.pt b t (whi m + 1)) 0 = .pt b t (whi m + 1) := upP_same _ _ _
      have hcp : ∀ i : Int, t ≤ i → i < b → rc m (whi m + 1) i = rc m (whi m) i := fun i h1 h2 => g9 i h1 (by omega)
      simp only [e, fli, Ph.fl] at hsz0 hb0
      simp only [e, beff, Ph.fl] at htb
      refine ⟨by rw [sm.len]; exact h.ml, by rw [k1]; exact ht0, by rw [e0, k2]; simpa [fli, Ph.fl] using hb0, ?_, by rw [k3]; omega, ?_, ?_, ?_, fun j hj => ?_⟩
      · rw [e0, k1]; simp only [beff, Ph.fl, k2]; simpa using htb
      · rw [e0, k1, k2, k3]; simp only [fli, Ph.fl]; simp at hsz0 ⊢; omega
      · rw [e0]; intro h1; cases h1
      · rw [e0]
        exact ⟨by rw [k2]; exact g1, by rw [k3], g3, by rw [k1]; exact g4, by omega⟩
      · have h9 := h.th j hj
        rw [e0, upP_other ph _ (by omega)]
        rw [e] at h9
        refine h9.frame (by rw [k1]; exact Int.le_refl _) (fun _ hb => ⟨?_, ?_, by omega, fun r' i0 i1 ih => ?_, ?_⟩)
        · simp only [beff, Ph.fl, k2] at hb ⊢; exact hb
        · rw [k2]; exact id
        · have hb2 : top m < b := by simp only [beff, Ph.fl] at hb; simp at hb; omega
          rw [sm.rc _ _ i0 (by omega), k3, sm.rc _ _ (by omega) (by omega), hcp _ g4 hb2]
          exact ih
        · have hb2 : top m < b := by simp only [beff, Ph.fl] at hb; simp at hb; omega
          rw [k3, sm.rc _ _ (by omega) (by omega), hcp _ g4 hb2]
  | mx b r t mm ms x =>
    rw [e] at hp hown
    obtain ⟨g1, g2, g3, g4, g5, g6, kk, g7, g8, g9, g10⟩ := hown
    subst g2
    have hdr := moves_drop ly hr0 g6 g3 g5 kk (by omega)
    rw [if_pos g7] at hdr
    rw [hdr] at g8
    injection g8 with g8 g8'
    subst g8 g8'
    injection hp with h1 h2 h3 h4
    subst h1 h2 h3 h4
    rw [(mk2 _ _ m).1, (mk2 _ _ m).2]
    have hpl := plc_in (r := whi m + 1) (by omega) (by omega) (t + kk)
    have hpl2 := plc_lt ly (r := whi m + 1) (by omega) g6 (t + kk)
    have hml := h.ml
    have hs2 := size_cases (r := whi m + 1) (by omega) (by omega)
    refine ⟨err0 (.inr (.inl ⟨rfl, rfl⟩)) (by dsimp only; omega) (by dsimp only; omega), ?_⟩
    obtain ⟨k0, k1, k2, k3, k4⟩ := ring_set (m := m) (r := whi m + 1) (i := t + kk) (v := x) (by omega) (by omega) (by omega)
    dsimp only
    show CI l sz (m.set (plc (whi m + 1) (t + kk)).toNat x) a (upP ph 0 (.mv b (whi m) t _)) f p q
    generalize hms : (movesOf l 0 (whi m) t b).drop (kk + 1) = ms' at *
    have e0 : upP ph 0 (.mv b (whi m) t ms') 0 = .mv b (whi m) t ms' := upP_same _ _ _
    simp only [e, fli, Ph.fl] at hsz0 hb0
    simp only [e, beff, Ph.fl] at htb
    have hlow : ∀ r' i' : Int, 0 ≤ r' → r' ≤ whi m → rc (m.set (plc (whi m + 1) (t + kk)).toNat x) r' i' = rc m r' i' := fun r' i' j0 j1 => by
      rw [k4 r' i' j0 (by omega), if_neg (plc_ne (by omega) (by omega) j0 (by omega) (.inl (by omega)))]
    refine ⟨by rw [k0]; exact hml, by rw [k1]; exact ht0, by rw [e0, k2]; simpa [fli, Ph.fl] using hb0, ?_, by rw [k3]; omega, ?_, ?_, ?_, fun j hj => ?_⟩
    · rw [e0, k1]; simp only [beff, Ph.fl, k2]; simpa using htb
    · rw [e0, k1, k2, k3]; simp only [fli, Ph.fl]; simpa using hsz0
    · rw [e0]; intro h1; cases h1
    · rw [e0]
      refine ⟨by rw [k2]; exact g1, by rw [k3], g3, by rw [k1]; exact g4, g5, g6, kk + 1, by omega, hms.symm, fun i i0 i1 => ?_⟩
      rw [hlow _ _ hr0 (Int.le_refl _), k4 _ _ (by omega) (by omega)]
      by_cases hi : i = t + kk
      · subst hi
        rw [if_pos rfl]
        exact g10
      · rw [if_neg (fun q => plc_ne (r := whi m + 1) (r' := whi m + 1) (i := i) (i' := t + kk) (by omega) (by omega) (by omega) (by omega) (.inr ⟨rfl, by omega, by omega⟩) q.symm)]
        exact g9 i i0 (by omega)
    · have h9 := h.th j hj
      rw [e0, upP_other ph _ (by omega)]
      rw [e] at h9
      refine h9.frame (by rw [k1]; exact Int.le_refl _) (fun _ hb => ⟨?_, ?_, by omega, fun r' i0 i1 ih => ?_, ?_⟩)
      · simp only [beff, Ph.fl, k2] at hb ⊢; exact hb
      · rw [k2]; exact id
      · rw [hlow _ _ i0 i1, k3, hlow _ _ hr0 (Int.le_refl _)]; exact ih
      · rw [k3, hlow _ _ hr0 (Int.le_refl _)]
  | pt b t r =>
    rw [e] at hp hown
    obtain ⟨g1, g2, g3, g4, g5⟩ := hown
    subst g2
    injection hp with h1 h2 h3 h4
    subst h1 h2 h3 h4
    simp only [e, fli, Ph.fl] at hsz0 hb0
    simp only [e, beff, Ph.fl] at htb
    simp at hsz0 hb0 htb
    rw [place_eq ly hr0 (by omega) (by omega), (mk2 _ _ m).1, (mk2 _ _ m).2]
    have hpl := plc_in (r := whi m) (by omega) (by omega) b
    have hpl2 := plc_lt ly (r := whi m) (by omega) hr1 b
    have hml := h.ml
    refine ⟨err0 (.inr (.inl ⟨rfl, rfl⟩)) (by omega) (by omega), ?_⟩
    obtain ⟨k0, k1, k2, k3, k4⟩ := ring_set (m := m) (r := whi m) (i := b) (v := a) (by omega) (by omega) (by omega)
    show CI l sz (m.set (plc (whi m) b).toNat a) a (upP ph 0 (.bt b t)) f p q
    have e0 : upP ph 0 (.bt b t) 0 = .bt b t := upP_same _ _ _
    have htop : top m < b → ∀ r' : Int, 0 ≤ r' → r' ≤ whi m → rc (m.set (plc (whi m) b).toNat a) r' (top m) = rc m r' (top m) := fun hb r' j0 j1 => by
      rw [k4 r' _ j0 (by omega), if_neg]
      intro q
      by_cases hrr : r' = whi m
      · exact plc_ne (r := r') (r' := whi m) (i := top m) (i' := b) (by omega) (by omega) (by omega) (by omega) (.inr ⟨hrr, hb, by rw [hrr]; omega⟩) q.symm
      · exact plc_ne (r := r') (r' := whi m) (i := top m) (i' := b) (by omega) (by omega) (by omega) (by omega) (.inl hrr) q.symm
    refine ⟨by rw [k0]; exact hml, by rw [k1]; exact ht0, by rw [e0, k2]; simp only [fli, Ph.fl]; simpa using hb0, ?_, by rw [k3]; omega, ?_, ?_, ?_, fun j hj => ?_⟩
    · rw [e0, k1]; simp only [beff, Ph.fl, k2]; simpa using htb
    · rw [e0, k1, k2, k3]; simp only [fli, Ph.fl]; simpa using hsz0
    · rw [e0]; intro h1; cases h1
    · rw [e0]
      exact ⟨by rw [k2]; exact g1, g3, by rw [k1]; exact g4, by rw [k3]; exact g5, by rw [k3, k4 _ _ hr0 (by omega), if_pos rfl]⟩
    · have h9 := h.th j hj
      rw [e0, upP_other ph _ (by omega)]
      rw [e] at h9
      refine h9.frame (by rw [k1]; exact Int.le_refl _) (fun _ hb => ⟨?_, ?_, by omega, fun r' i0 i1 ih => ?_, ?_⟩)
      · simp only [beff, Ph.fl, k2] at hb ⊢; exact hb
      · rw [k2]; exact id
      · have hb2 : top m < b := by simp only [beff, Ph.fl] at hb; simp at hb; omega
        rw [htop hb2 _ i0 i1, k3, htop hb2 _ hr0 (Int.le_refl _)]; exact ih
      · have hb2 : top m < b := by simp only [beff, Ph.fl] at hb; simp at hb; omega
        rw [k3, htop hb2 _ hr0 (Int.le_refl _)]
  | bt b t =>
    rw [e] at hp hown
    obtain ⟨g1, g3, g4, g5, g6⟩ := hown
    injection hp with h1 h2 h3 h4
    subst h1 h2 h3 h4
    simp only [e, fli, Ph.fl] at hsz0 hb0
    simp only [e, beff, Ph.fl] at htb
    simp at hsz0 hb0 htb
    rw [(mk2 _ _ m).1, (mk2 _ _ m).2, hdq]
    refine ⟨err0 (.inr (.inl ⟨rfl, rfl⟩)) (by omega) (by omega), ?_⟩
    obtain ⟨k1, k2, k3⟩ := bot_st (m := m) (v := b + 1) (by omega)
    have sm := same_low (m := m) (c := 20) (v := b + 1) (by omega) (by omega)
    show CI l sz (m.set 20 (b + 1)) a (upP ph 0 .un) f p q
    have e0 : upP ph 0 .un 0 = .un := upP_same _ _ _
    refine ⟨by rw [sm.len]; exact h.ml, by rw [k1]; exact ht0, by rw [e0, k2]; simp only [fli, Ph.fl]; simp; omega, ?_, by rw [k3]; omega, ?_, ?_, ?_, fun j hj => ?_⟩
    · rw [e0, k1]; simp only [beff, Ph.fl, k2]; simp; omega
    · rw [e0, k1, k2, k3]; simp only [fli, Ph.fl]; simp; omega
    · rw [e0]; intro h1; cases h1
    · rw [e0]; trivial
    · have h9 := h.th j hj
      rw [e0, upP_other ph _ (by omega)]
      rw [e] at h9
      refine h9.frame (by rw [k1]; exact Int.le_refl _) (fun _ hb => ⟨?_, ?_, by omega, fun r' i0 i1 ih => ?_, ?_⟩)
      · simp only [beff, Ph.fl, k2] at hb ⊢; simp at hb ⊢; omega
      · rw [k2]; intro h1 h2; exact h1 (by omega)
      · rw [sm.rc _ _ i0 (by omega), k3, sm.rc _ _ hr0 (by omega)]; exact ih
      · rw [k3, sm.rc _ _ hr0 (by omega)]
  | o0 =>
    rw [e] at hp
    injection hp with h1 h2 h3 h4
    subst h1 h2 h3 h4
    rw [(mk1 _ m).1, (mk1 _ m).2, hdq]
    refine ⟨err0 (.inl ⟨rfl, rfl, rfl⟩) (by omega) (by omega), ?_⟩
    exact h.quiet (by rw [e]; rfl) rfl (show bot m = bot m from rfl)
  | o1 b =>
    rw [e] at hp hown
    have g1 : b = bot m := hown
    injection hp with h1 h2 h3 h4
    subst h1 h2 h3 h4
    simp only [e, fli, Ph.fl] at hsz0 hb0
    simp only [e, beff, Ph.fl] at htb
    simp at hsz0 hb0 htb
    rw [(mk2 _ _ m).1, (mk2 _ _ m).2, hdq]
    refine ⟨err0 (.inr (.inl ⟨rfl, rfl⟩)) (by omega) (by omega), ?_⟩
    obtain ⟨k1, k2, k3⟩ := bot_st (m := m) (v := b - 1) (by omega)
    have sm := same_low (m := m) (c := 20) (v := b - 1) (by omega) (by omega)
    show CI l sz (m.set 20 (b - 1)) a (upP ph 0 (.o2 b)) f step (decide (b - 1 ≤ top m))
    have e0 : upP ph 0 (.o2 b) 0 = .o2 b := upP_same _ _ _
    refine ⟨by rw [sm.len]; exact h.ml, by rw [k1]; exact ht0, by rw [e0, k2]; simp only [fli, Ph.fl]; simp; omega, ?_, by rw [k3]; omega, ?_, ?_, ?_, fun j hj => ?_⟩
    · rw [e0, k1]
      simp only [beff, Ph.fl, k2, Bool.true_and, decide_eq_true_eq]
      split <;> omega
    · rw [e0, k1, k2, k3]; simp only [fli, Ph.fl]; simp; omega
    · rw [e0, k1, k2]; intro _ h1; exact of_decide_eq_true h1
    · rw [e0]; exact k2
    · have h9 := h.th j hj
      rw [e0, upP_other ph _ (by omega)]
      rw [e] at h9
      refine h9.frame (by rw [k1]; exact Int.le_refl _) (fun _ hb => ⟨?_, fun _ _ => hf j (by omega), by omega, fun r' i0 i1 ih => ?_, ?_⟩)
      · simp only [beff, Ph.fl, k2, Bool.true_and, decide_eq_true_eq] at hb ⊢
        simp at hb
        split <;> omega
      · rw [sm.rc _ _ i0 (by omega), k3, sm.rc _ _ hr0 (by omega)]; exact ih
      · rw [k3, sm.rc _ _ hr0 (by omega)]
  | o2 b =>
    rw [e] at hp hown
    have g1 : bot m = b - 1 := hown
    injection hp with h1 h2 h3 h4
    subst h1 h2 h3 h4
    simp only [e, beff, Ph.fl] at htb
    rw [e] at hqb
    rw [(mk1 _ m).1, (mk1 _ m).2, hdq]
    refine ⟨err0 (.inl ⟨rfl, rfl, rfl⟩) (by omega) (by omega), ?_⟩
    have hw : cel m 19 = top m := rfl
    simp only [Ph.add, hw]
    split
    · rename_i hlt
      refine h.quiet (by rw [e]; rfl) rfl ⟨g1, ?_⟩
      split at htb <;> omega
    · rename_i hlt
      refine h.quiet (by rw [e]; rfl) rfl ⟨g1, ht0, Int.le_refl _, by omega, fun hl => ?_⟩
      cases hq : q with
      | false => rfl
      | true => have := hqb rfl hq; omega
  | oe b =>
    rw [e] at hp hown
    obtain ⟨g1, g2⟩ := hown
    injection hp with h1 h2 h3 h4
    subst h1 h2 h3 h4
    simp only [e, fli, Ph.fl] at hsz0 hb0
    rw [(mk2 _ _ m).1, (mk2 _ _ m).2, hdq]
    refine ⟨err0 (.inr (.inl ⟨rfl, rfl⟩)) (by omega) (by omega), ?_⟩
    obtain ⟨k1, k2, k3⟩ := bot_st (m := m) (v := b) (by omega)
    have sm := same_low (m := m) (c := 20) (v := b) (by omega) (by omega)
    show CI l sz (m.set 20 b) a (upP ph 0 (.on 0 false 2)) f p q
    have e0 : upP ph 0 (.on 0 false 2) 0 = .on 0 false 2 := upP_same _ _ _
    refine ⟨by rw [sm.len]; exact h.ml, by rw [k1]; exact ht0, by rw [e0, k2]; simp only [fli, Ph.fl]; simp; omega, ?_, by rw [k3]; omega, ?_, ?_, ?_, fun j hj => ?_⟩
    · rw [e0, k1]; simp only [beff, Ph.fl, k2]; simp; omega
    · rw [e0, k1, k2, k3]; simp only [fli, Ph.fl]; simp; have := sizeN_in (whi m); omega
    · rw [e0]; intro h1; cases h1
    · rw [e0]; trivial
    · have h9 := h.th j hj
      rw [e0, upP_other ph _ (by omega)]
      rw [e] at h9
      refine h9.frame (by rw [k1]; exact Int.le_refl _) (fun _ hb => ?_)
      simp only [beff, Ph.fl] at hb
      have hb2 : top m < bot m + 1 := by cases q <;> simp at hb <;> omega
      omega
  | o3 b t =>
    rw [e] at hp hown
    injection hp with h1 h2 h3 h4
    subst h1 h2 h3 h4
    rw [(mk1 _ m).1, (mk1 _ m).2, hdq]
    refine ⟨err0 (.inl ⟨rfl, rfl, rfl⟩) (by omega) (by omega), ?_⟩
    exact h.quiet (by rw [e]; rfl) rfl ⟨hown.1, hown.2.1, hown.2.2.1, hown.2.2.2.1, hown.2.2.2.2, rfl⟩
  | o4 b t r =>
    rw [e] at hp hown
    obtain ⟨g1, g2, g3, g4, g5, g6⟩ := hown
    subst g6
    injection hp with h1 h2 h3 h4
    subst h1 h2 h3 h4
    have hpl := plc_in (r := whi m) hr0 (by omega) (b - 1)
    have hpl2 := plc_lt ly (r := whi m) hr0 hr1 (b - 1)
    have hml := h.ml
    rw [place_eq ly hr0 hr1 (by omega), (mk1 _ m).1, (mk1 _ m).2]
    refine ⟨err0 (.inl ⟨rfl, rfl, rfl⟩) (by omega) (by omega), ?_⟩
    simp only [Ph.add]
    split
    · exact h.quiet (by rw [e]; rfl) rfl ⟨g1, by omega, by omega, rfl⟩
    · rename_i hne
      have hq := g5 (by omega)
      subst hq
      simp only [e, fli, Ph.fl] at hsz0 hb0
      simp only [e, beff, Ph.fl] at htb
      simp at hsz0 hb0 htb
      show CI l sz m a (upP ph 0 (.on _ true 2)) f p false
      have e0 : ∀ y, upP ph 0 (.on y true 2) 0 = .on y true 2 := fun y => upP_same _ _ _
      refine ⟨hml, ht0, by rw [e0]; simp only [fli, Ph.fl]; simp; omega, by rw [e0]; simp only [beff, Ph.fl]; simp; exact htb, ⟨hr0, hr1⟩, by rw [e0]; simp only [fli, Ph.fl]; simp; omega, (by rw [e0]; intro h1; cases h1), by rw [e0]; trivial, fun j hj => ?_⟩
      have h9 := h.th j hj
      rw [e0, upP_other ph _ (by omega)]
      rw [e] at h9
      exact h9.still (fun hb => ⟨by simp only [beff, Ph.fl] at hb ⊢; simpa using hb, id⟩)
  | o5 b x =>
    rw [e] at hp hown
    obtain ⟨g1, g2, g3, g4⟩ := hown
    injection hp with h1 h2 h3 h4
    subst h1 h2 h3 h4
    simp only [e, fli, Ph.fl] at hsz0 hb0
    simp only [e, beff, Ph.fl] at htb
    rw [(mk3 _ _ _ m).1, (mk3 _ _ _ m).2, hdq]
    refine ⟨err0 (.inr (.inr rfl)) (by omega) (by omega), ?_⟩
    have hw : cel m 19 = top m := rfl
    rw [hw]
    have htt : top m ≤ b := by split at htb <;> omega
    by_cases hc : top m = b - 1
    · rw [if_pos hc]
      obtain ⟨k1, k2, k3⟩ := top_st (m := m) (v := b) (by omega)
      have sm := same_low (m := m) (c := 19) (v := b) (by omega) (by omega)
      simp only [hc, decide_true]
      show CI l sz (m.set 19 b) a (upP ph 0 (.o6 b x true)) f p true
      have e0 : upP ph 0 (.o6 b x true) 0 = .o6 b x true := upP_same _ _ _
      refine ⟨by rw [sm.len]; exact h.ml, by rw [k1]; omega, by rw [e0, k2]; simp only [fli, Ph.fl]; simp; omega, ?_, by rw [k3]; exact ⟨hr0, hr1⟩, ?_, ?_, ?_, fun j hj => ?_⟩
      · rw [e0, k1]; simp only [beff, Ph.fl, k2]; simp; omega
      · rw [e0, k1, k2, k3]; simp only [fli, Ph.fl]; simp at hsz0 ⊢; have := sizeN_in (whi m); omega
      · rw [e0, k1, k2]; intro _ _; omega
      · rw [e0]; exact ⟨by rw [k2]; exact g1, k1, rfl⟩
      · have h9 := h.th j hj
        rw [e0, upP_other ph _ (by omega)]
        rw [e] at h9
        exact h9.frame (by rw [k1]; omega) (fun h1 _ => by omega)
    · rw [if_neg hc]
      simp only [hc, decide_false]
      have htop : top m = b := by omega
      show CI l sz m a (upP ph 0 (.o6 b x false)) f p true
      have e0 : upP ph 0 (.o6 b x false) 0 = .o6 b x false := upP_same _ _ _
      refine ⟨h.ml, ht0, by rw [e0]; simp only [fli, Ph.fl]; simp; omega, by rw [e0]; simp only [beff, Ph.fl]; simp; omega, ⟨hr0, hr1⟩, by rw [e0]; simp only [fli, Ph.fl]; simp; have := sizeN_in (whi m); omega, (by rw [e0]; intro _ _; omega), by rw [e0]; exact ⟨g1, htop, rfl⟩, fun j hj => ?_⟩
      have h9 := h.th j hj
      rw [e0, upP_other ph _ (by omega)]
      rw [e] at h9
      refine h9.still (fun hb => ?_)
      simp only [beff, Ph.fl] at hb
      have hb2 : top m < bot m + 1 := by cases q <;> simp at hb <;> omega
      omega
  | o6 b x c' =>
    rw [e] at hp hown
    obtain ⟨g1, g2, g3⟩ := hown
    injection hp with h1 h2 h3 h4
    subst h1 h2 h3 h4
    rw [(mk2 _ _ m).1, (mk2 _ _ m).2, hdq]
    refine ⟨err0 (.inr (.inl ⟨rfl, rfl⟩)) (by omega) (by omega), ?_⟩
    obtain ⟨k1, k2, k3⟩ := bot_st (m := m) (v := b) (by omega)
    have sm := same_low (m := m) (c := 20) (v := b) (by omega) (by omega)
    show CI l sz (m.set 20 b) a (upP ph 0 (.on _ c' 5)) f p q
    have e0 : ∀ y, upP ph 0 (.on y c' 5) 0 = .on y c' 5 := fun y => upP_same _ _ _
    refine ⟨by rw [sm.len]; exact h.ml, by rw [k1]; exact ht0, by rw [e0, k2]; simp only [fli, Ph.fl]; simp; omega, ?_, by rw [k3]; exact ⟨hr0, hr1⟩, ?_, ?_, ?_, fun j hj => ?_⟩
    · rw [e0, k1]; simp only [beff, Ph.fl, k2]; simp; omega
    · rw [e0, k1, k2, k3]; simp only [fli, Ph.fl]; simp; have := sizeN_in (whi m); omega
    · rw [e0]; intro h1; cases h1
    · rw [e0]; trivial
    · have h9 := h.th j hj
      rw [e0, upP_other ph _ (by omega)]
      rw [e] at h9
      refine h9.frame (by rw [k1]; exact Int.le_refl _) (fun _ hb => ?_)
      simp only [beff, Ph.fl] at hb
      have hb2 : top m < bot m + 1 := by cases q <;> simp at hb <;> omega
      omega
end
end Go.Proofs.Ytdjglkpcdhkodaa
