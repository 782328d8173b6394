/- The deque's plain law: an access of a thief, and the order of what is done. No program in sight. -/
import Derived.Test.YtdjglkpcdhkodaaDqO
namespace Go.Proofs.Ytdjglkpcdhkodaa
open Go.RowKit
set_option linter.unusedVariables false
/-- The record of a steal that is over. -/
def RecT (x : Ph) (step f0 : Nat) (D : List DoneD) : Prop :=
  match x.fin with
  | none => D = []
  | some (v, is, e) => ∃ d, D = [d] ∧ d.op.kind = 10 ∧ d.val = v ∧ d.is = is ∧ d.err = e ∧ d.last = step ∧ d.first = f0
section
variable {l : Ly} {sz : Nat} {row0 m : List Int} {a : Int} {ph : Nat → Ph} {f : Nat → Nat} {p : Nat} {q : Bool} {step nx : Nat} {pre post : List Ent} {recs D : List DoneD}
theorem recT_none {x : Ph} {step f0 : Nat} (hD : RecT x step f0 D) (h : x.fin = none) : D = [] := by
  unfold RecT at hD
  rw [h] at hD
  exact hD
theorem recT_some {x : Ph} {v e : Int} {is : Bool} {step f0 : Nat} (hD : RecT x step f0 D) (h : x.fin = some (v, is, e)) : ∃ d, D = [d] ∧ d.op.kind = 10 ∧ d.val = v ∧ d.is = is ∧ d.err = e ∧ d.last = step ∧ d.first = f0 := by
  unfold RecT at hD
  rw [h] at hD
  exact hD
theorem filt1 {d : DoneD} (h : d.err ≠ 9) : ([d].filter fun d => decide (d.err ≠ 9)) = [d] := by simp [h]
/-- Nothing is turned. -/
theorem OutLI.still (li : LI row0 m (ph 0) p q step pre post) (si : SI m (ph 0) a nx recs step) : OutLI row0 m (ph 0) p q step pre post a nx recs [] :=
  OutLI.quiet li si rfl rfl ⟨rfl, rfl⟩ (fun _ _ _ => rfl) (fun _ _ h => h) si.w6
/-- A record at its point that turns nothing, and is no steal that went. -/
theorem OutLI.rec_ {d : DoneD} (li : LI row0 m (ph 0) p q step pre post) (si : SI m (ph 0) a nx recs step) (hd : fitsM (Lc m) d = (Lc m, true)) (h1 : d.first ≤ step) (h2 : d.last = step) (hk : d.op.kind = 10) (hi : d.is = false) (he : d.err ≠ 9) : OutLI row0 m (ph 0) p q step pre post a nx recs [d] := by
  obtain ⟨pre', post', p1, p2⟩ := li.app (p0' := ph 0) (m' := m) rfl hd (fun _ _ _ h => h) h1 h2
  refine ⟨⟨pre', post', p1, by rw [filt1 he]; exact p2⟩, ?_⟩
  have hs2 : SI m (ph 0) a nx recs (step + 1) := si.keep (Int.le_refl _) (List.Sublist.refl _) (Nat.le_refl _) (pnd_le _) si.w6 (Nat.le_succ _)
  exact hs2.add (fun _ => hi) (fun h => by rw [hk] at h; cases h) (fun h => by rw [hk] at h; cases h)
theorem fl_cases {x : Ph} (h : x.fl = true) (h6 : ∀ b y c, x ≠ .o6 b y c) : ∀ (m : List Int) (q : Bool) (rp r0 : List Int), FlRel m q rp r0 x ↔ (if q = true then (r0 = [] ∧ ((top m = bot m ∧ rp = [rc m (whi m) (bot m)]) ∨ (top m = bot m + 1 ∧ rp = []))) else rp = r0 ++ [rc m (whi m) (bot m)]) := by
  intro m q rp r0
  cases x with
  | o6 b y c => exact absurd rfl (h6 b y c)
  | o2 _ => rfl
  | oe _ => rfl
  | o3 _ _ => rfl
  | o4 _ _ _ => rfl
  | o5 _ _ => rfl
  | _ => cases h
theorem th_li (ci : CI l sz m a ph f p q) (ly : DLay l sz) (hf : ∀ k, k < 3 → f k ≤ step) (li : LI row0 m (ph 0) p q step pre post) (si : SI m (ph 0) a nx recs step) {i : Nat} (hi : i = 1 ∨ i = 2) {pt a' k c o v : Int} (hp : (ph i).ans l a' pt = .ask k c o v)
    (hD : RecT ((ph i).add l (tlM k c o v m)) step (f i) D) : OutLI row0 (mkM k c o v m) (ph 0) p q step pre post a nx recs D := by
  have hl := ci.big ly
  have hdq := ly.dq
  have hr3 := rings3 ly
  have ht := ci.th i hi
  obtain ⟨hr0, hr1⟩ := ci.r0
  have ht0 := ci.t0
  have hbe := beff_le m (ph 0) q
  have hfi := hf i (by omega)
  cases e : ph i with
  | s0 =>
    rw [e] at hp hD
    injection hp with h1 h2 h3 h4
    subst h1 h2 h3 h4
    rw [(mk1 _ m).1]
    obtain rfl := recT_none hD rfl
    exact OutLI.still li si
  | s1 t =>
    rw [e] at hp ht hD
    injection hp with h1 h2 h3 h4
    subst h1 h2 h3 h4
    rw [(mk1 _ m).1]
    rw [(mk1 _ m).2, hdq] at hD
    have hw : cel m (19 + 1) = bot m := rfl
    simp only [Ph.add, hw] at hD
    by_cases hc : bot m ≤ t
    · rw [if_pos hc] at hD
      obtain ⟨d, rfl, d1, d3, d4, d5, d6, d7⟩ := recT_some hD rfl
      have ht2 : t ≤ top m := ht.2
      exact OutLI.rec_ li si (by rw [Lc_nil (by omega)]; exact fits_none d1 d4 d5) (by omega) d6 d1 d4 (by omega)
    · rw [if_neg hc] at hD
      obtain rfl := recT_none hD rfl
      exact OutLI.still li si
  | s2 t =>
    rw [e] at hp hD
    injection hp with h1 h2 h3 h4
    subst h1 h2 h3 h4
    rw [(mk1 _ m).1]
    obtain rfl := recT_none hD rfl
    exact OutLI.still li si
  | s3 t r =>
    rw [e] at hp hD
    injection hp with h1 h2 h3 h4
    subst h1 h2 h3 h4
    rw [(mk1 _ m).1]
    obtain rfl := recT_none hD rfl
    exact OutLI.still li si
  | s4 t x =>
    rw [e] at hp ht hD
    obtain ⟨g1, g2, g3⟩ := ht
    injection hp with h1 h2 h3 h4
    subst h1 h2 h3 h4
    rw [(mk3 _ _ _ m).2, hdq] at hD
    rw [(mk3 _ _ _ m).1, hdq]
    have hw : cel m 19 = top m := rfl
    rw [hw] at hD ⊢
    by_cases hc : top m = t
    · rw [if_pos hc]
      obtain ⟨g4, g5, g6⟩ := g3 hc
      subst hc
      simp only [Ph.add, decide_true, if_true] at hD
      obtain ⟨d, rfl, d1, d3, d4, d5, d6, d7⟩ := recT_some hD rfl
      obtain ⟨k1, k2, k3⟩ := top_st (m := m) (v := top m + 1) (by omega)
      have sm := same_low (m := m) (c := 19) (v := top m + 1) (by omega) (by omega)
      show OutLI row0 (m.set 19 (top m + 1)) (ph 0) p q step pre post a nx recs [d]
      have hLp : Lp m (ph 0) = x :: Lp (m.set 19 (top m + 1)) (ph 0) := by
        unfold Lp
        rw [k1, k2, k3, show (bot m + fli (ph 0) - top m).toNat = (bot m + fli (ph 0) - (top m + 1)).toNat + 1 by omega, rowM_succ, g6]
        congr 1
        exact (rowM_congr fun i _ _ => sm.rc _ _ hr0 (by omega)).symm
      refine ⟨?_, si.win hLp rfl k2 rfl rfl si.w6 d1 d4 d3 d6⟩
      by_cases hb : bot m ≤ top m
      · have hflq : (ph 0).fl = true ∧ q = true ∧ top m = bot m := by
          unfold beff at g4
          cases hfl : (ph 0).fl with
          | false => rw [hfl] at g4; simp at g4; omega
          | true =>
            cases hq : q with
            | false => rw [hfl, hq] at g4; simp at g4; omega
            | true => rw [hfl, hq] at g4; simp at g4; exact ⟨rfl, rfl, by omega⟩
        obtain ⟨hfl, rfl, htb⟩ := hflq
        have h6 : ∀ b y c, ph 0 ≠ .o6 b y c := fun b y c e6 => by
          have := ci.own
          rw [e6] at this
          obtain ⟨x1, x2, _⟩ := this
          omega
        obtain ⟨pre', post', p1, p2⟩ := li.win (m' := m.set 19 (top m + 1)) hfl (d := d) ((Lc_nil (by omega)).trans (Lc_nil (by omega)).symm) (fun rp r0 hr => by
          rw [fl_cases hfl h6] at hr
          simp only [if_true] at hr
          obtain ⟨e1, ⟨_, e2⟩ | ⟨e3, _⟩⟩ := hr
          · refine ⟨[], ?_, ?_⟩
            · rw [e2, ← htb]
              exact fits_steal d1 d4 (by rw [d3, g6])
            · rw [fl_cases hfl h6]
              simp only [if_true]
              exact ⟨e1, .inr ⟨by omega, by first | rfl | trivial⟩⟩
          · omega) (by rw [d7]; exact g5 hb) d6
        exact ⟨pre', post', p1, by rw [filt1 (by omega)]; exact p2⟩
      · have hq : (ph 0).fl = true → q = false := fun hfl => by
          cases hq : q with
          | false => rfl
          | true => have := ci.qb hfl hq; omega
        obtain ⟨pre', post', p1, p2⟩ := li.app (p0' := ph 0) (m' := m.set 19 (top m + 1)) rfl (d := d) (by
          have e1 : Lc (m.set 19 (top m + 1)) = rowM m (whi m) (top m + 1) (bot m - (top m + 1)).toNat := by
            unfold Lc
            rw [k1, k2, k3]
            exact rowM_congr fun i _ _ => sm.rc _ _ hr0 (by omega)
          rw [e1, Lc_cons (by omega), ← g6]
          exact fits_steal d1 d4 d3) (fun hfl rp r0 hr => by
            have h6 : ∀ b y c, ph 0 ≠ .o6 b y c := fun b y c e6 => by
              have := ci.own
              rw [e6] at this
              obtain ⟨x1, x2, _⟩ := this
              omega
            rw [fl_cases hfl h6, hq hfl] at hr ⊢
            simp only [Bool.false_eq_true, if_false] at hr ⊢
            rw [k2, k3, sm.rc _ _ hr0 (by omega)]
            exact hr) (by omega) d6
        exact ⟨pre', post', p1, by rw [filt1 (by omega)]; exact p2⟩
    · rw [if_neg hc]
      simp only [Ph.add, hc, decide_false, Bool.false_eq_true, if_false] at hD
      obtain ⟨d, rfl, d1, d3, d4, d5, d6, d7⟩ := recT_some hD rfl
      exact OutLI.rec_ li si (fits_lost d1 d4 d5) (by omega) d6 d1 d4 (by omega)
  | id => rw [e] at hp; cases hp
  | sn _ _ _ _ => rw [e] at hp; cases hp
  | _ => rw [e] at ht; exact ht.elim
end
end Go.Proofs.Ytdjglkpcdhkodaa
