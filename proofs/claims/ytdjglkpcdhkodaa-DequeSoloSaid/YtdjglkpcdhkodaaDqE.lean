/- The deque's plain law: a play begins, runs, and ends. No program in sight. -/
import Derived.Test.YtdjglkpcdhkodaaDqX
namespace Go.Proofs.Ytdjglkpcdhkodaa
open Go.RowKit
set_option linter.unusedVariables false

def runD (l : Ly) (p : PlayD) (t : TabD) (ws : List Nat) : TabD := ws.foldl (fun t w => turnD l p w t) t
theorem runD_nil (l : Ly) (p : PlayD) (t : TabD) : runD l p t [] = t := rfl
theorem runD_snoc (l : Ly) (p : PlayD) (t : TabD) (ws : List Nat) (w : Nat) : runD l p t (ws ++ [w]) = turnD l p w (runD l p t ws) := by simp [runD]
theorem runD_append (l : Ly) (p : PlayD) (t : TabD) (ws ws' : List Nat) : runD l p t (ws ++ ws') = runD l p (runD l p t ws) ws' := by simp [runD]
def seat0 : SeatD := ⟨op0, [], 0, 0, 0⟩
def tab0 (sz : Nat) : TabD := ⟨List.replicate sz 0, 0, fun _ => seat0, [], false⟩
section
variable {l : Ly} {sz : Nat} {pl : PlayD} {row0 : List Int} {n : Nat} {t : TabD} {who : Nat}
theorem turn_other (l : Ly) (p : PlayD) (t : TabD) {who k : Nat} (h : k ≠ who) : (turnD l p who t).seat k = t.seat k := by
  unfold turnD
  dsimp only
  split
  · exact upS_other _ _ h
  · split
    · exact upS_other _ _ h
    · exact upS_other _ _ h
theorem DI.run (ly : DLay l sz) (ho : pl.own.length ≤ 900) : ∀ (ws : List Nat) {n : Nat} {t : TabD}, DI l sz pl row0 n t → (∀ w ∈ ws, w < 3) → DI l sz pl row0 (n + ws.length) (runD l pl t ws) := by
  intro ws
  induction ws with
  | nil => intro n t h _; exact h
  | cons w ws ih =>
    intro n t h hw
    have h1 := (h.turn ly ho (hw w (by simp))).1
    have h2 := ih h1 (fun x hx => hw x (by simp [hx]))
    have e : n + (w :: ws).length = n + 1 + ws.length := by simp; omega
    rw [e]
    exact h2
theorem DI.ml (h : DI l sz pl row0 n t) : t.m.length = sz := by
  obtain ⟨p, q, pre, post, ci, _⟩ := h.ex
  exact ci.ml
theorem cel_zero (sz : Nat) (c : Int) : cel (List.replicate sz 0) c = 0 := by
  unfold cel
  rw [List.getD_eq_getElem?_getD]
  by_cases h : c.toNat < sz
  · rw [List.getElem?_replicate_of_lt h]; rfl
  · rw [List.getElem?_eq_none (by simp; omega)]; rfl
theorem DI.begin (ly : DLay l sz) (pl : PlayD) : DI l sz pl [] 0 (tab0 sz) := by
  have ht : top (tab0 sz).m = 0 := cel_zero sz 19
  have hb : bot (tab0 sz).m = 0 := cel_zero sz 20
  have hw : whi (tab0 sz).m = 0 := cel_zero sz 21
  have hr := rings3 ly
  have hrec : recsOf l (tab0 sz) = [] := rfl
  have hid : SeatD.ph l ((tab0 sz).seat 0) = .id := rfl
  have hn0 : ((tab0 sz).seat 0).next = 0 := rfl
  refine ⟨⟨0, false, [], [], ⟨by simp [tab0], by omega, ?_, ?_, by omega, ?_, (fun e => by cases e), trivial, fun k _ => trivial⟩, ⟨fun _ => rfl, ⟨[], [], rfl, ?_, rfl⟩, by simp, by simp, (fun e => by cases e), by simp⟩, ?_, (fun e => by cases e)⟩, ?_, fun k _ => ?_, fun c => ?_, Nat.le_refl _, Nat.le_refl _, rfl⟩
  · rw [hb, hid]; decide
  · rw [ht, hid]; unfold beff; rw [hb]; decide
  · rw [ht, hb, hw, hid]; decide
  · rw [Lc_nil (by omega)]; rfl
  · rw [hrec]; exact List.Perm.refl _
  · rw [hrec]
    have hlp : Lp (tab0 sz).m ((tab0 sz).seat 0 |>.ph l) = [] := by
      have : ((tab0 sz).seat 0).ph l = .id := rfl
      rw [this, lp_eq rfl, Lc_nil (by omega)]
    refine ⟨by rw [hb, hid, hn0]; decide, by rw [hlp]; exact List.Pairwise.nil, fun v hv => ?_, (fun e => by cases e), (fun _ _ e => by cases e), (fun d hd => by cases hd), (fun d hd => by cases hd), (fun d hd => by cases hd), fun d hd => by cases hd⟩
    rw [hlp] at hv
    cases hv
  · exact ⟨.inl rfl, fun h => absurd rfl h, Nat.le_refl _, (fun x hx => by cases hx), fun h => absurd rfl h, Nat.zero_le _, Nat.zero_le _, fun h => by cases h⟩
  · have : cel (tab0 sz).m c = 0 := cel_zero sz c
    rw [this]
    omega
/-! Each seat ends. -/
def cost (p : PlayD) (who n : Nat) : Nat := if (wishD p who n).kind = 8 then 42 else 9
/-- What the wishes from n on may cost. -/
def rem (p : PlayD) (who : Nat) : Nat → Nat → Nat
  | 0, _ => 0
  | k + 1, n => cost p who n + rem p who k (n + 1)
def mu (l : Ly) (p : PlayD) (who : Nat) (s : SeatD) : Nat := (if s.op.kind = 0 then 0 else rk (s.ph l) + 1) + rem p who (lim p who - s.next) s.next
theorem rem_le (p : PlayD) (who : Nat) : ∀ k n, rem p who k n ≤ 42 * k := by
  intro k
  induction k with
  | zero => intro n; exact Nat.le_refl _
  | succ k ih =>
    intro n
    have := ih (n + 1)
    have hc : cost p who n ≤ 42 := by unfold cost; split <;> omega
    simp only [rem]
    omega
theorem DI.rk_dec (h : DI l sz pl row0 n t) (ly : DLay l sz) (hw : who < 3) (hk : (t.seat who).op.kind ≠ 0) {k c o v : Int} (hn : nextD l (t.seat who).op (t.seat who).log = .ask k c o v) : rk (((t.seat who).ph l).add l (tlM k c o v t.m)) + 1 ≤ rk ((t.seat who).ph l) := by
  have hsk := h.sk who hw
  have hk3 : (t.seat who).op.kind = 8 ∨ (t.seat who).op.kind = 9 ∨ (t.seat who).op.kind = 10 := by
    rcases hsk.kd with h1 | ⟨_, h1⟩ | ⟨_, h1⟩
    · exact absurd h1 hk
    · rcases h1 with h1 | h1
      · exact .inl h1
      · exact .inr (.inl h1)
    · exact .inr (.inr h1)
  obtain ⟨pt, ea⟩ := ph_ask hk3 hn
  obtain ⟨p, q, pre, post, ci, li, pm, fp⟩ := h.ex
  refine rk_add ea fun b t' e => ?_
  by_cases e0 : who = 0
  · subst e0
    have hown := ci.own
    rw [e] at hown ea
    obtain ⟨g1, g2, g3, g4⟩ := hown
    have hr3 := rings3 ly
    obtain ⟨hr0, hr1⟩ := ci.r0
    have hcs := size_cases hr0 (by omega)
    have : ∀ r, (movesOf l 0 r t' b).length ≤ (b - t').toNat := fun r => by
      unfold movesOf
      split
      · simp
      · simp
    have := this (tlM k c o v t.m).1
    omega
  · have hth := ci.th who (by omega)
    rw [e] at hth
    exact hth.elim
theorem step_mu (h : DI l sz pl row0 n t) (ly : DLay l sz) (hw : who < 3) (hk : (t.seat who).op.kind ≠ 0) : mu l pl who ((stepD l who t).seat who) + 1 ≤ mu l pl who (t.seat who) := by
  unfold stepD
  cases hn : nextD l (t.seat who).op (t.seat who).log with
  | out val is err pt =>
    dsimp only
    rw [upS_same]
    unfold mu
    rw [if_neg hk]
    simp only [if_pos]
    omega
  | ask k c o v =>
    dsimp only
    rw [upS_same]
    have hr := h.rk_dec ly hw hk hn
    unfold mu
    rw [if_neg hk]
    simp only [if_neg hk]
    rw [ph_add hk]
    omega
theorem DI.mu_dec (h : DI l sz pl row0 n t) (ly : DLay l sz) (ho : pl.own.length ≤ 900) (hw : who < 3) : mu l pl who ((turnD l pl who t).seat who) ≤ mu l pl who (t.seat who) - 1 := by
  by_cases hk : (t.seat who).op.kind = 0
  · by_cases hz : (wishD pl who (t.seat who).next).kind = 0
    · have e : wakeD pl who t.step (t.seat who) = { t.seat who with op := wishD pl who (t.seat who).next } := by
        unfold wakeD
        rw [if_pos hk, if_pos hz]
      have hk2 : (wakeD pl who t.step (t.seat who)).op.kind = 0 := by rw [e]; exact hz
      rw [turn_idle hk2]
      dsimp only
      rw [upS_same, e]
      have hl := wish_ge hz
      unfold mu
      dsimp only
      rw [if_pos hz, if_pos hk, show lim pl who - (t.seat who).next = 0 by omega]
      simp [rem]
    · have e : wakeD pl who t.step (t.seat who) = ⟨wishD pl who (t.seat who).next, [], t.step, t.step, (t.seat who).next + 1⟩ := by
        unfold wakeD
        rw [if_pos hk, if_neg hz]
      have hk2 : (wakeD pl who t.step (t.seat who)).op.kind ≠ 0 := by rw [e]; exact hz
      rw [turn_step hk2, e]
      have hwk := h.wake ho hw hk hz
      have h1 := step_mu hwk ly hw (by dsimp only; rw [upS_same]; exact hz)
      have hl := wish_lt hz
      refine Nat.le_trans (Nat.le_sub_one_of_lt h1) ?_
      have : mu l pl who (({ t with seat := upS t.seat who ⟨wishD pl who (t.seat who).next, [], t.step, t.step, (t.seat who).next + 1⟩ } : TabD).seat who) ≤ mu l pl who (t.seat who) := by
        dsimp only
        rw [upS_same]
        unfold mu
        rw [if_pos hk]
        dsimp only
        rw [if_neg hz, start_ph hz, show lim pl who - (t.seat who).next = (lim pl who - ((t.seat who).next + 1)) + 1 by omega]
        simp only [rem, cost]
        by_cases h8 : (wishD pl who (t.seat who).next).kind = 8
        · rw [if_pos h8, if_pos h8]; simp only [rk]; omega
        · rw [if_neg h8, if_neg h8]
          split <;> simp only [rk] <;> omega
      omega
  · have e : wakeD pl who t.step (t.seat who) = t.seat who := by
      unfold wakeD
      rw [if_neg hk]
    have hk2 : (wakeD pl who t.step (t.seat who)).op.kind ≠ 0 := by rw [e]; exact hk
    rw [turn_step hk2, e, upS_id]
    exact Nat.le_sub_one_of_lt (step_mu h ly hw hk)
/-- After so many turns a seat is done. -/
theorem DI.ends (ly : DLay l sz) (ho : pl.own.length ≤ 900) (hw : who < 3) : ∀ (k : Nat) {n : Nat} {t : TabD}, DI l sz pl row0 n t → mu l pl who (t.seat who) ≤ k → mu l pl who ((runD l pl t (List.replicate k who)).seat who) = 0 := by
  intro k
  induction k with
  | zero => intro n t h hm; exact Nat.le_zero.1 hm
  | succ k ih =>
    intro n t h hm
    have h1 := (h.turn ly ho hw).1
    have h2 := h.mu_dec ly ho hw
    have := ih h1 (by omega)
    rw [List.replicate_succ]
    exact this
theorem mu_kind {s : SeatD} (h : mu l pl who s = 0) : s.op.kind = 0 := by
  unfold mu at h
  by_cases hk : s.op.kind = 0
  · exact hk
  · rw [if_neg hk] at h; omega
theorem run_other (l : Ly) (p : PlayD) {who k : Nat} (h : k ≠ who) : ∀ (j : Nat) (t : TabD), (runD l p t (List.replicate j who)).seat k = t.seat k := by
  intro j
  induction j with
  | zero => intro t; rfl
  | succ j ih =>
    intro t
    rw [List.replicate_succ]
    show (runD l p (turnD l p who t) (List.replicate j who)).seat k = _
    rw [ih, turn_other l p t h]
theorem DI.mu_le (h : DI l sz pl row0 n t) (hw : who < 3) : mu l pl who (t.seat who) ≤ 41 + 42 * (lim pl who - (t.seat who).next) := by
  have hsk := h.sk who hw
  have hr := rem_le pl who (lim pl who - (t.seat who).next) (t.seat who).next
  unfold mu
  by_cases hk : (t.seat who).op.kind = 0
  · rw [if_pos hk]; omega
  · rw [if_neg hk]
    have := hsk.ln hk
    omega
/-- Each seat in turn, till it wants nothing more. -/
def tailW (k : Nat) : List Nat := List.replicate k 0 ++ (List.replicate k 1 ++ List.replicate k 2)
theorem DI.all_ended (h : DI l sz pl row0 n t) (ly : DLay l sz) (ho : pl.own.length ≤ 900) {K : Nat} (hm : ∀ who, who < 3 → mu l pl who (t.seat who) ≤ K) : DI l sz pl row0 (n + 3 * K) (runD l pl t (tailW K)) ∧ ∀ who, who < 3 → ((runD l pl t (tailW K)).seat who).op.kind = 0 := by
  have hw : ∀ w ∈ tailW K, w < 3 := fun w hw => by
    unfold tailW at hw
    simp only [List.mem_append, List.mem_replicate] at hw
    omega
  have hlen : (tailW K).length = 3 * K := by unfold tailW; simp; omega
  have hd := DI.run ly ho (tailW K) h hw
  rw [hlen] at hd
  refine ⟨hd, fun who h3 => ?_⟩
  unfold tailW
  rw [runD_append, runD_append]
  have h0 := DI.run ly ho (List.replicate K 0) h (fun w hw => by rw [List.mem_replicate] at hw; omega)
  have e0 := DI.ends ly ho (who := 0) (by omega) K h (hm 0 (by omega))
  have e1 := DI.ends ly ho (who := 1) (by omega) K h0 (by rw [run_other l pl (by omega)]; exact hm 1 (by omega))
  have h1 := DI.run ly ho (List.replicate K 1) h0 (fun w hw => by rw [List.mem_replicate] at hw; omega)
  have e2 := DI.ends ly ho (who := 2) (by omega) K h1 (by rw [run_other l pl (by omega), run_other l pl (by omega)]; exact hm 2 (by omega))
  have hc : who = 0 ∨ who = 1 ∨ who = 2 := by omega
  rcases hc with rfl | rfl | rfl
  · rw [run_other l pl (by omega), run_other l pl (by omega)]; exact mu_kind e0
  · rw [run_other l pl (by omega)]; exact mu_kind e1
  · exact mu_kind e2
end
end Go.Proofs.Ytdjglkpcdhkodaa
