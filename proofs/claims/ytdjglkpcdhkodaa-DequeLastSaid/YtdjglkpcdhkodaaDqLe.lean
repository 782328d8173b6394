/- DequeLast's plain law: the play ahead leaves one. No program in sight. DequeLast's plain law: the play goes on with another. No program in sight. DequeLast's plain law: how many operations are over, and of what kind. No program in sight. DequeLast's plain law: just one gets it. No program in sight. DequeLast's plain law: put together. No program in sight. -/
import Derived.Test.YtdjglkpcdhkodaaDqNe
namespace Go.Proofs.Ytdjglkpcdhkodaa
open Go.RowKit
set_option linter.unusedVariables false

/-- The owner's wishes of the play ahead: push and pop by turns, a push at the end. -/
def lastOwn (b : Nat) : List Nat := (List.replicate b [0, 2]).flatten ++ [0]
def lastP (b : Nat) : PlayD := ⟨lastOwn b, 0, 0⟩
def lastA (b : Nat) : TabD := runD (playL 3) (lastP b) (tab0 (playL 3).size.toNat) (List.replicate 70 0)
theorem opr_zero {o : Opr} (h1 : o.kind = 0) (h2 : o.obj = 0) (h3 : o.a = 0) (h4 : o.b = 0) : o = op0 := by
  obtain ⟨a, b, c, d⟩ := o
  dsimp only at h1 h2 h3 h4
  subst h1 h2 h3 h4
  rfl
/-- A seat that wants nothing turns nothing. -/
theorem turn_none {l : Ly} {p : PlayD} {who : Nat} {t : TabD} (h1 : (t.seat who).op = op0) (h2 : wishD p who (t.seat who).next = op0) : turnD l p who t = t := by
  have e : wakeD p who t.step (t.seat who) = t.seat who := by
    unfold wakeD
    rw [if_pos (by rw [h1]), if_pos (by rw [h2]), h2, ← h1]
  rw [turn_idle (by rw [e, h1]), e, upS_id]
theorem run_none {l : Ly} {p : PlayD} {who : Nat} {t : TabD} (h1 : (t.seat who).op = op0) (h2 : wishD p who (t.seat who).next = op0) : ∀ k, runD l p t (List.replicate k who) = t := by
  intro k
  induction k with
  | zero => rfl
  | succ k ih =>
    rw [List.replicate_succ]
    show runD l p (turnD l p who t) (List.replicate k who) = t
    rw [turn_none h1 h2]
    exact ih
set_option maxRecDepth 100000 in
theorem last_run (b : Nat) (hb : b < 5) : Lc (lastA b).m = [((2 * b + 1 : Nat) : Int)] ∧ ((lastA b).seat 0).next = 2 * b + 1 ∧ ((lastA b).seat 0).op = op0 ∧ (lastOwn b).length = 2 * b + 1 ∧ wishD (lastP b) 0 (2 * b + 1) = op0 := by
  have h : b = 0 ∨ b = 1 ∨ b = 2 ∨ b = 3 ∨ b = 4 := by omega
  rcases h with rfl | rfl | rfl | rfl | rfl
  all_goals exact ⟨by decide +kernel, by decide +kernel, opr_zero (by decide +kernel) (by decide +kernel) (by decide +kernel) (by decide +kernel), by decide +kernel, opr_zero (by decide +kernel) (by decide +kernel) (by decide +kernel) (by decide +kernel)⟩
/-- The play ahead is over after seventy turns of the owner. -/
theorem last_end (b : Nat) (hb : b < 5) : endD (playL 3) (lastP b) [] = lastA b := by
  obtain ⟨h1, h2, h3, h4, h5⟩ := last_run b hb
  have hs : ∀ k, k ≠ 0 → (lastA b).seat k = seat0 := fun k hk => by
    unfold lastA
    rw [run_other (playL 3) (lastP b) hk]
    rfl
  have hw : ∀ k, 0 < k → k < 3 → wishD (lastP b) k ((lastA b).seat k).next = op0 := fun k h0 h3 => by
    unfold wishD
    rw [if_pos h0]
    have : (if k = 1 then (lastP b).s1 else (lastP b).s2) % 7 = 0 := by split <;> rfl
    rw [this, if_neg (Nat.not_lt_zero _)]
  have h0 := run_none (l := playL 3) (p := lastP b) (who := 0) h3 (by rw [h2]; exact h5)
  have e1 := run_none (l := playL 3) (p := lastP b) (who := 1) (t := lastA b) (by rw [hs 1 (by omega)]; rfl) (hw 1 (by omega) (by omega))
  have e2 := run_none (l := playL 3) (p := lastP b) (who := 2) (t := lastA b) (by rw [hs 2 (by omega)]; rfl) (hw 2 (by omega) (by omega))
  unfold endD tailW
  rw [List.map_nil, List.nil_append, runD_append, runD_append, show (900 : Nat) = 70 + 830 by rfl, ← List.replicate_append_replicate, runD_append]
  show runD (playL 3) (lastP b) (runD (playL 3) (lastP b) (runD (playL 3) (lastP b) (lastA b) (List.replicate 830 0)) (List.replicate (70 + 830) 1)) (List.replicate (70 + 830) 2) = lastA b
  rw [h0, e1, e2]
end Go.Proofs.Ytdjglkpcdhkodaa
namespace Go.Proofs.Ytdjglkpcdhkodaa
open Go.RowKit
set_option linter.unusedVariables false
section
variable {l : Ly} {sz : Nat} {pl pl' : PlayD} {row0 : List Int} {n : Nat} {t : TabD} {who : Nat}
/-- Turns never add to what a seat has to do. -/
theorem DI.mu_run (ly : DLay l sz) (ho : pl.own.length ≤ 900) (hw : who < 3) : ∀ (ws : List Nat) {n : Nat} {t : TabD}, DI l sz pl row0 n t → (∀ w ∈ ws, w < 3) → mu l pl who ((runD l pl t ws).seat who) ≤ mu l pl who (t.seat who) := by
  intro ws
  induction ws with
  | nil => intro n t _ _; exact Nat.le_refl _
  | cons w ws ih =>
    intro n t h hws
    have hw3 := hws w (by simp)
    have h1 := (h.turn ly ho hw3).1
    have h2 := ih h1 (fun x hx => hws x (by simp [hx]))
    refine Nat.le_trans h2 ?_
    by_cases e : w = who
    · subst e
      exact Nat.le_trans (h.mu_dec ly ho hw3) (Nat.sub_le _ _)
    · rw [turn_other l pl t (Ne.symm e)]
      exact Nat.le_refl _
/-- All are idle: another play may go on, with the row that there is. -/
theorem DI.again (h : DI l sz pl row0 n t) (hid : ∀ k, k < 3 → (t.seat k).op.kind = 0) (hx : ∀ k, k < 3 → (t.seat k).next ≤ lim pl' k) : DI l sz pl' (Lc t.m) n { t with done := [] } := by
  have hph : ∀ k, k < 3 → (t.seat k).ph l = .id := fun k hk => by
    unfold SeatD.ph
    rw [if_pos (hid k hk)]
  have hpend : ∀ k, k < 3 → pend l k (t.seat k) = [] := fun k hk => by
    unfold pend
    rw [if_pos (hid k hk)]
  have hrec : recsOf l { t with done := [] } = [] := by
    unfold recsOf pends
    dsimp only
    rw [hpend 0 (by omega), hpend 1 (by omega), hpend 2 (by omega)]
    rfl
  obtain ⟨p, q, pre, post, ci, li, pm, fp⟩ := h.ex
  refine ⟨⟨p, q, [], [], ci, ⟨fun _ => rfl, ⟨Lc t.m, Lc t.m, rfl, rfl, ?_⟩, List.Pairwise.nil, by simp, (fun e => ?_), by simp⟩, ?_, ?_⟩, ?_, fun k hk => ?_, h.mb, h.st, Nat.zero_le _, h.bd⟩
  · show FlRel t.m q (Lc t.m) (Lc t.m) ((t.seat 0).ph l)
    rw [hph 0 (by omega)]
    rfl
  · dsimp only at e
    rw [hph 0 (by omega)] at e
    cases e
  · rw [hrec]
    exact List.Perm.refl _
  · intro e
    dsimp only at e
    rw [hph 0 (by omega)] at e
    cases e
  · rw [hrec]
    exact h.si.sub (fun d hd => by cases hd)
  · have hs := h.sk k hk
    exact ⟨hs.kd, hs.ob, hs.fs, hs.lg, hs.ln, hs.ll, hx k hk, hs.a1⟩
end
end Go.Proofs.Ytdjglkpcdhkodaa
namespace Go.Proofs.Ytdjglkpcdhkodaa
open Go.RowKit
set_option linter.unusedVariables false

def busy (s : SeatD) : Nat := if s.op.kind = 0 then 0 else 1
/-- Each seat's operations that are over, or at work, are those that it began; the owner pops, the others steal. -/
structure Bal (N0 : Nat → Nat) (t : TabD) : Prop where
  cn : ∀ k, k < 3 → (t.done.filter fun d => decide (d.who = k)).length + busy (t.seat k) + N0 k = (t.seat k).next
  kd : ∀ d ∈ t.done, d.who < 3 ∧ (d.who = 0 → d.op.kind = 9) ∧ (0 < d.who → d.op.kind = 10)
  sk : ∀ k, k < 3 → (t.seat k).op.kind ≠ 0 → (k = 0 → (t.seat k).op.kind = 9) ∧ (0 < k → (t.seat k).op.kind = 10)
section
variable {N0 : Nat → Nat} {l : Ly} {p : PlayD} {t : TabD} {who : Nat}
theorem Bal.wake (h : Bal N0 t) (hw : who < 3) (hq : ∀ n, N0 0 ≤ n → (wishD p 0 n).kind = 0 ∨ (wishD p 0 n).kind = 9) : Bal N0 { t with seat := upS t.seat who (wakeD p who t.step (t.seat who)) } := by
  have hc := h.cn who hw
  by_cases hk : (t.seat who).op.kind = 0
  · have hb : busy (t.seat who) = 0 := by unfold busy; rw [if_pos hk]
    rw [hb] at hc
    by_cases hz : (wishD p who (t.seat who).next).kind = 0
    · have e : wakeD p who t.step (t.seat who) = { t.seat who with op := wishD p who (t.seat who).next } := by
        unfold wakeD
        rw [if_pos hk, if_pos hz]
      rw [e]
      refine ⟨fun k hk3 => ?_, h.kd, fun k hk3 hne => ?_⟩
      · dsimp only
        by_cases ek : k = who
        · subst ek
          rw [upS_same]
          unfold busy
          dsimp only
          rw [if_pos hz]
          exact hc
        · rw [upS_other _ _ ek]
          exact h.cn k hk3
      · dsimp only at hne ⊢
        by_cases ek : k = who
        · subst ek
          rw [upS_same] at hne
          exact absurd hz hne
        · rw [upS_other _ _ ek] at hne ⊢
          exact h.sk k hk3 hne
    · have e : wakeD p who t.step (t.seat who) = ⟨wishD p who (t.seat who).next, [], t.step, t.step, (t.seat who).next + 1⟩ := by
        unfold wakeD
        rw [if_pos hk, if_neg hz]
      rw [e]
      refine ⟨fun k hk3 => ?_, h.kd, fun k hk3 hne => ?_⟩
      · dsimp only
        by_cases ek : k = who
        · subst ek
          rw [upS_same]
          unfold busy
          dsimp only
          rw [if_neg hz]
          omega
        · rw [upS_other _ _ ek]
          exact h.cn k hk3
      · dsimp only at hne ⊢
        by_cases ek : k = who
        · subst ek
          rw [upS_same]
          dsimp only
          refine ⟨fun h0 => ?_, fun h0 => wish_th h0 hz⟩
          subst h0
          exact (hq _ (by omega)).resolve_left hz
        · rw [upS_other _ _ ek] at hne ⊢
          exact h.sk k hk3 hne
  · have e : wakeD p who t.step (t.seat who) = t.seat who := by
      unfold wakeD
      rw [if_neg hk]
    rw [e, upS_id]
    exact h
theorem Bal.stepD (h : Bal N0 t) (hw : who < 3) (hk : (t.seat who).op.kind ≠ 0) : Bal N0 (stepD l who t) := by
  have hc := h.cn who hw
  have hs := h.sk who hw hk
  have hb : busy (t.seat who) = 1 := by unfold busy; rw [if_neg hk]
  rw [hb] at hc
  unfold Go.Proofs.Ytdjglkpcdhkodaa.stepD
  cases hn : nextD l (t.seat who).op (t.seat who).log with
  | out val is err pt =>
    dsimp only
    refine ⟨fun k hk3 => ?_, fun d hd => ?_, fun k hk3 hne => ?_⟩
    · dsimp only
      rw [List.filter_append, List.length_append]
      by_cases ek : k = who
      · subst ek
        rw [upS_same]
        simp [busy]
        omega
      · rw [upS_other _ _ ek]
        have := h.cn k hk3
        simp [Ne.symm ek]
        omega
    · rcases List.mem_append.1 hd with hd | hd
      · exact h.kd d hd
      · rw [List.mem_singleton.1 hd]
        exact ⟨hw, hs.1, hs.2⟩
    · dsimp only at hne ⊢
      by_cases ek : k = who
      · subst ek
        rw [upS_same] at hne
        exact absurd rfl hne
      · rw [upS_other _ _ ek] at hne ⊢
        exact h.sk k hk3 hne
  | ask k c o v =>
    dsimp only
    refine ⟨fun j hj => ?_, h.kd, fun j hj hne => ?_⟩
    · dsimp only
      by_cases ek : j = who
      · subst ek
        rw [upS_same]
        unfold busy
        dsimp only
        rw [if_neg hk]
        omega
      · rw [upS_other _ _ ek]
        exact h.cn j hj
    · dsimp only at hne ⊢
      by_cases ek : j = who
      · subst ek
        rw [upS_same] at hne ⊢
        exact hs
      · rw [upS_other _ _ ek] at hne ⊢
        exact h.sk j hj hne
theorem Bal.turn (h : Bal N0 t) (hw : who < 3) (hq : ∀ n, N0 0 ≤ n → (wishD p 0 n).kind = 0 ∨ (wishD p 0 n).kind = 9) : Bal N0 (turnD l p who t) := by
  have h1 := h.wake (p := p) hw hq
  by_cases hz : (wakeD p who t.step (t.seat who)).op.kind = 0
  · rw [turn_idle hz]
    exact h1
  · rw [turn_step hz]
    exact h1.stepD hw (by dsimp only; rw [upS_same]; exact hz)
theorem Bal.run (hq : ∀ n, N0 0 ≤ n → (wishD p 0 n).kind = 0 ∨ (wishD p 0 n).kind = 9) : ∀ (ws : List Nat) {t : TabD}, Bal N0 t → (∀ w ∈ ws, w < 3) → Bal N0 (runD l p t ws) := by
  intro ws
  induction ws with
  | nil => intro t h _; exact h
  | cons w ws ih => intro t h hw; exact ih (h.turn (hw w (by simp)) hq) (fun x hx => hw x (by simp [hx]))
end
end Go.Proofs.Ytdjglkpcdhkodaa
namespace Go.Proofs.Ytdjglkpcdhkodaa
open Go.RowKit
set_option linter.unusedVariables false

/-- In a row that is not empty, where nobody gets anything, all are lost steals. -/
theorem rep_lost : ∀ (es : List Ent) (row r : List Int), rep row es = some r → 0 < row.length → (∀ e ∈ es, e.1.is = false ∧ e.1.op.kind ≠ 8) → ∀ e ∈ es, e.1.op.kind = 10 := by
  intro es
  induction es with
  | nil => intro row r _ _ _ e he; cases he
  | cons x es ih =>
    intro row r hr h0 hall e he
    obtain ⟨hx1, hx2⟩ := hall x (by simp)
    simp only [rep] at hr
    split at hr
    · rename_i hf
      by_cases hl : x.1.op.kind = 10 ∧ x.1.is = false ∧ x.1.err = 0
      · have e1 : fitsM row x.1 = (row, true) := fits_lost hl.1 hl.2.1 hl.2.2
        rw [e1] at hr
        rcases List.mem_cons.1 he with rfl | he
        · exact hl.1
        · exact ih row r hr h0 (fun y hy => hall y (by simp [hy])) e he
      · unfold fitsM at hf
        rw [if_neg hx2, if_neg hl, if_neg (by omega)] at hf
        split at hf <;> simp [hx1] at hf
    · cases hr
theorem filter_three (ds : List DoneD) (h : ∀ d ∈ ds, d.who < 3) : ds.length = (ds.filter fun d => decide (d.who = 0)).length + (ds.filter fun d => decide (d.who = 1)).length + (ds.filter fun d => decide (d.who = 2)).length := by
  induction ds with
  | nil => rfl
  | cons d ds ih =>
    have h1 := ih (fun x hx => h x (by simp [hx]))
    have h2 := h d (by simp)
    have h3 : d.who = 0 ∨ d.who = 1 ∨ d.who = 2 := by omega
    rcases h3 with h3 | h3 | h3 <;> simp [h3] <;> omega
structure LastOk (L : Int) (t : TabD) : Prop where
  len : t.done.length = 3
  row : Lc t.m = []
  tk : takesOf t.done = [L]
  kd : ∀ d ∈ t.done, d.op.kind ≠ 8
theorem last_ok {l : Ly} {sz : Nat} {t : TabD} {L : Int} {N0 : Nat → Nat} (h : EndOk l sz [L] t) (ne : NE t) (hb : Bal N0 t) (hnx : ∀ k, k < 3 → (t.seat k).next = N0 k + 1) : LastOk L t := by
  have hone : ∀ k, k < 3 → (t.done.filter fun d => decide (d.who = k)).length = 1 := fun k hk => by
    have h1 := hb.cn k hk
    have h2 : busy (t.seat k) = 0 := by unfold busy; rw [if_pos (h.idle k hk)]
    have h3 := hnx k hk
    omega
  have hlen : t.done.length = 3 := by
    rw [filter_three t.done (fun d hd => (hb.kd d hd).1), hone 0 (by omega), hone 1 (by omega), hone 2 (by omega)]
  have hkd : ∀ d ∈ t.done, d.op.kind ≠ 8 := fun d hd => by
    obtain ⟨_, h1, h2⟩ := hb.kd d hd
    by_cases e : d.who = 0
    · rw [h1 e]; decide
    · rw [h2 (by omega)]; decide
  obtain ⟨es, e1, e2, e3, e4⟩ := h.li
  have hc := rep_count es _ _ e1
  have ht : (takesOf (es.map (·.1))).Perm (takesOf t.done) := by
    rw [← (takes_all ne.dn).1]
    exact (e2.filter _).map _
  have hp : pushesOf (es.map (·.1)) = [] := by
    unfold pushesOf
    rw [List.map_eq_nil_iff, List.filter_eq_nil_iff]
    intro d hd
    have := hkd d (List.mem_filter.1 (e2.subset hd)).1
    simp [this]
  rw [hp, List.append_nil] at hc
  have hpop : ∃ d ∈ t.done, d.op.kind = 9 := by
    have h1 := hone 0 (by omega)
    obtain ⟨d, hd⟩ := List.exists_mem_of_length_pos (show 0 < (t.done.filter fun d => decide (d.who = 0)).length by omega)
    rw [List.mem_filter] at hd
    exact ⟨d, hd.1, (hb.kd d hd.1).2.1 (of_decide_eq_true hd.2)⟩
  have hne : takesOf (es.map (·.1)) ≠ [] := fun h0 => by
    obtain ⟨d, hd, h9⟩ := hpop
    have herr : d.err ≠ 9 := by
      rcases ne.dn d hd with ⟨h, _⟩ | ⟨_, h⟩ | ⟨h, _⟩ <;> omega
    have hm : d ∈ es.map (·.1) := e2.symm.subset (List.mem_filter.2 ⟨hd, by simpa using herr⟩)
    rw [List.mem_map] at hm
    obtain ⟨e, he, rfl⟩ := hm
    have := rep_lost es _ _ e1 (by simp) (fun x hx => by
      have hxm : x.1 ∈ es.map (·.1) := List.mem_map.2 ⟨x, hx, rfl⟩
      have hk8 := hkd x.1 (List.mem_filter.1 (e2.subset hxm)).1
      refine ⟨?_, hk8⟩
      cases hi : x.1.is with
      | false => rfl
      | true =>
        have : x.1.val ∈ takesOf (es.map (·.1)) := by
          unfold takesOf
          exact List.mem_map.2 ⟨x.1, List.mem_filter.2 ⟨hxm, by simp [hi, hk8]⟩, rfl⟩
        rw [h0] at this
        cases this) e he
    omega
  have hl := hc.length_eq
  rw [List.length_append, List.length_singleton] at hl
  have hpos := List.length_pos_iff.2 hne
  have hrow : Lc t.m = [] := List.eq_nil_of_length_eq_zero (by omega)
  rw [hrow, List.append_nil] at hc
  refine ⟨hlen, hrow, ?_, hkd⟩
  have := (hc.trans ht).symm
  exact List.perm_singleton.1 this
end Go.Proofs.Ytdjglkpcdhkodaa
namespace Go.Proofs.Ytdjglkpcdhkodaa
open Go.RowKit
set_option linter.unusedVariables false
section
variable {l : Ly} {sz : Nat} {pl : PlayD} {row0 : List Int} {n : Nat} {t : TabD} {who : Nat}
theorem mu_next {s : SeatD} (h : mu l pl who s = 0) : lim pl who ≤ s.next := by
  unfold mu at h
  have h1 : rem pl who (lim pl who - s.next) s.next = 0 := by omega
  cases e : lim pl who - s.next with
  | zero => omega
  | succ k =>
    rw [e] at h1
    simp only [rem] at h1
    have : 9 ≤ cost pl who s.next := by unfold cost; split <;> omega
    omega
theorem DI.all_mu (h : DI l sz pl row0 n t) (ly : DLay l sz) (ho : pl.own.length ≤ 900) {K : Nat} (hm : ∀ who, who < 3 → mu l pl who (t.seat who) ≤ K) : ∀ who, who < 3 → mu l pl who ((runD l pl t (tailW K)).seat who) = 0 := by
  intro who h3
  unfold tailW
  rw [runD_append, runD_append]
  have h0 := DI.run ly ho (List.replicate K 0) h (fun w hw => by rw [List.mem_replicate] at hw; omega)
  have e0 := DI.ends ly ho (who := 0) (by omega) K h (hm 0 (by omega))
  have e1 := DI.ends ly ho (who := 1) (by omega) K h0 (by rw [run_other l pl (by omega)]; exact hm 1 (by omega))
  have h1 := DI.run ly ho (List.replicate K 1) h0 (fun w hw => by rw [List.mem_replicate] at hw; omega)
  have e2 := DI.ends ly ho (who := 2) (by omega) K h1 (by rw [run_other l pl (by omega), run_other l pl (by omega)]; exact hm 2 (by omega))
  have hc : who = 0 ∨ who = 1 ∨ who = 2 := by omega
  rcases hc with rfl | rfl | rfl
  · rw [run_other l pl (by omega), run_other l pl (by omega)]; exact e0
  · rw [run_other l pl (by omega)]; exact e1
  · exact e2
end
def lastQ (b : Nat) : PlayD := ⟨lastOwn b ++ [2], 1, 1⟩
def lastT (b : Nat) : TabD := { lastA b with done := [] }
def lastE (b : Nat) (turns : List Nat) : TabD := runD (playL 3) (lastQ b) (lastT b) (turns.map (· % 3) ++ tailW 60)
theorem last_wish (b n : Nat) (hb : b < 5) (hn : 2 * b + 1 ≤ n) : (wishD (lastQ b) 0 n).kind = 0 ∨ (wishD (lastQ b) 0 n).kind = 9 := by
  have hl := (last_run b hb).2.2.2.1
  by_cases e : n = 2 * b + 1
  · right
    unfold wishD lastQ
    rw [if_neg (by omega), e, ← hl]
    simp
  · left
    unfold wishD lastQ
    rw [if_neg (by omega), List.getElem?_eq_none (by simp; omega)]
set_option maxRecDepth 100000 in
theorem last_begin (b : Nat) (hb : b < 5) : DI (playL 3) (playL 3).size.toNat (lastQ b) [((2 * b + 1 : Nat) : Int)] 70 (lastT b) ∧ (∀ k, k < 3 → ((lastT b).seat k).op.kind = 0) ∧ ((lastT b).seat 0).next = 2 * b + 1 ∧ ∀ k, k ≠ 0 → ((lastT b).seat k).next = 0 := by
  obtain ⟨h1, h2, h3, h4, h5⟩ := last_run b hb
  obtain ⟨hnn, ly, lf⟩ := playL_size 3 (by omega)
  have hs : ∀ k, k ≠ 0 → (lastA b).seat k = seat0 := fun k hk => by
    unfold lastA
    rw [run_other (playL 3) (lastP b) hk]
    rfl
  have hd := DI.run ly (pl := lastP b) (by show (lastOwn b).length ≤ 900; omega) (List.replicate 70 0) (DI.begin ly (lastP b)) (fun w hw => by rw [List.mem_replicate] at hw; omega)
  rw [List.length_replicate] at hd
  have hid : ∀ k, k < 3 → ((lastA b).seat k).op.kind = 0 := fun k hk => by
    by_cases e : k = 0
    · subst e; rw [h3]
    · rw [hs k e]; rfl
  have ha := DI.again (pl' := lastQ b) (t := lastA b) hd hid (fun k hk => by
    by_cases e : k = 0
    · subst e
      rw [h2]
      show 2 * b + 1 ≤ (lastOwn b ++ [2]).length
      simp
      omega
    · rw [hs k e]; exact Nat.zero_le _)
  rw [h1] at ha
  refine ⟨ha, hid, h2, fun k hk => by show ((lastA b).seat k).next = 0; rw [hs k hk]; rfl⟩
set_option maxRecDepth 100000 in
theorem last_mu (b who : Nat) (hb : b < 5) (hw : who < 3) : mu (playL 3) (lastQ b) who ((lastT b).seat who) ≤ 60 := by
  obtain ⟨hd, hid, h0, h1⟩ := last_begin b hb
  have hl := (last_run b hb).2.2.2.1
  unfold mu
  rw [if_pos (hid who hw)]
  have hlim : lim (lastQ b) who - ((lastT b).seat who).next = 1 := by
    by_cases e : who = 0
    · subst e
      rw [h0]
      show (lastOwn b ++ [2]).length - (2 * b + 1) = 1
      simp
      omega
    · rw [h1 who e]
      unfold lim lastQ
      rw [if_neg e]
      split <;> rfl
  rw [hlim]
  have hc : cost (lastQ b) who ((lastT b).seat who).next ≤ 42 := by unfold cost; split <;> omega
  simp only [rem]
  omega
set_option maxRecDepth 100000 in
theorem last_play (b : Nat) (hb : b < 5) (turns : List Nat) (ht : turns.length ≤ 60) : LastOk ((2 * b + 1 : Nat) : Int) (lastE b turns) ∧ EndOk (playL 3) (playL 3).size.toNat [((2 * b + 1 : Nat) : Int)] (lastE b turns) := by
  obtain ⟨hd, hid, h0, h1⟩ := last_begin b hb
  obtain ⟨hnn, ly, lf⟩ := playL_size 3 (by omega)
  have hl := (last_run b hb).2.2.2.1
  have ho : (lastQ b).own.length ≤ 900 := by show (lastOwn b ++ [2]).length ≤ 900; simp; omega
  have hm : ∀ w ∈ turns.map (· % 3), w < 3 := fun w hw => by
    rw [List.mem_map] at hw
    obtain ⟨x, _, rfl⟩ := hw
    exact Nat.mod_lt _ (by omega)
  have hr := DI.run ly ho _ hd hm
  have hmu : ∀ who, who < 3 → mu (playL 3) (lastQ b) who ((runD (playL 3) (lastQ b) (lastT b) (turns.map (· % 3))).seat who) ≤ 60 := fun who hw => Nat.le_trans (DI.mu_run ly ho hw _ hd hm) (last_mu b who hb hw)
  have ha := DI.all_ended hr ly ho hmu
  have hz := DI.all_mu hr ly ho hmu
  have hbal : Bal (fun k => if k = 0 then 2 * b + 1 else 0) (lastT b) := ⟨fun k hk => by
    have hbz : busy ((lastT b).seat k) = 0 := by unfold busy; rw [if_pos (hid k hk)]
    rw [hbz]
    by_cases e : k = 0
    · subst e; rw [h0]; simp [lastT]
    · rw [h1 k e]; simp [lastT, e], (fun d hd => by cases hd), fun k hk hne => absurd (hid k hk) hne⟩
  have htl : ∀ w ∈ turns.map (· % 3) ++ tailW 60, w < 3 := fun w hw => by
    rcases List.mem_append.1 hw with hw | hw
    · exact hm w hw
    · unfold tailW at hw
      simp only [List.mem_append, List.mem_replicate] at hw
      omega
  have hb2 := Bal.run (l := playL 3) (p := lastQ b) (N0 := fun k => if k = 0 then 2 * b + 1 else 0) (fun n hn => last_wish b n hb (by simpa using hn)) _ hbal htl
  have hne : NE (lastE b turns) := NE.run _ ⟨(fun d hd => by cases hd), fun k => by
    by_cases e : k < 3
    · exact .inl (hid k e)
    · have : (lastT b).seat k = seat0 := by
        show (lastA b).seat k = seat0
        unfold lastA
        rw [run_other (playL 3) (lastP b) (by omega)]
        rfl
      rw [this]
      exact .inl rfl⟩
  have he : EndOk (playL 3) (playL 3).size.toNat [((2 * b + 1 : Nat) : Int)] (lastE b turns) := by
    unfold lastE
    rw [runD_append]
    exact ⟨⟨lastQ b, _, ha.1⟩, ha.2, by have h2 := ha.1.dn; rw [List.length_map] at h2; omega⟩
  refine ⟨last_ok he hne hb2 (fun k hk => ?_), he⟩
  have e1 := mu_next (hz k hk)
  have e2 := (ha.1.sk k hk).nx
  have e3 : lim (lastQ b) k = (if k = 0 then 2 * b + 1 else 0) + 1 := by
    unfold lim lastQ
    split
    · simp; omega
    · split <;> rfl
  unfold lastE
  rw [runD_append]
  omega
end Go.Proofs.Ytdjglkpcdhkodaa
