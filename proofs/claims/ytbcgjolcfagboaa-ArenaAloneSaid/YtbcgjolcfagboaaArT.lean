/- The arena's plain law: a seat that goes on alone ends; what there is in the end. -/
import Derived.Test.YtbcgjolcfagboaaArS
namespace Go.Proofs.Ytbcgjolcfagboaa
open Go.RowKit
set_option linter.unusedVariables false
def phMu (l : Ly) (m : List Int) : Ph → Nat
  | .t0 => 6
  | .t1 x => if x = freeOf l m then 5 else 8
  | .t2 x _ => if x = freeOf l m then 4 else 7
  | .t3 _ => 3
  | .t4 _ _ => 2
  | .t5 _ => 1
  | .tz => 1
  | .g0 => 4
  | .g1 x => if x = freeOf l m then 3 else 6
  | .g2 x => if x = freeOf l m then 2 else 5
  | .g3 => 1
  | .no => 0
def muA (l : Ly) (m : List Int) (wn : List Nat) (s : SeatA) : Nat := (wn.length - s.next) * 6 + phMu l m s.ph
def Fin (wn : List Nat) (s : SeatA) : Prop := s.op.kind = 0 ∧ wn.length ≤ s.next
section
variable {l : Ly} {sz n : Nat} {t : TabA} {L : List Int} {g : GhA} {who : Nat} {s s0 : SeatA} {want : List (List Nat)}
theorem free_other (ly : ALay l sz) {m : List Int} {c : Nat} {v : Int} (h : m.length = sz) (hc : c < sz) (hne : (c : Int) ≠ l.free) : freeOf l (m.set c v) = freeOf l m := by
  have := ly.fr; have := ly.nd; have := ly.nn
  unfold freeOf
  rw [set_at (by omega), if_neg (by omega)]
theorem ph_dec (h : AI l sz t L g.went) (hs : t.seats[who]? = some s) (ly : ALay l sz) (hw : g.went + 1 < 268435456) (pt : Int) {k c o v : Int} (ea : s.ph.ans l s.op.a pt = .ask k c o v) :
    phMu l ((⟨k, c, o, v⟩ : Acc).make t.m) (s.ph.add ((⟨k, c, o, v⟩ : Acc).had t.m, (⟨k, c, o, v⟩ : Acc).ok ((⟨k, c, o, v⟩ : Acc).had t.m))) + 1 ≤ phMu l t.m s.ph := by
  have hat := (h.seat s (List.mem_of_getElem? hs)).at_
  have f1 := ly.fr; have f2 := ly.nd; have f3 := ly.nn
  have hF : t.m.getD l.free.toNat 0 = freeOf l t.m := rfl
  cases e : s.ph with
  | t0 =>
    rw [e] at ea
    injection ea with e1 e2 e3 e4
    subst e1 e2 e3 e4
    obtain ⟨a1, a2, a3⟩ := acc_load (c := l.free) (m := t.m)
    rw [a1, a2, a3, hF]
    simp only [Ph.add]
    split <;> simp [phMu]
  | g0 =>
    rw [e] at ea
    injection ea with e1 e2 e3 e4
    subst e1 e2 e3 e4
    obtain ⟨a1, a2, a3⟩ := acc_load (c := l.free) (m := t.m)
    rw [a1, a2, a3, hF]
    simp [phMu, Ph.add]
  | t1 x =>
    rw [e] at ea
    injection ea with e1 e2 e3 e4
    subst e1 e2 e3 e4
    obtain ⟨a1, a2, a3⟩ := acc_load (c := nodeAt l (idxOf x) 7) (m := t.m)
    rw [a1, a2, a3]
    simp only [phMu, Ph.add]
    split <;> omega
  | t2 x y =>
    rw [e] at ea
    injection ea with e1 e2 e3 e4
    subst e1 e2 e3 e4
    obtain ⟨a1, a2, a3⟩ := acc_cas (c := l.free) (o := x) (v := turnW x y) (m := t.m)
    rw [a1, a2, hF]
    simp only [phMu, Ph.add]
    by_cases q : freeOf l t.m = x
    · simp [q]
    · have q2 : ¬ x = freeOf l t.m := fun q' => q q'.symm
      simp [q, q2]
  | t3 x =>
    rw [e] at ea
    injection ea with e1 e2 e3 e4
    subst e1 e2 e3 e4
    simp [phMu, Ph.add]
  | t4 x u =>
    rw [e] at ea
    injection ea with e1 e2 e3 e4
    subst e1 e2 e3 e4
    simp [phMu, Ph.add]
  | g1 x =>
    rw [e] at ea hat
    injection ea with e1 e2 e3 e4
    subst e1 e2 e3 e4
    obtain ⟨e1, e2, e3, e4⟩ := hat
    have hna := nodeAt_of l e1 (b := 7) (by omega)
    obtain ⟨a1, a2⟩ := acc_store (c := nodeAt l s.op.a 7) (v := idxOf x) (m := t.m)
    rw [a1, a2]
    simp only [phMu, Ph.add]
    rw [free_other ly h.ml (by rw [hna]; omega) (by rw [hna]; omega)]
    split <;> omega
  | g2 x =>
    rw [e] at ea
    injection ea with e1 e2 e3 e4
    subst e1 e2 e3 e4
    obtain ⟨a1, a2, a3⟩ := acc_cas (c := l.free) (o := x) (v := turnW x s.op.a) (m := t.m)
    rw [a1, a2, hF]
    simp only [phMu, Ph.add]
    by_cases q : freeOf l t.m = x
    · simp [q]
    · have q2 : ¬ x = freeOf l t.m := fun q' => q q'.symm
      simp [q, q2]
  | t5 x => rw [e] at ea; cases ea
  | tz => rw [e] at ea; cases ea
  | g3 => rw [e] at ea; cases ea
  | no => rw [e] at ea; cases ea
theorem phMu_pos {m : List Int} {p : Ph} (h : p ≠ .no) : 1 ≤ phMu l m p := by
  cases p <;> simp only [phMu] <;> first | exact absurd rfl h | omega | (split <;> omega)
/-- A turn of a seat's own: it is nearer to its end, or there. -/
theorem turn_mu (h : AI l sz t L g.went) (gr : GR t g) (hs : t.seats[who]? = some s0) (hn : t.seats.length = n) (ly : ALay l sz) (hw : g.went + 1 < 268435456) :
    ∃ s', (turnA l want who t).1.seats[who]? = some s' ∧ (Fin (want.getD who []) s' ∨ (¬ Fin (want.getD who []) s0 ∧ muA l (turnA l want who t).1.m (want.getD who []) s' + 1 ≤ muA l t.m (want.getD who []) s0)) := by
  obtain ⟨a1, a2⟩ := wake_inv h gr hs ly (want.getD who [])
  generalize hwn : want.getD who [] = wn at *
  have hso := h.seat s0 (List.mem_of_getElem? hs)
  have hmu : (wakeR wn s0).op.kind ≠ 0 → ¬ Fin wn s0 ∧ muA l t.m wn (wakeR wn s0) ≤ muA l t.m wn s0 := by
    intro hk1
    by_cases hk : s0.op.kind = 0
    · obtain ⟨w1, w2, w3, w4, w5, w6, w7, w8, w9, w10, w11⟩ := wake_seat wn hk
      have h6 := w6 hk1
      refine ⟨fun q => by have := q.2; omega, ?_⟩
      have hp : phMu l t.m (wakeR wn s0).ph ≤ 6 := by
        rcases w4 with e | e | e
        · exact absurd e hk1
        · rw [(w7 e).1]; simp [phMu]
        · rw [(w8 e).1]; simp [phMu]
      unfold muA
      rw [w9]
      omega
    · rw [wakeR, if_neg hk]
      exact ⟨fun q => hk q.1, Nat.le_refl _⟩
  have hfin : (wakeR wn s0).op.kind = 0 → Fin wn (wakeR wn s0) := by
    intro hk1
    by_cases hk : s0.op.kind = 0
    · obtain ⟨w1, w2, w3, w4, w5, w6, w7, w8, w9, w10, w11⟩ := wake_seat wn hk
      have := w5 hk1
      exact ⟨hk1, by rw [w9]; omega⟩
    · rw [wakeR, if_neg hk] at hk1
      exact absurd hk1 hk
  generalize hsw : wakeR wn s0 = s at *
  have hs1 := set_get hs s
  have hn1 : (t.seats.set who s).length = n := by simp [hn]
  by_cases hk : s.op.kind = 0
  · rw [turn_none (l := l) (want := want) hs (by rw [hwn, hsw]; exact hk), hwn, hsw]
    exact ⟨s, hs1, .inl (hfin hk)⟩
  · obtain ⟨m1, m2⟩ := hmu hk
    obtain ⟨pt, hnx⟩ := next_ans l s.op s.log
    have hgoal := goal_any a1 a2 hs1 hn1 ly hk hw pt
    rw [show phOf s.op s.log = s.ph from rfl] at hnx
    cases ea : s.ph.ans l s.op.a pt with
    | ask k c o v =>
      rw [ea] at hgoal hnx
      have herr := hgoal.1
      dsimp only at herr
      rw [turn_ask hs (by rw [hwn]; exact hsw) hk hnx herr]
      refine ⟨_, set_get hs _, .inr ⟨m1, ?_⟩⟩
      have hd := ph_dec a1 hs1 ly hw pt ea
      dsimp only at hd
      unfold muA at m2 ⊢
      rw [addR_ph]
      dsimp only [addR] at hd ⊢
      omega
    | out val is err pt' =>
      rw [ea] at hnx
      rw [turn_out hs (by rw [hwn]; exact hsw) hk hnx]
      refine ⟨_, set_get hs _, .inr ⟨m1, ?_⟩⟩
      have hne : s.ph ≠ .no := fun e => hk (kind_no e (a1.seat s (List.mem_of_getElem? hs1)).kind)
      have hp := phMu_pos (l := l) (m := t.m) hne
      unfold muA at m2 ⊢
      rw [toldA_ph]
      change (wn.length - s.next) * 6 + 0 + 1 ≤ _
      omega
theorem fin_turn (hs : t.seats[who]? = some s0) (hf : Fin (want.getD who []) s0) : ∃ s', (turnA l want who t).1.seats[who]? = some s' ∧ Fin (want.getD who []) s' := by
  obtain ⟨w1, w2, w3, w4, w5, w6, w7, w8, w9, w10, w11⟩ := wake_seat (want.getD who []) hf.1
  have hk : (wakeR (want.getD who []) s0).op.kind = 0 := by
    by_cases e : (wakeR (want.getD who []) s0).op.kind = 0
    · exact e
    · have := w6 e
      have := hf.2
      omega
  rw [turn_none hs hk]
  exact ⟨_, set_get hs _, hk, by rw [w9]; have := hf.2; omega⟩
end
/-- k turns of one seat: it ends. -/
theorem own_turns {l : Ly} {sz n : Nat} {g0 : GhA} (ly : ALay l sz) (want : List (List Nat)) {who : Nat} (hw : who < n) : ∀ (k : Nat) {T : Nat} {ts : TabA × List StepA} {s0 : SeatA}, RunOk l sz n g0 T ts → T + k ≤ 1000 → ts.1.seats[who]? = some s0 → (Fin (want.getD who []) s0 ∨ muA l ts.1.m (want.getD who []) s0 + 1 ≤ k) →
    ∃ s', (runA l want ts (List.replicate k who)).1.seats[who]? = some s' ∧ Fin (want.getD who []) s' := by
  intro k
  induction k with
  | zero =>
    intro T ts s0 h hT hs hd
    rcases hd with hd | hd
    · exact ⟨s0, hs, hd⟩
    · omega
  | succ k ih =>
    intro T ts s0 h hT hs hd
    obtain ⟨L, h1⟩ := h.inv
    have hwt := h.went
    obtain ⟨s', e1, e2⟩ := turn_mu (want := want) h1 h.gr hs h.ns ly (by omega)
    have h2 := h.turn ly want hw (by omega)
    rw [List.replicate_succ]
    refine ih (ts := ((turnA l want who ts.1).1, ts.2 ++ (turnA l want who ts.1).2.toList)) (s0 := s') h2 (by omega) e1 ?_
    rcases e2 with e2 | ⟨e2, e3⟩
    · exact .inl e2
    · rcases hd with hd | hd
      · exact absurd hd e2
      · exact .inr (by dsimp only; omega)
theorem other_turns {l : Ly} {sz n : Nat} {g0 : GhA} (ly : ALay l sz) (want : List (List Nat)) {who j : Nat} (hw : who < n) (hj : j ≠ who) : ∀ (k : Nat) {T : Nat} {ts : TabA × List StepA}, RunOk l sz n g0 T ts → T + k ≤ 1000 → (runA l want ts (List.replicate k who)).1.seats[j]? = ts.1.seats[j]? := by
  intro k
  induction k with
  | zero => intro T ts h hT; rfl
  | succ k ih =>
    intro T ts h hT
    obtain ⟨L, h1⟩ := h.inv
    have hwt := h.went
    obtain ⟨s0, hs⟩ : ∃ s0, ts.1.seats[who]? = some s0 := ⟨_, List.getElem?_eq_getElem (by rw [h.ns]; exact hw)⟩
    obtain ⟨t1, t2, t3, t4, t5, t6, t7⟩ := turn_inv (want := want) h1 h.gr hs h.ns ly (by omega) h.bnd
    rw [List.replicate_succ]
    exact (ih (h.turn ly want hw (by omega)) (by omega)).trans (t7 j hj)
/-- All seats' sixty turns: all end. -/
theorem all_turns {l : Ly} {sz n : Nat} {g0 : GhA} (ly : ALay l sz) (want : List (List Nat)) (hwl : ∀ k, (want.getD k []).length ≤ 6) : ∀ (k : Nat) {T : Nat} {ts : TabA × List StepA}, RunOk l sz n g0 T ts → T + k * 60 ≤ 1000 → k ≤ n →
    RunOk l sz n g0 (T + k * 60) (runA l want ts ((List.range k).flatMap fun j => List.replicate 60 j)) ∧ ∀ j, j < k → ∃ s, (runA l want ts ((List.range k).flatMap fun j => List.replicate 60 j)).1.seats[j]? = some s ∧ Fin (want.getD j []) s := by
  intro k
  induction k with
  | zero => intro T ts h _ _; exact ⟨h, fun j hj => absurd hj (by omega)⟩
  | succ k ih =>
    intro T ts h hT hk
    obtain ⟨r1, r2⟩ := ih h (by omega) (by omega)
    rw [List.range_succ, List.flatMap_append, runA_append]
    generalize runA l want ts ((List.range k).flatMap fun j => List.replicate 60 j) = ts1 at *
    have e : ([k].flatMap fun j => List.replicate 60 j) = List.replicate 60 k := by simp
    rw [e]
    refine ⟨?_, fun j hj => ?_⟩
    · have := RunOk.run ly want (List.replicate 60 k) r1 (fun w hw => by rw [List.mem_replicate] at hw; omega) (by simp; omega)
      rw [List.length_replicate] at this
      rw [show T + (k + 1) * 60 = T + k * 60 + 60 from by omega]
      exact this
    · by_cases ej : j = k
      · subst ej
        obtain ⟨s0, hs⟩ : ∃ s0, ts1.1.seats[j]? = some s0 := ⟨_, List.getElem?_eq_getElem (by rw [r1.ns]; omega)⟩
        refine own_turns ly want (by omega) 60 r1 (by omega) hs (.inr ?_)
        have hb := hwl j
        have : phMu l ts1.1.m s0.ph ≤ 8 := by
          cases s0.ph <;> simp only [phMu] <;> first | omega | (split <;> omega)
        unfold muA
        omega
      · obtain ⟨s, h1, h2⟩ := r2 j (by omega)
        exact ⟨s, by rw [other_turns ly want (by omega) ej 60 r1 (by omega)]; exact h1, h2⟩
end Go.Proofs.Ytbcgjolcfagboaa
