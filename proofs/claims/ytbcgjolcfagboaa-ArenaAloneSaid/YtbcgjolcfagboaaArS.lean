/- The arena's plain law: all turns of a play; each seat ends. -/
import Derived.Test.YtbcgjolcfagboaaArQ
namespace Go.Proofs.Ytbcgjolcfagboaa
open Go.RowKit
set_option linter.unusedVariables false
section
variable {l : Ly} {sz n : Nat} {t : TabA} {L : List Int} {g : GhA} {who : Nat} {s s0 : SeatA} {want : List (List Nat)}
theorem count_out (v : Int) (has : List Int) (k : Nat) (hk : k < has.length) : (has.take k ++ has.drop (k + 1)).count v + [has.getD k 0].count v = has.count v := by
  have h1 : has = has.take k ++ has[k] :: has.drop (k + 1) := by rw [List.getElem_cons_drop]; exact (List.take_append_drop k has).symm
  have h2 : has.getD k 0 = has[k] := by rw [List.getD_eq_getElem?_getD, List.getElem?_eq_getElem hk]; rfl
  rw [h2]
  generalize has[k] = x at *
  generalize ha : has.take k = a at *
  generalize hb : has.drop (k + 1) = b at *
  rw [h1]
  simp only [List.count_append, List.count_cons, List.count_nil]
  omega
theorem wake_seat (wn : List Nat) (h : s0.op.kind = 0) : (∀ v, (wakeR wn s0).own.count v = s0.own.count v) ∧ (∀ v, (wakeR wn s0).hads.count v = s0.hads.count v) ∧ (wakeR wn s0).ph.seen = none ∧ ((wakeR wn s0).op.kind = 0 ∨ (wakeR wn s0).op.kind = 1 ∨ (wakeR wn s0).op.kind = 2)
    ∧ ((wakeR wn s0).op.kind = 0 → (wakeR wn s0).op = op0 ∧ wn.length ≤ s0.next ∧ (wakeR wn s0).ph = .no) ∧ ((wakeR wn s0).op.kind ≠ 0 → s0.next < wn.length) ∧ ((wakeR wn s0).op.kind = 1 → (wakeR wn s0).ph = .t0 ∧ (wakeR wn s0).op.a = 0) ∧ ((wakeR wn s0).op.kind = 2 → (wakeR wn s0).ph = .g0 ∧ (wakeR wn s0).op.a ∈ s0.has) ∧ (wakeR wn s0).next = s0.next + 1 ∧ (wakeR wn s0).log = [] ∧ (wakeR wn s0).has.length ≤ s0.has.length := by
  have hp0 : s0.ph = .no := by simp [SeatA.ph, phOf, h]
  have g0 : s0.gives = [] := by rw [gives_of hp0]; rfl
  have m0 : s0.mid = [] := by rw [mid_of hp0]; rfl
  have own0 : ∀ v, s0.own.count v = s0.has.count v := fun v => by rw [SeatA.own, g0, m0]; simp
  have had0 : ∀ v, s0.hads.count v = s0.has.count v := fun v => by rw [SeatA.hads, g0]; simp
  have hcase : (wishR wn s0.next s0.has = (op0, s0.has) ∧ wn.length ≤ s0.next) ∨ (wishR wn s0.next s0.has = (⟨1, 0, 0, 0⟩, s0.has) ∧ s0.next < wn.length) ∨ (∃ k, k < s0.has.length ∧ wishR wn s0.next s0.has = (⟨2, 0, s0.has.getD k 0, 0⟩, s0.has.take k ++ s0.has.drop (k + 1)) ∧ s0.next < wn.length) := by
    unfold wishR
    cases e : wn[s0.next]? with
    | none => exact .inl ⟨rfl, List.getElem?_eq_none_iff.1 e⟩
    | some x =>
      have hlt := (List.getElem?_eq_some_iff.1 e).1
      dsimp only
      split
      · rename_i hc
        exact .inr (.inr ⟨_, Nat.mod_lt _ hc.2, rfl, hlt⟩)
      · exact .inr (.inl ⟨rfl, hlt⟩)
  have hw : wakeR wn s0 = ⟨(wishR wn s0.next s0.has).1, [], s0.next + 1, (wishR wn s0.next s0.has).2⟩ := by rw [wakeR, if_pos h]
  rcases hcase with ⟨e, hl⟩ | ⟨e, hl⟩ | ⟨k, hk, e, hl⟩
  · rw [e] at hw
    rw [hw]
    have hp : (⟨op0, [], s0.next + 1, s0.has⟩ : SeatA).ph = .no := rfl
    refine ⟨fun v => ?_, fun v => ?_, rfl, .inl rfl, fun _ => ⟨rfl, hl, rfl⟩, fun q => absurd rfl q, (fun q => by simp at q), (fun q => by simp at q), rfl, rfl, Nat.le_refl _⟩
    · rw [own0, SeatA.own, gives_of hp, mid_of hp]; simp [Ph.gv, Ph.md]
    · rw [had0, SeatA.hads, gives_of hp]; simp [Ph.gv]
  · rw [e] at hw
    rw [hw]
    have hp : (⟨⟨1, 0, 0, 0⟩, [], s0.next + 1, s0.has⟩ : SeatA).ph = .t0 := rfl
    refine ⟨fun v => ?_, fun v => ?_, rfl, .inr (.inl rfl), (fun q => by simp at q), fun _ => hl, fun _ => ⟨rfl, rfl⟩, (fun q => by simp at q), rfl, rfl, Nat.le_refl _⟩
    · rw [own0, SeatA.own, gives_of hp, mid_of hp]; simp [Ph.gv, Ph.md]
    · rw [had0, SeatA.hads, gives_of hp]; simp [Ph.gv]
  · rw [e] at hw
    rw [hw]
    have hp : (⟨⟨2, 0, s0.has.getD k 0, 0⟩, [], s0.next + 1, s0.has.take k ++ s0.has.drop (k + 1)⟩ : SeatA).ph = .g0 := rfl
    have hc := fun v => count_out v s0.has k hk
    refine ⟨fun v => ?_, fun v => ?_, rfl, .inr (.inr rfl), (fun q => by simp at q), fun _ => hl, (fun q => by simp at q), fun _ => ⟨rfl, ?_⟩, rfl, rfl, by simp; omega⟩
    · have := hc v
      rw [own0, SeatA.own, gives_of hp, mid_of hp]
      simp only [Ph.gv, Ph.md, List.append_nil]
      rw [List.count_append]
      omega
    · have := hc v
      rw [had0, SeatA.hads, gives_of hp]
      simp only [Ph.gv]
      rw [List.count_append]
      omega
    · dsimp only
      rw [List.getD_eq_getElem?_getD, List.getElem?_eq_getElem hk]
      exact List.getElem_mem hk
theorem wake_inv (h : AI l sz t L g.went) (gr : GR t g) (hs : t.seats[who]? = some s0) (ly : ALay l sz) (wn : List Nat) : AI l sz ⟨t.m, t.seats.set who (wakeR wn s0)⟩ L g.went ∧ GR ⟨t.m, t.seats.set who (wakeR wn s0)⟩ g := by
  by_cases hk : s0.op.kind = 0
  · obtain ⟨w1, w2, w3, w4, w5, w6, w7, w8, w9, w10, w11⟩ := wake_seat wn hk
    have f3 := ly.nn
    have a6 : (wakeR wn s0).op.kind = 2 → 1 ≤ (wakeR wn s0).op.a ∧ (wakeR wn s0).op.a ≤ l.c.nodes := fun e => own_range h hs (by rw [SeatA.own]; simp [(w8 e).2])
    refine ⟨h.upd hs h.ml h.fr h.chain (fun v => by rw [w1 v]) h.links ⟨w4, ?_, ?_⟩ (fun j u _ _ hu => hu), gr.upd hs _ (had_same gr hs w2) (fun x hx => by rw [w3] at hx; cases hx) (fun k _ => rfl)⟩
    · rcases w4 with e | e | e
      · rw [(w5 e).2.2]; trivial
      · rw [(w7 e).1]; trivial
      · rw [(w8 e).1]; exact a6 e
    · rcases w4 with e | e | e
      · rw [(w5 e).1]; decide
      · rw [(w7 e).2]; decide
      · have := a6 e; omega
  · have e : wakeR wn s0 = s0 := by rw [wakeR, if_neg hk]
    have e2 : t.seats.set who s0 = t.seats := by
      apply List.ext_getElem?
      intro j
      by_cases q : j = who
      · subst q; rw [List.getElem?_set_self (List.getElem?_eq_some_iff.1 hs).1, hs]
      · rw [List.getElem?_set_ne (fun q' => q q'.symm)]
    rw [e, e2]
    exact ⟨h, gr⟩
/-- What a turn is. -/
theorem turn_none (hs : t.seats[who]? = some s0) (hk : (wakeR (want.getD who []) s0).op.kind = 0) : turnA l want who t = (⟨t.m, t.seats.set who (wakeR (want.getD who []) s0)⟩, none) := by
  simp only [turnA, hs, hk, if_true]
theorem turn_ask (hs : t.seats[who]? = some s0) (hsw : wakeR (want.getD who []) s0 = s) (hk : s.op.kind ≠ 0) {k c o v : Int} (hn : nextR l s.op s.log = .ask k c o v) (he : (⟨k, c, o, v⟩ : Acc).err t.m.length = 0) :
    turnA l want who t = (⟨(⟨k, c, o, v⟩ : Acc).make t.m, t.seats.set who (addR s ((⟨k, c, o, v⟩ : Acc).had t.m, (⟨k, c, o, v⟩ : Acc).ok ((⟨k, c, o, v⟩ : Acc).had t.m)))⟩, some (askA who s.op ⟨k, c, o, v⟩ ((⟨k, c, o, v⟩ : Acc).had t.m, (⟨k, c, o, v⟩ : Acc).ok ((⟨k, c, o, v⟩ : Acc).had t.m)))) := by
  simp only [turnA, hs, hsw, hk, if_false, hn, he, if_true]
  rfl
theorem turn_out (hs : t.seats[who]? = some s0) (hsw : wakeR (want.getD who []) s0 = s) (hk : s.op.kind ≠ 0) {val err pt : Int} {is : Bool} (hn : nextR l s.op s.log = .out val is err pt) :
    turnA l want who t = (⟨t.m, t.seats.set who (toldA s val is)⟩, some (doneA who s.op val is err pt)) := by
  simp only [turnA, hs, hsw, hk, if_false, hn]
  rfl
def gStep (l : Ly) (g : GhA) : Option StepA → GhA
  | none => g
  | some st => ghA l g st
structure Bnd (T : Nat) (t : TabA) : Prop where
  seat : ∀ s ∈ t.seats, s.log.length ≤ T ∧ s.next ≤ T ∧ s.has.length ≤ T
theorem Bnd.set {T : Nat} (h : Bnd T t) (s' : SeatA) (hs : s'.log.length ≤ T + 1 ∧ s'.next ≤ T + 1 ∧ s'.has.length ≤ T + 1) (m' : List Int) : Bnd (T + 1) ⟨m', t.seats.set who s'⟩ := by
  refine ⟨fun u hu => ?_⟩
  rcases List.mem_or_eq_of_mem_set hu with hu | rfl
  · have := h.seat u hu; omega
  · exact hs
theorem set_get (hs : t.seats[who]? = some s0) (s' : SeatA) : (t.seats.set who s')[who]? = some s' := List.getElem?_set_self (List.getElem?_eq_some_iff.1 hs).1
/-- A turn keeps what holds. -/
theorem turn_inv (h : AI l sz t L g.went) (gr : GR t g) (hs : t.seats[who]? = some s0) (hn : t.seats.length = n) (ly : ALay l sz) (hw : g.went + 1 < 268435456) {T : Nat} (hb : Bnd T t) :
    (∀ k c o v, nextR l (wakeR (want.getD who []) s0).op (wakeR (want.getD who []) s0).log = .ask k c o v → (wakeR (want.getD who []) s0).op.kind ≠ 0 → (⟨k, c, o, v⟩ : Acc).err t.m.length = 0) ∧
    (∃ L', AI l sz (turnA l want who t).1 L' (gStep l g (turnA l want who t).2).went) ∧ GR (turnA l want who t).1 (gStep l g (turnA l want who t).2) ∧ (∀ st, (turnA l want who t).2 = some st → StepOk l n g st) ∧ Bnd (T + 1) (turnA l want who t).1 ∧ (turnA l want who t).1.seats.length = n ∧
    (∀ j, j ≠ who → (turnA l want who t).1.seats[j]? = t.seats[j]?) := by
  obtain ⟨a1, a2⟩ := wake_inv h gr hs ly (want.getD who [])
  have hb0 := hb.seat s0 (List.mem_of_getElem? hs)
  have hwb : (wakeR (want.getD who []) s0).log.length ≤ T ∧ (wakeR (want.getD who []) s0).next ≤ T + 1 ∧ (wakeR (want.getD who []) s0).has.length ≤ T := by
    by_cases hk : s0.op.kind = 0
    · obtain ⟨w1, w2, w3, w4, w5, w6, w7, w8, w9, w10, w11⟩ := wake_seat (want.getD who []) hk
      rw [w9, w10]
      simp only [List.length_nil]
      omega
    · rw [wakeR, if_neg hk]
      omega
  generalize hsw : wakeR (want.getD who []) s0 = s at *
  have hs1 := set_get hs s
  have hn1 : (t.seats.set who s).length = n := by simp [hn]
  have hss : ∀ s', (t.seats.set who s).set who s' = t.seats.set who s' := fun s' => by rw [List.set_set]
  have hoth : ∀ s', ∀ j, j ≠ who → (t.seats.set who s')[j]? = t.seats[j]? := fun s' j hj => List.getElem?_set_ne (fun e => hj e.symm)
  by_cases hk : s.op.kind = 0
  · have ht := turn_none (l := l) (want := want) hs (by rw [hsw]; exact hk)
    rw [ht, hsw]
    exact ⟨fun _ _ _ _ _ e => absurd hk e, ⟨L, a1⟩, a2, (fun st e => by cases e), hb.set s (by omega) _, hn1, hoth s⟩
  · obtain ⟨pt, hnx⟩ := next_ans l s.op s.log
    have hgoal := goal_any a1 a2 hs1 hn1 ly hk hw pt
    rw [show phOf s.op s.log = s.ph from rfl] at hnx
    cases ea : s.ph.ans l s.op.a pt with
    | ask k c o v =>
      rw [ea] at hgoal hnx
      obtain ⟨herr, L', k1, k2, k3⟩ := hgoal
      dsimp only at herr k1 k2
      rw [hss] at k1 k2
      rw [turn_ask hs hsw hk hnx herr]
      refine ⟨fun k' c' o' v' e _ => ?_, ⟨L', k1⟩, k2, fun st e => ?_, hb.set _ (by simp [addR]; omega) _, by simp [hn], hoth _⟩
      · rw [hnx] at e
        injection e with e1 e2 e3 e4
        subst e1 e2 e3 e4
        exact herr
      · injection e with e
        subst e
        exact k3
    | out val is err pt' =>
      rw [ea] at hgoal hnx
      obtain ⟨L', k1, k2, k3⟩ := hgoal
      dsimp only at k1 k2
      rw [hss] at k1 k2
      rw [turn_out hs hsw hk hnx]
      refine ⟨fun k' c' o' v' e _ => ?_, ⟨L', k1⟩, k2, fun st e => ?_, hb.set _ ⟨by simp [toldA]; omega, by simp [toldA]; omega, ?_⟩ _, by simp [hn], hoth _⟩
      · rw [hnx] at e
        cases e
      · injection e with e
        subst e
        exact k3
      · simp only [toldA]
        split <;> (try simp) <;> omega
end
def gRun (l : Ly) (g : GhA) : List StepA → GhA
  | [] => g
  | st :: r => gRun l (ghA l g st) r
theorem gRun_append (l : Ly) : ∀ (a b : List StepA) (g : GhA), gRun l g (a ++ b) = gRun l (gRun l g a) b
  | [], _, _ => rfl
  | _ :: a, b, g => gRun_append l a b _
theorem gRun_opt (l : Ly) (g : GhA) (o : Option StepA) : gRun l g o.toList = gStep l g o := by cases o <;> rfl
theorem went_le (l : Ly) (g : GhA) (o : Option StepA) : (gStep l g o).went ≤ g.went + 1 := by
  cases o with
  | none => simp [gStep]
  | some st => simp only [gStep, ghA]; split <;> omega
/-- What holds behind so many turns. -/
structure RunOk (l : Ly) (sz n : Nat) (g0 : GhA) (T : Nat) (ts : TabA × List StepA) : Prop where
  inv : ∃ L, AI l sz ts.1 L (gRun l g0 ts.2).went
  gr : GR ts.1 (gRun l g0 ts.2)
  ns : ts.1.seats.length = n
  bnd : Bnd T ts.1
  steps : ∀ (j : Nat) (st : StepA), ts.2[j]? = some st → StepOk l n (gRun l g0 (ts.2.take j)) st
  went : (gRun l g0 ts.2).went ≤ T
  len : ts.2.length ≤ T
theorem RunOk.turn {l : Ly} {sz n : Nat} {g0 : GhA} {T : Nat} {ts : TabA × List StepA} (h : RunOk l sz n g0 T ts) (ly : ALay l sz) (want : List (List Nat)) {who : Nat} (hw : who < n) (hT : T ≤ 1000) :
    RunOk l sz n g0 (T + 1) ((turnA l want who ts.1).1, ts.2 ++ (turnA l want who ts.1).2.toList) := by
  obtain ⟨L, h1⟩ := h.inv
  obtain ⟨s0, hs⟩ : ∃ s0, ts.1.seats[who]? = some s0 := ⟨_, List.getElem?_eq_getElem (by rw [h.ns]; exact hw)⟩
  have hwt := h.went
  obtain ⟨t1, t2, t3, t4, t5, t6, t7⟩ := turn_inv (want := want) h1 h.gr hs h.ns ly (by omega) h.bnd
  have e : gRun l g0 (ts.2 ++ (turnA l want who ts.1).2.toList) = gStep l (gRun l g0 ts.2) (turnA l want who ts.1).2 := by rw [gRun_append, gRun_opt]
  have hl := h.len
  refine ⟨by rw [e]; exact t2, by rw [e]; exact t3, t6, t5, fun j st hj => ?_, by rw [e]; have := went_le l (gRun l g0 ts.2) (turnA l want who ts.1).2; omega, ?_⟩
  · by_cases hlt : j < ts.2.length
    · rw [List.getElem?_append_left hlt] at hj
      rw [List.take_append_of_le_length (by omega)]
      exact h.steps j st hj
    · rw [List.getElem?_append_right (by omega)] at hj
      cases eo : (turnA l want who ts.1).2 with
      | none => rw [eo] at hj; simp at hj
      | some st' =>
        rw [eo] at hj
        have : j - ts.2.length = 0 := by
          have := (List.getElem?_eq_some_iff.1 hj).1
          simp at this
          omega
        rw [this] at hj
        simp at hj
        subst hj
        have hj' : j = ts.2.length := by omega
        rw [hj', List.take_left']
        · exact t4 st' eo
        · rfl
  · cases (turnA l want who ts.1).2 <;> simp <;> omega
theorem RunOk.run {l : Ly} {sz n : Nat} {g0 : GhA} (ly : ALay l sz) (want : List (List Nat)) : ∀ (ws : List Nat) {T : Nat} {ts : TabA × List StepA}, RunOk l sz n g0 T ts → (∀ w ∈ ws, w < n) → T + ws.length ≤ 1000 → RunOk l sz n g0 (T + ws.length) (runA l want ts ws) := by
  intro ws
  induction ws with
  | nil => intro T ts h _ _; exact h
  | cons w ws ih =>
    intro T ts h hw hT
    simp only [List.length_cons] at hT
    have h1 := ih (h.turn ly want (hw w (by simp)) (by omega)) (fun u hu => hw u (by simp [hu])) (by omega)
    rw [show T + (w :: ws).length = T + 1 + ws.length from by simp only [List.length_cons]; omega]
    exact h1
end Go.Proofs.Ytbcgjolcfagboaa
