/- The deque's plain law: what was pushed is taken once, or there. No program in sight. -/
import Derived.Test.YtdjglkpcdhkodaaDqEnd
namespace Go.Proofs.Ytdjglkpcdhkodaa
open Go.RowKit
set_option linter.unusedVariables false

theorem putM_out {l : Ly} {r b a : Int} {i : Nat} {log : Log} {v e p : Int} {is : Bool} (h : putM l r b a i log = .out v is e p) : e = 0 ∧ is = true := by
  unfold putM at h
  split at h
  · cases h
  · cases h
  · injection h with h1 h2 h3 h4; exact ⟨h3.symm, h2.symm⟩
theorem movM_out {l : Ly} {r b a : Int} {v e p : Int} {is : Bool} : ∀ (ms : List (Int × Int)) (i : Nat) (log : Log), movM l r b a ms i log = .out v is e p → e = 0 ∧ is = true := by
  intro ms
  induction ms with
  | nil =>
    intro i log h
    cases log with
    | nil => simp [movM] at h
    | cons x log => simp only [movM] at h; exact putM_out h
  | cons m ms ih =>
    intro i log h
    match log with
    | [] => simp [movM] at h
    | [x] => simp [movM] at h
    | x :: y :: log => simp only [movM] at h; exact ih _ _ h
theorem pushM_out {l : Ly} {a : Int} {log : Log} {v e p : Int} {is : Bool} (h : pushM l a log = .out v is e p) : (e = 0 ∧ is = true) ∨ (e = 9 ∧ is = false) := by
  unfold pushM at h
  split at h
  · cases h
  · cases h
  · cases h
  · split at h
    · split at h
      · injection h with h1 h2 h3 h4; exact .inr ⟨h3.symm, h2.symm⟩
      · exact .inl (movM_out _ _ _ h)
    · exact .inl (putM_out h)
theorem popM_out {l : Ly} {log : Log} {v e p : Int} {is : Bool} (h : popM l log = .out v is e p) : e = 0 := by
  unfold popM at h
  repeat' split at h
  all_goals first
    | (cases h; done)
    | (injection h with h1 h2 h3 h4; exact h3.symm)
theorem stealM_out {l : Ly} {log : Log} {v e p : Int} {is : Bool} (h : stealM l log = .out v is e p) : e = 0 ∨ (e = 16 ∧ is = false) := by
  unfold stealM at h
  repeat' split at h
  all_goals first
    | (cases h; done)
    | (injection h with h1 h2 h3 h4; exact .inl h3.symm)
    | (injection h with h1 h2 h3 h4; exact .inr ⟨h3.symm, h2.symm⟩)
/-- What a record tells, by its kind. -/
def RecOk (d : DoneD) : Prop := (d.op.kind = 8 ∧ ((d.err = 0 ∧ d.is = true) ∨ (d.err = 9 ∧ d.is = false))) ∨ (d.op.kind = 9 ∧ d.err = 0) ∨ (d.op.kind = 10 ∧ (d.err = 0 ∨ (d.err = 16 ∧ d.is = false)))
theorem RecOk.nine {d : DoneD} (h : RecOk d) (h9 : d.err = 9) : d.is = false := by
  rcases h with ⟨_, h | h⟩ | ⟨_, h⟩ | ⟨_, h | h⟩
  · omega
  · exact h.2
  · omega
  · omega
  · exact h.2
theorem nextD_rec {l : Ly} {op : Opr} {log : Log} {v e p : Int} {is : Bool} (hk : op.kind = 8 ∨ op.kind = 9 ∨ op.kind = 10) (h : nextD l op log = .out v is e p) (who f la : Nat) : RecOk ⟨who, op, f, la, v, is, e, p⟩ := by
  unfold nextD at h
  unfold RecOk
  dsimp only
  rcases hk with hk | hk | hk
  · rw [if_pos hk] at h
    exact .inl ⟨hk, pushM_out h⟩
  · rw [if_neg (by omega), if_pos hk] at h
    exact .inr (.inl ⟨hk, popM_out h⟩)
  · rw [if_neg (by omega), if_neg (by omega)] at h
    exact .inr (.inr ⟨hk, stealM_out h⟩)
structure NE (t : TabD) : Prop where
  dn : ∀ d ∈ t.done, RecOk d
  st : ∀ who, (t.seat who).op.kind = 0 ∨ (t.seat who).op.kind = 8 ∨ (t.seat who).op.kind = 9 ∨ (t.seat who).op.kind = 10
theorem wish_kd (p : PlayD) (who n : Nat) : (wishD p who n).kind = 0 ∨ (wishD p who n).kind = 8 ∨ (wishD p who n).kind = 9 ∨ (wishD p who n).kind = 10 := by
  unfold wishD
  repeat' split
  all_goals simp []
theorem NE.turn {l : Ly} {p : PlayD} {who : Nat} {t : TabD} (h : NE t) : NE (turnD l p who t) := by
  have hs : (wakeD p who t.step (t.seat who)).op.kind = 0 ∨ (wakeD p who t.step (t.seat who)).op.kind = 8 ∨ (wakeD p who t.step (t.seat who)).op.kind = 9 ∨ (wakeD p who t.step (t.seat who)).op.kind = 10 := by
    unfold wakeD
    split
    · split
      · exact wish_kd _ _ _
      · exact wish_kd _ _ _
    · exact h.st who
  have hup : ∀ s : SeatD, (s.op.kind = 0 ∨ s.op.kind = 8 ∨ s.op.kind = 9 ∨ s.op.kind = 10) → ∀ k, (upS t.seat who s k).op.kind = 0 ∨ (upS t.seat who s k).op.kind = 8 ∨ (upS t.seat who s k).op.kind = 9 ∨ (upS t.seat who s k).op.kind = 10 := by
    intro s hk k
    unfold upS
    split
    · exact hk
    · exact h.st k
  by_cases hz : (wakeD p who t.step (t.seat who)).op.kind = 0
  · rw [turn_idle hz]
    exact ⟨h.dn, hup _ hs⟩
  · unfold turnD
    dsimp only
    rw [if_neg hz]
    cases hn : nextD l (wakeD p who t.step (t.seat who)).op (wakeD p who t.step (t.seat who)).log with
    | ask k c o v => exact ⟨h.dn, hup _ hs⟩
    | out v is e pt =>
      refine ⟨fun d hd => ?_, hup _ (.inl rfl)⟩
      rcases List.mem_append.1 hd with hd | hd
      · exact h.dn d hd
      · rw [List.mem_singleton.1 hd]
        exact nextD_rec (by omega) hn _ _ _
theorem NE.run {l : Ly} {p : PlayD} : ∀ (ws : List Nat) {t : TabD}, NE t → NE (runD l p t ws) := by
  intro ws
  induction ws with
  | nil => intro t h; exact h
  | cons w ws ih => intro t h; exact ih (NE.turn h)
theorem end_ne (l : Ly) (p : PlayD) (turns : List Nat) : NE (endD l p turns) := NE.run _ ⟨(fun d hd => by cases hd), fun _ => .inl rfl⟩
/-! Counting. -/
def takesOf (ds : List DoneD) : List Int := (ds.filter fun d => decide (d.op.kind ≠ 8) && d.is).map (·.val)
def pushesOf (ds : List DoneD) : List Int := (ds.filter fun d => decide (d.op.kind = 8) && d.is).map (·.op.a)
theorem rep_count : ∀ (es : List Ent) (row row' : List Int), rep row es = some row' → (row ++ pushesOf (es.map (·.1))).Perm (takesOf (es.map (·.1)) ++ row') := by
  intro es
  induction es with
  | nil =>
    intro row row' h
    simp only [rep, Option.some.injEq] at h
    subst h
    simp [takesOf, pushesOf]
  | cons e es ih =>
    intro row row' h
    simp only [rep] at h
    split at h
    · rename_i hf
      have h1 := ih _ _ h
      obtain ⟨d, pt⟩ := e
      simp only [List.map_cons]
      dsimp only at hf h1 ⊢
      unfold fitsM at hf h1
      by_cases h8 : d.op.kind = 8
      · rw [if_pos h8] at hf h1
        dsimp only at hf h1
        have e1 : pushesOf (d :: es.map (·.1)) = d.op.a :: pushesOf (es.map (·.1)) := by simp [pushesOf, h8, hf]
        have e2 : takesOf (d :: es.map (·.1)) = takesOf (es.map (·.1)) := by simp [takesOf, h8]
        rw [e1, e2]
        simpa using h1
      · have e1 : pushesOf (d :: es.map (·.1)) = pushesOf (es.map (·.1)) := by simp [pushesOf, h8]
        rw [e1]
        rw [if_neg h8] at hf h1
        have hno : d.is = false → takesOf (d :: es.map (·.1)) = takesOf (es.map (·.1)) := fun hi => by simp [takesOf, hi]
        have hyes : d.is = true → takesOf (d :: es.map (·.1)) = d.val :: takesOf (es.map (·.1)) := fun hi => by simp [takesOf, hi, h8]
        by_cases hl : d.op.kind = 10 ∧ d.is = false ∧ d.err = 0
        · rw [if_pos hl] at h1
          rw [hno hl.2.1]
          exact h1
        rw [if_neg hl] at hf h1
        by_cases h0 : row.length = 0
        · rw [if_pos h0] at hf h1
          dsimp only at hf h1
          rw [Bool.and_eq_true] at hf
          rw [hno (by simpa using hf.1)]
          exact h1
        rw [if_neg h0] at hf h1
        by_cases h9 : d.op.kind = 9
        · rw [if_pos h9] at hf h1
          dsimp only at hf h1
          rw [Bool.and_eq_true] at hf
          rw [hyes hf.1]
          have hv : d.val = row.getD (row.length - 1) 0 := of_decide_eq_true hf.2
          have hrow : row = row.take (row.length - 1) ++ [d.val] := by
            rw [hv, List.getD_eq_getElem?_getD, List.getElem?_eq_getElem (by omega), Option.getD_some]
            conv => lhs; rw [← List.take_append_drop (row.length - 1) row, List.drop_eq_getElem_cons (by omega)]
            rw [List.drop_eq_nil_of_le (by omega)]
          refine List.Perm.trans ?_ (List.Perm.cons d.val h1)
          conv => lhs; rw [hrow]
          rw [List.append_assoc]
          exact List.perm_middle
        · rw [if_neg h9] at hf h1
          dsimp only at hf h1
          rw [Bool.and_eq_true] at hf
          rw [hyes hf.1]
          have hv : d.val = row.getD 0 0 := of_decide_eq_true hf.2
          have hrow : row = d.val :: row.drop 1 := by
            rw [hv]
            cases row with
            | nil => exact absurd rfl h0
            | cons x xs => rfl
          conv => lhs; rw [hrow]
          exact List.Perm.cons d.val h1
    · cases h
theorem takes_all {ds : List DoneD} (h : ∀ d ∈ ds, RecOk d) : takesOf (ds.filter fun d => decide (d.err ≠ 9)) = takesOf ds ∧ pushesOf (ds.filter fun d => decide (d.err ≠ 9)) = pushesOf ds := by
  induction ds with
  | nil => exact ⟨rfl, rfl⟩
  | cons d ds ih =>
    obtain ⟨h1, h2⟩ := ih fun x hx => h x (by simp [hx])
    by_cases h9 : d.err = 9
    · have hi := (h d (by simp)).nine h9
      rw [List.filter_cons_of_neg (by simp [h9]), h1, h2]
      exact ⟨by simp [takesOf, hi], by simp [pushesOf, hi]⟩
    · rw [List.filter_cons_of_pos (by simp [h9])]
      simp only [takesOf, pushesOf] at h1 h2 ⊢
      exact ⟨by rw [List.filter_cons, List.filter_cons]; split <;> simp only [List.map_cons, h1], by rw [List.filter_cons, List.filter_cons]; split <;> simp only [List.map_cons, h2]⟩
structure OnceOk (t : TabD) : Prop where
  pm : (pushesOf t.done).Perm (takesOf t.done ++ Lc t.m)
  tk : ∀ d ∈ t.done, d.op.kind ≠ 8 → d.is = true → 1 ≤ d.val ∧ d.val ≤ 14
  pu : ∀ d ∈ t.done, d.op.kind = 8 → 1 ≤ d.op.a ∧ d.op.a ≤ 14
  rw : ∀ v ∈ Lc t.m, 1 ≤ v ∧ v ≤ 14
  so : (Lc t.m).Pairwise (· < ·)
theorem end_next (p : PlayD) (turns : List Nat) (tk : Int) (t0 : 0 ≤ tk) (ho : p.own.length ≤ 14) : ((endD (playL tk) p turns).seat 0).next ≤ p.own.length := by
  obtain ⟨hnn, ly, lf⟩ := playL_size tk t0
  have h0 := DI.begin ly p
  have h1 := DI.run ly (by omega) (turns.map (· % 3) ++ tailW 900) h0 (fun w hw => by
    rcases List.mem_append.1 hw with hw | hw
    · rw [List.mem_map] at hw
      obtain ⟨x, _, rfl⟩ := hw
      exact Nat.mod_lt _ (by omega)
    · unfold tailW at hw
      simp only [List.mem_append, List.mem_replicate] at hw
      omega)
  have := (h1.sk 0 (by omega)).nx
  unfold endD
  simpa [lim] using this
theorem once_ok {l : Ly} {sz : Nat} {t : TabD} (h : EndOk l sz [] t) (hne : NE t) (hn : (t.seat 0).next ≤ 14) : OnceOk t := by
  obtain ⟨es, e1, e2, e3, e4⟩ := h.li
  have hc := rep_count es [] _ e1
  have ht : (takesOf (es.map (·.1))).Perm (takesOf t.done) := by
    rw [← (takes_all hne.dn).1]
    exact (e2.filter _).map _
  have hp : (pushesOf (es.map (·.1))).Perm (pushesOf t.done) := by
    rw [← (takes_all hne.dn).2]
    exact (e2.filter _).map _
  have si := h.si
  have hlp : Lp t.m .id = Lc t.m := lp_eq rfl
  have hbd := si.bd
  have hso := si.so
  rw [hlp] at hbd hso
  refine ⟨?_, fun d hd h8 hi => ?_, fun d hd h8 => ?_, fun v hv => ?_, hso⟩
  · have hc' : (pushesOf (es.map (·.1))).Perm (takesOf (es.map (·.1)) ++ Lc t.m) := by simpa using hc
    exact hp.symm.trans (hc'.trans (ht.append_right _))
  · rcases hne.dn d hd with ⟨h, _⟩ | ⟨h, _⟩ | ⟨h, _⟩
    · exact absurd h h8
    · have := si.tk d hd h hi; omega
    · have := si.st d hd h hi; omega
  · have := si.pu d hd h8; omega
  · have := hbd v hv; omega
end Go.Proofs.Ytdjglkpcdhkodaa
