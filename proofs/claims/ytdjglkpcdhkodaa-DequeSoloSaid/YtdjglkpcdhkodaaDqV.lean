/- The deque's plain law: a turn keeps what holds. No program in sight. -/
import Derived.Test.YtdjglkpcdhkodaaDqR
namespace Go.Proofs.Ytdjglkpcdhkodaa
open Go.RowKit
set_option linter.unusedVariables false

/-- A turn of a seat that is at work. -/
def stepD (l : Ly) (who : Nat) (t : TabD) : TabD :=
  match nextD l (t.seat who).op (t.seat who).log with
  | .out val is err pt => { t with seat := upS t.seat who { t.seat who with op := op0 }, done := t.done ++ [⟨who, (t.seat who).op, (t.seat who).first, (t.seat who).last, val, is, err, pt⟩] }
  | .ask k c o v => { t with m := mkM k c o v t.m, step := t.step + 1, seat := upS t.seat who { t.seat who with log := (t.seat who).log ++ [tlM k c o v t.m], last := t.step } }
theorem turn_step {l : Ly} {p : PlayD} {who : Nat} {t : TabD} (h : (wakeD p who t.step (t.seat who)).op.kind ≠ 0) : turnD l p who t = stepD l who { t with seat := upS t.seat who (wakeD p who t.step (t.seat who)) } := by
  unfold turnD stepD
  simp only [upS_same, upS_up, if_neg h]
  rfl
theorem turn_idle {l : Ly} {p : PlayD} {who : Nat} {t : TabD} (h : (wakeD p who t.step (t.seat who)).op.kind = 0) : turnD l p who t = { t with seat := upS t.seat who (wakeD p who t.step (t.seat who)) } := by
  unfold turnD
  simp only [if_pos h]
theorem pends_perm (l : Ly) (seat : Nat → SeatD) {who : Nat} (hw : who < 3) : ∃ rest, (pends l seat).Perm (pend l who (seat who) ++ rest) ∧ ∀ s, (pends l (upS seat who s)).Perm (pend l who s ++ rest) := by
  have h : who = 0 ∨ who = 1 ∨ who = 2 := by omega
  rcases h with rfl | rfl | rfl
  · exact ⟨_, List.Perm.refl _, fun s => by
      unfold pends
      rw [upS_same, upS_other _ _ (by omega), upS_other _ _ (by omega)]⟩
  · refine ⟨pend l 0 (seat 0) ++ pend l 2 (seat 2), ?_, fun s => ?_⟩
    · unfold pends
      rw [← List.append_assoc, ← List.append_assoc]
      exact List.Perm.append_right _ List.perm_append_comm
    · unfold pends
      rw [upS_same, upS_other _ _ (by omega), upS_other _ _ (by omega), ← List.append_assoc, ← List.append_assoc]
      exact List.Perm.append_right _ List.perm_append_comm
  · refine ⟨pend l 0 (seat 0) ++ pend l 1 (seat 1), ?_, fun s => ?_⟩
    · unfold pends
      rw [← List.append_assoc]
      exact List.perm_append_comm
    · unfold pends
      rw [upS_same, upS_other _ _ (by omega), upS_other _ _ (by omega), ← List.append_assoc]
      exact List.perm_append_comm
theorem phs_up (l : Ly) (seat : Nat → SeatD) (who : Nat) (s : SeatD) : (fun k => (upS seat who s k).ph l) = upP (fun k => (seat k).ph l) who (s.ph l) := by
  funext k
  unfold upS upP
  split <;> rfl
theorem id_ph {l : Ly} {s : SeatD} (h : s.op.kind = 0) : s.ph l = .id := if_pos h
theorem start_ph {l : Ly} {op : Opr} {f la nx : Nat} (h : op.kind ≠ 0) : SeatD.ph l ⟨op, [], f, la, nx⟩ = if op.kind = 8 then .u0 else if op.kind = 9 then .o0 else .s0 := by
  unfold SeatD.ph
  rw [if_neg h]
  rfl
theorem pend_id {l : Ly} {who : Nat} {s : SeatD} (h : s.op.kind = 0) : pend l who s = [] := if_pos h
theorem pend_ask {l : Ly} {who : Nat} {s : SeatD} {k c o v : Int} (hn : nextD l s.op s.log = .ask k c o v) : pend l who s = [] := by
  unfold pend
  split
  · rfl
  · rw [hn]
theorem pend_out {l : Ly} {who : Nat} {s : SeatD} {val err pt : Int} {is : Bool} (h : s.op.kind ≠ 0) (hn : nextD l s.op s.log = .out val is err pt) : pend l who s = [⟨who, s.op, s.first, s.last, val, is, err, pt⟩] := by
  unfold pend
  rw [if_neg h, hn]
theorem next_nil (l : Ly) (op : Opr) : ∃ k c o v, nextD l op [] = .ask k c o v := by
  unfold nextD
  split
  · exact ⟨_, _, _, _, rfl⟩
  · split
    · exact ⟨_, _, _, _, rfl⟩
    · exact ⟨_, _, _, _, rfl⟩
section
variable {l : Ly} {sz : Nat} {pl : PlayD} {row0 : List Int} {n : Nat} {t : TabD} {who : Nat}
/-- Seats are turned, but no record, no place. -/
theorem DI.reseat (h : DI l sz pl row0 n t) (hw : who < 3) {s : SeatD} (hp : s.ph l = (t.seat who).ph l) (hk : s.op.kind = 0) (hk0 : (t.seat who).op.kind = 0) (hf : s.first = (t.seat who).first) (hn : s.next = (t.seat who).next) (hs : SeatOk l pl t.step who s) : DI l sz pl row0 n { t with seat := upS t.seat who s } := by
  obtain ⟨rest, r1, r2⟩ := pends_perm l t.seat hw
  have hrec : (recsOf l { t with seat := upS t.seat who s }).Perm (recsOf l t) := by
    unfold recsOf
    refine List.Perm.append_left _ ((r2 s).trans ?_)
    rw [pend_id hk]
    refine List.Perm.trans ?_ r1.symm
    rw [pend_id hk0]
  obtain ⟨p, q, pre, post, ci, li, pm, fp⟩ := h.ex
  have hseat : ∀ k, k < 3 → SeatOk l pl t.step k (upS t.seat who s k) := fun k hk3 => by
    by_cases e : k = who
    · subst e; rw [upS_same]; exact hs
    · rw [upS_other _ _ e]; exact h.sk k hk3
  have hph : (fun k => (upS t.seat who s k).ph l) = fun k => (t.seat k).ph l := by
    funext k
    by_cases e : k = who
    · subst e; rw [upS_same]; exact hp
    · rw [upS_other _ _ e]
  have hfs : (fun k => (upS t.seat who s k).first) = fun k => (t.seat k).first := by
    funext k
    by_cases e : k = who
    · subst e; rw [upS_same]; exact hf
    · rw [upS_other _ _ e]
  have hnx : (upS t.seat who s 0).next = (t.seat 0).next := by
    by_cases e : (0 : Nat) = who
    · subst e; rw [upS_same]; exact hn
    · rw [upS_other _ _ e]
  have h0 : (upS t.seat who s 0).ph l = (t.seat 0).ph l := congrFun hph 0
  have hf0 : (upS t.seat who s 0).first = (t.seat 0).first := congrFun hfs 0
  by_cases e : who = 0
  · subst e
    have hid : (t.seat 0).ph l = .id := id_ph hk0
    refine ⟨⟨p, q, pre, post, ?_, by dsimp only; rw [h0]; exact li, pm.trans (hrec.filter _).symm, by dsimp only; rw [h0, hf0]; exact fp⟩, ?_, hseat, h.mb, h.st, h.dn, h.bd⟩
    · dsimp only
      rw [hph, hfs]
      have hc := ci.set0 (a' := (upS t.seat 0 s 0).op.a) (f' := fun k => (t.seat k).first) (x := .id) rfl (by rw [hid]; rfl) trivial (fun k _ => rfl)
      have he : upP (fun k => (t.seat k).ph l) 0 .id = fun k => (t.seat k).ph l := by
        funext k
        unfold upP
        split
        · rename_i e; rw [e]; exact hid.symm
        · rfl
      rw [he] at hc
      exact hc
    · dsimp only
      rw [h0, hnx, hid]
      have hsi := h.si
      rw [hid] at hsi
      have h2 : SI t.m .id (upS t.seat 0 s 0).op.a (t.seat 0).next (recsOf l t) t.step := ⟨hsi.bn, hsi.so, hsi.bd, (fun e => by cases e), hsi.w6, hsi.st, hsi.pw, hsi.tk, hsi.pu⟩
      exact h2.sub fun d hd => hrec.mem_iff.1 hd
  · have ha : (upS t.seat who s 0) = t.seat 0 := upS_other _ _ (fun e' => e e'.symm)
    refine ⟨⟨p, q, pre, post, by dsimp only; rw [hph, hfs, ha]; exact ci, by dsimp only; rw [h0]; exact li, pm.trans (hrec.filter _).symm, by dsimp only; rw [h0, hf0]; exact fp⟩, ?_, hseat, h.mb, h.st, h.dn, h.bd⟩
    dsimp only
    rw [ha]
    exact h.si.sub fun d hd => hrec.mem_iff.1 hd
theorem SI.wake {m : List Int} {a a' : Int} {nx : Nat} {recs : List DoneD} {step : Nat} {x : Ph} (h : SI m .id a nx recs step) (hx : x = .u0 ∧ a' = nx + 1 ∨ x = .o0) : SI m x a' (nx + 1) recs step := by
  have hp := pnd_le x
  have hfl : x.fl = false := by rcases hx with ⟨rfl, _⟩ | rfl <;> rfl
  have hL : Lp m x = Lp m .id := by rw [lp_eq hfl, lp_eq rfl]
  have hf0 : fli x = fli .id := by unfold fli; rw [hfl]; rfl
  have hbn := h.bn
  simp only [pnd] at hbn
  refine ⟨by rw [hf0]; omega, by rw [hL]; exact h.so, fun v hv => ?_, fun e => ?_, fun b y e => ?_, fun d hd h1 h2 => ?_, h.pw, fun d hd h1 h2 => by have := h.tk d hd h1 h2; omega, fun d hd h1 => by have := h.pu d hd h1; omega⟩
  · rw [hL] at hv
    have := h.bd v hv
    simp only [pnd] at this
    omega
  · rcases hx with ⟨_, rfl⟩ | rfl
    · rfl
    · cases e
  · rcases hx with ⟨rfl, _⟩ | rfl <;> cases e
  · obtain ⟨g1, g2, g3, g4⟩ := h.st d hd h1 h2
    simp only [pnd] at g3
    exact ⟨g1, by rw [hL]; exact g2, by omega, g4⟩
/-- A seat wakes. -/
theorem DI.wake (h : DI l sz pl row0 n t) (ho : pl.own.length ≤ 900) (hw : who < 3) (hk0 : (t.seat who).op.kind = 0) (hk : (wishD pl who (t.seat who).next).kind ≠ 0) : DI l sz pl row0 n { t with seat := upS t.seat who ⟨wishD pl who (t.seat who).next, [], t.step, t.step, (t.seat who).next + 1⟩ } := by
  obtain ⟨rest, r1, r2⟩ := pends_perm l t.seat hw
  obtain ⟨s, hs⟩ : ∃ s, s = (⟨wishD pl who (t.seat who).next, [], t.step, t.step, (t.seat who).next + 1⟩ : SeatD) := ⟨_, rfl⟩
  rw [← hs]
  have hsk : s.op.kind ≠ 0 := by rw [hs]; exact hk
  have hph : s.ph l = if s.op.kind = 8 then .u0 else if s.op.kind = 9 then .o0 else .s0 := by
    rw [hs]
    exact start_ph hk
  have hpe : pend l who s = [] := by
    obtain ⟨k, c, o, v, e⟩ := next_nil l s.op
    refine pend_ask (k := k) (c := c) (o := o) (v := v) ?_
    rw [hs] at e ⊢
    exact e
  have hrec : (recsOf l { t with seat := upS t.seat who s }).Perm (recsOf l t) := by
    unfold recsOf
    refine List.Perm.append_left _ ((r2 s).trans ?_)
    rw [hpe]
    refine List.Perm.trans ?_ r1.symm
    rw [pend_id hk0]
  obtain ⟨p, q, pre, post, ci, li, pm, fp⟩ := h.ex
  have hlim := wish_lt hk
  have hseat : ∀ k, k < 3 → SeatOk l pl t.step k (upS t.seat who s k) := fun k hk3 => by
    by_cases e : k = who
    · subst e
      rw [upS_same]
      have hkd : (k = 0 ∧ (s.op.kind = 8 ∨ s.op.kind = 9)) ∨ (0 < k ∧ s.op.kind = 10) := by
        by_cases e0 : k = 0
        · subst e0
          left
          rw [hs]
          rcases wish_own hk with h1 | h1
          · exact ⟨rfl, .inl h1.1⟩
          · exact ⟨rfl, .inr h1⟩
        · right
          rw [hs]
          exact ⟨by omega, wish_th (by omega) hk⟩
      refine ⟨.inr hkd, fun _ => ?_, by rw [hs]; exact Nat.le_refl _, by rw [hs]; simp, fun _ => ?_, by rw [hs]; simp, by rw [hs]; exact hlim, fun h8 => ?_⟩
      · rw [hs]
        exact wish_ob _ _ _
      · rw [hph]
        have hl : s.log = [] := by rw [hs]
        rw [hl]
        split
        · simp [rk]
        · split <;> simp [rk]
      · rcases hkd with ⟨rfl, _⟩ | ⟨_, h10⟩
        · rw [hs] at h8 ⊢
          rcases wish_own hk with h1 | h1
          · rw [h1.2]
            unfold lim at hlim
            rw [if_pos rfl] at hlim
            omega
          · dsimp only at h8; omega
        · omega
    · rw [upS_other _ _ e]; exact h.sk k hk3
  have hfo : ∀ k, k ≠ who → (upS t.seat who s k).first = (t.seat k).first := fun k e => by rw [upS_other _ _ e]
  by_cases e : who = 0
  · subst e
    have hid : (t.seat 0).ph l = .id := id_ph hk0
    have hsi := h.si
    rw [hid] at hsi li fp
    have hkd : (s.op.kind = 8 ∧ s.op.a = (t.seat 0).next + 1) ∨ s.op.kind = 9 := by rw [hs]; exact wish_own hk
    have hx : s.ph l = .u0 ∧ s.op.a = ((t.seat 0).next : Int) + 1 ∨ s.ph l = .o0 := by
      rw [hph]
      rcases hkd with ⟨h1, h2⟩ | h1
      · rw [if_pos h1]; exact .inl ⟨rfl, h2⟩
      · rw [if_neg (by omega), if_pos h1]; exact .inr rfl
    have hfl : (s.ph l).fl = false := by rcases hx with ⟨e, _⟩ | e <;> rw [e] <;> rfl
    refine ⟨⟨p, q, pre, post, ?_, ?_, pm.trans (hrec.filter _).symm, ?_⟩, ?_, hseat, h.mb, h.st, h.dn, h.bd⟩
    · dsimp only
      rw [phs_up, upS_same]
      refine ci.set0 hfl (by show ((t.seat 0).ph l).fl = false; rw [hid]; rfl) ?_ hfo
      rcases hx with ⟨e, _⟩ | e <;> rw [e] <;> trivial
    · dsimp only
      rw [upS_same]
      exact li.quiet (m' := t.m) (p0' := s.ph l) (q' := q) hfl rfl (fun rp r0 hr => (FlRel.nofl hfl).2 hr) (Nat.le_refl _)
    · dsimp only
      rw [upS_same, hfl]
      intro e; cases e
    · dsimp only
      rw [upS_same]
      have hnx : s.next = (t.seat 0).next + 1 := by rw [hs]
      rw [hnx]
      exact (hsi.wake hx).sub fun d hd => hrec.mem_iff.1 hd
  · have ha : (upS t.seat who s 0) = t.seat 0 := upS_other _ _ (fun e' => e e'.symm)
    have h10 : s.ph l = .s0 := by
      have : s.op.kind = 10 := by rw [hs]; exact wish_th (by omega) hk
      rw [hph, if_neg (by omega), if_neg (by omega)]
    refine ⟨⟨p, q, pre, post, ?_, by dsimp only; rw [ha]; exact li, pm.trans (hrec.filter _).symm, by dsimp only; rw [ha]; exact fp⟩, ?_, hseat, h.mb, h.st, h.dn, h.bd⟩
    · dsimp only
      rw [phs_up, ha, h10]
      exact ci.setk (by omega) (fun _ _ _ => trivial) hfo
    · dsimp only
      rw [ha]
      exact h.si.sub fun d hd => hrec.mem_iff.1 hd
end
end Go.Proofs.Ytdjglkpcdhkodaa
