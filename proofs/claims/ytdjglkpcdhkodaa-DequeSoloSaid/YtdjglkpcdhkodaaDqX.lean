/- The deque's plain law: a turn keeps what holds, whole. No program in sight. -/
import Derived.Test.YtdjglkpcdhkodaaDqV
namespace Go.Proofs.Ytdjglkpcdhkodaa
open Go.RowKit
set_option linter.unusedVariables false

theorem fin_ans {x : Ph} {l : Ly} {a pt : Int} (hx : x ≠ .id) : match x.fin with | none => ∃ k c o v, x.ans l a pt = .ask k c o v | some (v, is, e) => ∃ p, x.ans l a pt = .out v is e p := by
  cases x with
  | id => exact absurd rfl hx
  | mv b r t ms => cases ms <;> exact ⟨_, _, _, _, rfl⟩
  | un => exact ⟨_, rfl⟩
  | fu => exact ⟨_, rfl⟩
  | on _ _ _ => exact ⟨_, rfl⟩
  | sn _ _ _ _ => exact ⟨_, rfl⟩
  | _ => exact ⟨_, _, _, _, rfl⟩
theorem ans_kind {x : Ph} {l : Ly} {a pt k c o v : Int} (h : x.ans l a pt = .ask k c o v) : (k = 1 ∧ o = 0 ∧ v = 0) ∨ (k = 2 ∧ o = 0) ∨ k = 3 := by
  cases x with
  | mv b r t ms => cases ms <;> (injection h with h1 h2 h3 h4; omega)
  | id => cases h
  | un => cases h
  | fu => cases h
  | on _ _ _ => cases h
  | sn _ _ _ _ => cases h
  | _ => injection h with h1 h2 h3 h4; omega
theorem add_fl {x : Ph} {l : Ly} {r : Int × Bool} (h : (x.add l r).fl = true) : x.fl = true ∨ ∃ b, x = .o1 b := by
  cases x with
  | mv b r t ms => cases ms <;> cases h
  | u2 b t => simp only [Ph.add] at h; repeat' split at h
              all_goals cases h
  | o1 b => exact .inr ⟨b, rfl⟩
  | o2 _ => exact .inl rfl
  | oe _ => exact .inl rfl
  | o3 _ _ => exact .inl rfl
  | o4 _ _ _ => exact .inl rfl
  | o5 _ _ => exact .inl rfl
  | o6 _ _ _ => exact .inl rfl
  | s1 t => simp only [Ph.add] at h; split at h <;> cases h
  | _ => cases h
theorem gp_fl {x : Ph} (h : x.fl = true) (step p : Nat) : gp x step p = p := by
  cases x <;> first | rfl | cases h
section
variable {l : Ly} {sz : Nat} {m : List Int} {a : Int} {ph : Nat → Ph} {f : Nat → Nat} {p : Nat} {q : Bool}
theorem own_v (ci : CI l sz m a ph f p q) (ly : DLay l sz) (hb : bot m + fli (ph 0) ≤ 900) (hm : ∀ c : Int, -1000 ≤ cel m c ∧ cel m c ≤ 1000) (ha : (ph 0).kindOf = 8 → -1000 ≤ a ∧ a ≤ 1000) {pt k c o v : Int} (hp : (ph 0).ans l a pt = .ask k c o v) : -1000 ≤ v ∧ v ≤ 1000 := by
  have hown := ci.own
  have hb0 := ci.b0
  have hr3 := rings3 ly
  obtain ⟨hr0, hr1⟩ := ci.r0
  cases e : ph 0 with
  | mv b r t ms =>
    rw [e] at hp hown
    obtain ⟨_, g2, _⟩ := hown
    cases ms <;> (injection hp with h1 h2 h3 h4; omega)
  | mx b r t mm ms x =>
    rw [e] at hp hown
    obtain ⟨g1, g2, g3, g4, g5, g6, kk, g7, g8, g9, g10⟩ := hown
    injection hp with h1 h2 h3 h4
    rw [← h4, g10]
    exact hm _
  | pt b t r =>
    rw [e] at hp
    injection hp with h1 h2 h3 h4
    rw [← h4]
    exact ha (by rw [e]; rfl)
  | bt b t => rw [e] at hp hown hb hb0; simp [fli, Ph.fl] at hb hb0; obtain ⟨g1, _⟩ := hown; injection hp with h1 h2 h3 h4; omega
  | o1 b => rw [e] at hp hown hb hb0; simp [fli, Ph.fl] at hb hb0; have g1 : b = bot m := hown; injection hp with h1 h2 h3 h4; omega
  | oe b => rw [e] at hp hown hb hb0; simp [fli, Ph.fl] at hb hb0; obtain ⟨g1, _⟩ := hown; injection hp with h1 h2 h3 h4; omega
  | o5 b x => rw [e] at hp hown hb hb0; simp [fli, Ph.fl] at hb hb0; obtain ⟨g1, _⟩ := hown; injection hp with h1 h2 h3 h4; omega
  | o6 b x c => rw [e] at hp hown hb hb0; simp [fli, Ph.fl] at hb hb0; obtain ⟨g1, _⟩ := hown; injection hp with h1 h2 h3 h4; omega
  | s4 t x => rw [e] at hown; exact hown.elim
  | id => rw [e] at hp; cases hp
  | un => rw [e] at hp; cases hp
  | fu => rw [e] at hp; cases hp
  | on _ _ _ => rw [e] at hp; cases hp
  | sn _ _ _ _ => rw [e] at hp; cases hp
  | _ => rw [e] at hp; injection hp with h1 h2 h3 h4; omega
theorem th_v (ci : CI l sz m a ph f p q) (hb : bot m + fli (ph 0) ≤ 900) {i : Nat} (hi : i = 1 ∨ i = 2) {a' pt k c o v : Int} (hp : (ph i).ans l a' pt = .ask k c o v) : -1000 ≤ v ∧ v ≤ 1000 := by
  have ht := ci.th i hi
  have htb := ci.tb
  have hbe := beff_le m (ph 0) q
  cases e : ph i with
  | s4 t x => rw [e] at hp ht; obtain ⟨g1, g2, _⟩ := ht; injection hp with h1 h2 h3 h4; omega
  | s0 => rw [e] at hp; injection hp with h1 h2 h3 h4; omega
  | s1 _ => rw [e] at hp; injection hp with h1 h2 h3 h4; omega
  | s2 _ => rw [e] at hp; injection hp with h1 h2 h3 h4; omega
  | s3 _ _ => rw [e] at hp; injection hp with h1 h2 h3 h4; omega
  | id => rw [e] at hp; cases hp
  | sn _ _ _ _ => rw [e] at hp; cases hp
  | _ => rw [e] at ht; exact ht.elim
end
theorem mk_in {m : List Int} {k c o v : Int} (hk : (k = 1 ∧ o = 0 ∧ v = 0) ∨ (k = 2 ∧ o = 0) ∨ k = 3) (hm : ∀ c : Int, -1000 ≤ cel m c ∧ cel m c ≤ 1000) (hv : -1000 ≤ v ∧ v ≤ 1000) (d : Int) : -1000 ≤ cel (mkM k c o v m) d ∧ cel (mkM k c o v m) d ≤ 1000 := by
  rcases hk with ⟨rfl, rfl, rfl⟩ | ⟨rfl, rfl⟩ | rfl
  · rw [(mk1 c m).1]; exact hm d
  · rw [(mk2 c v m).1]; exact cel_set_in hm hv d
  · rw [(mk3 c o v m).1]
    split
    · exact cel_set_in hm hv d
    · exact hm d
theorem tl_in {m : List Int} (k c o v : Int) (hm : ∀ c : Int, -1000 ≤ cel m c ∧ cel m c ≤ 1000) : -1000 ≤ (tlM k c o v m).1 ∧ (tlM k c o v m).1 ≤ 1000 := hm c
section
variable {l : Ly} {sz : Nat} {pl : PlayD} {row0 : List Int} {n : Nat} {t : TabD} {who : Nat}
theorem DI.more (h : DI l sz pl row0 n t) {n' : Nat} (hn : n ≤ n') : DI l sz pl row0 n' t := ⟨h.ex, h.si, h.sk, h.mb, Nat.le_trans h.st hn, Nat.le_trans h.dn hn, h.bd⟩
/-- An operation's last turn. -/
theorem DI.over (h : DI l sz pl row0 n t) (hw : who < 3) (hk : (t.seat who).op.kind ≠ 0) {val err pt : Int} {is : Bool} (hn : nextD l (t.seat who).op (t.seat who).log = .out val is err pt) : DI l sz pl row0 (n + 1) (stepD l who t) := by
  have hsk := h.sk who hw
  have hk3 : (t.seat who).op.kind = 8 ∨ (t.seat who).op.kind = 9 ∨ (t.seat who).op.kind = 10 := by
    rcases hsk.kd with h1 | ⟨_, h1⟩ | ⟨_, h1⟩
    · exact absurd h1 hk
    · rcases h1 with h1 | h1
      · exact .inl h1
      · exact .inr (.inl h1)
    · exact .inr (.inr h1)
  obtain ⟨hko, hne⟩ := ph_ne (l := l) hk3
  obtain ⟨pt', ea⟩ := nextD_ans l (t.seat who).op (t.seat who).log hk3
  have ep : (t.seat who).ph l = phOf l (t.seat who).op.kind (t.seat who).log := if_neg hk
  rw [← ep, hn] at ea
  have hfin := fin_of hne ea.symm
  obtain ⟨f1, f2, f3, f4⟩ := fin_ph hfin
  have hst : stepD l who t = { t with seat := upS t.seat who { t.seat who with op := op0 }, done := t.done ++ [⟨who, (t.seat who).op, (t.seat who).first, (t.seat who).last, val, is, err, pt⟩] } := by
    unfold stepD
    rw [hn]
  rw [hst]
  obtain ⟨d, hd⟩ : ∃ d, d = (⟨who, (t.seat who).op, (t.seat who).first, (t.seat who).last, val, is, err, pt⟩ : DoneD) := ⟨_, rfl⟩
  obtain ⟨s, hs⟩ : ∃ s, s = ({ t.seat who with op := op0 } : SeatD) := ⟨_, rfl⟩
  rw [← hd, ← hs]
  have hs0 : s.op.kind = 0 := by rw [hs]
  obtain ⟨rest, r1, r2⟩ := pends_perm l t.seat hw
  have hrec : (recsOf l { t with seat := upS t.seat who s, done := t.done ++ [d] }).Perm (recsOf l t) := by
    unfold recsOf
    dsimp only
    rw [List.append_assoc]
    refine List.Perm.append_left _ (List.Perm.trans ?_ r1.symm)
    rw [pend_out hk hn, ← hd]
    have := r2 s
    rw [pend_id hs0] at this
    exact List.Perm.append_left _ this
  obtain ⟨p, q, pre, post, ci, li, pm, fp⟩ := h.ex
  have hseat : ∀ k, k < 3 → SeatOk l pl t.step k (upS t.seat who s k) := fun k hk3' => by
    by_cases e : k = who
    · subst e
      rw [upS_same, hs]
      exact ⟨.inl rfl, fun h => absurd rfl h, hsk.fs, hsk.lg, fun h => absurd rfl h, hsk.ll, hsk.nx, fun h => by cases h⟩
    · rw [upS_other _ _ e]; exact h.sk k hk3'
  have hfo : ∀ k, (upS t.seat who s k).first = (t.seat k).first := fun k => by
    by_cases e : k = who
    · subst e; rw [upS_same, hs]
    · rw [upS_other _ _ e]
  have hdn : (t.done ++ [d]).length ≤ n + 1 := by have := h.dn; simp; omega
  by_cases e : who = 0
  · subst e
    have hsi := h.si
    have hlp : Lp t.m .id = Lp t.m ((t.seat 0).ph l) := by rw [lp_eq rfl, lp_eq f1]
    have hfl0 : fli ((t.seat 0).ph l) = 0 := by unfold fli; rw [f1]; rfl
    refine ⟨⟨p, q, pre, post, ?_, ?_, pm.trans (hrec.filter _).symm, ?_⟩, ?_, hseat, h.mb, Nat.le_trans h.st (Nat.le_succ _), hdn, h.bd⟩
    · dsimp only
      rw [phs_up, upS_same, id_ph hs0]
      exact ci.set0 rfl f1 trivial (fun k _ => hfo k)
    · dsimp only
      rw [upS_same, id_ph hs0]
      exact li.quiet (m' := t.m) (p0' := .id) (q' := q) (by rw [f1]; rfl) rfl (fun rp r0 hr => (FlRel.nofl rfl).2 ((FlRel.nofl f1).1 hr)) (Nat.le_refl _)
    · dsimp only
      rw [upS_same, id_ph hs0]
      intro e; cases e
    · dsimp only
      rw [upS_same, id_ph hs0]
      have hnx : s.next = (t.seat 0).next := by rw [hs]
      rw [hnx]
      have hbn := hsi.bn
      rw [hfl0, f2] at hbn
      have h2 : SI t.m .id s.op.a (t.seat 0).next (recsOf l t) t.step := by
        refine ⟨by simpa [fli, Ph.fl, pnd] using hbn, by rw [hlp]; exact hsi.so, fun v hv => ?_, (fun e => by cases e), (fun _ _ e => by cases e), fun d hd g1 g2 => ?_, hsi.pw, hsi.tk, hsi.pu⟩
        · rw [hlp] at hv
          have := hsi.bd v hv
          rw [f2] at this
          exact this
        · have := hsi.st d hd g1 g2
          rw [f2] at this
          rw [hlp]
          exact this
      exact h2.sub fun d hd => hrec.mem_iff.1 hd
  · have ha : (upS t.seat who s 0) = t.seat 0 := upS_other _ _ (fun e' => e e'.symm)
    refine ⟨⟨p, q, pre, post, ?_, by dsimp only; rw [ha]; exact li, pm.trans (hrec.filter _).symm, by dsimp only; rw [ha]; exact fp⟩, ?_, hseat, h.mb, Nat.le_trans h.st (Nat.le_succ _), hdn, h.bd⟩
    · dsimp only
      rw [phs_up, ha, id_ph hs0]
      exact ci.setk (by omega) (fun _ _ _ => trivial) (fun k _ => hfo k)
    · dsimp only
      rw [ha]
      exact h.si.sub fun d hd => hrec.mem_iff.1 hd
/-- An access. -/
theorem DI.acc (h : DI l sz pl row0 n t) (ly : DLay l sz) (ho : pl.own.length ≤ 900) (hw : who < 3) (hk : (t.seat who).op.kind ≠ 0) {k c o v : Int} (hn : nextD l (t.seat who).op (t.seat who).log = .ask k c o v) :
    (⟨k, c, o, v⟩ : Acc).err t.m.length = 0 ∧ DI l sz pl row0 (n + 1) (stepD l who t) := by
  have hsk := h.sk who hw
  have hk3 : (t.seat who).op.kind = 8 ∨ (t.seat who).op.kind = 9 ∨ (t.seat who).op.kind = 10 := by
    rcases hsk.kd with h1 | ⟨_, h1⟩ | ⟨_, h1⟩
    · exact absurd h1 hk
    · rcases h1 with h1 | h1
      · exact .inl h1
      · exact .inr (.inl h1)
    · exact .inr (.inr h1)
  obtain ⟨hko, hne⟩ := ph_ne (l := l) hk3
  obtain ⟨pt, ea⟩ := ph_ask hk3 hn
  have hst : stepD l who t = { t with m := mkM k c o v t.m, step := t.step + 1, seat := upS t.seat who { t.seat who with log := (t.seat who).log ++ [tlM k c o v t.m], last := t.step } } := by
    unfold stepD
    rw [hn]
  rw [hst]
  obtain ⟨s, hs⟩ : ∃ s, s = ({ t.seat who with log := (t.seat who).log ++ [tlM k c o v t.m], last := t.step } : SeatD) := ⟨_, rfl⟩
  rw [← hs]
  have hsp : s.ph l = ((t.seat who).ph l).add l (tlM k c o v t.m) := by rw [hs]; exact ph_add hk _ _
  have hsop : s.op = (t.seat who).op := by rw [hs]
  have hsf : s.first = (t.seat who).first := by rw [hs]
  have hsn : s.next = (t.seat who).next := by rw [hs]
  have hsl : s.last = t.step := by rw [hs]
  have hks : s.op.kind = 8 ∨ s.op.kind = 9 ∨ s.op.kind = 10 := by rw [hsop]; exact hk3
  obtain ⟨rest, r1, r2⟩ := pends_perm l t.seat hw
  obtain ⟨D, hD⟩ : ∃ D, D = pend l who s := ⟨_, rfl⟩
  have hrec : (recsOf l { t with m := mkM k c o v t.m, step := t.step + 1, seat := upS t.seat who s }).Perm (recsOf l t ++ D) := by
    unfold recsOf
    dsimp only
    rw [List.append_assoc]
    refine List.Perm.append_left _ ((r2 s).trans ?_)
    rw [← hD]
    refine List.Perm.trans List.perm_append_comm (List.Perm.append_right _ ?_)
    refine List.Perm.trans ?_ r1.symm
    rw [pend_ask hn]
    exact List.Perm.refl _
  -- the record
  have hfin : match (s.ph l).fin with | none => D = [] | some (v, is, e) => ∃ p, D = [⟨who, s.op, s.first, s.last, v, is, e, p⟩] := by
    obtain ⟨pt2, e2⟩ := nextD_ans l s.op s.log hks
    have ep : s.ph l = phOf l s.op.kind s.log := if_neg (by omega)
    rw [← ep] at e2
    have h1 := fin_ans (l := l) (a := s.op.a) (pt := pt2) (ph_ne (l := l) hks).2
    cases hf : (s.ph l).fin with
    | none =>
      rw [hf] at h1
      obtain ⟨k', c', o', v', h1⟩ := h1
      rw [h1] at e2
      rw [hD]
      exact pend_ask e2
    | some x =>
      obtain ⟨v', is', e'⟩ := x
      rw [hf] at h1
      obtain ⟨p', h1⟩ := h1
      rw [h1] at e2
      rw [hD]
      exact ⟨p', pend_out (by omega) e2⟩
  obtain ⟨p, q, pre, post, ci, li, pm, fp⟩ := h.ex
  have hfs : ∀ j, j < 3 → (t.seat j).first ≤ t.step := fun j hj => (h.sk j hj).fs
  have hak := ans_kind ea
  have hbn := h.si.bn
  have hnx0 := (h.sk 0 (by omega)).nx
  unfold lim at hnx0
  rw [if_pos rfl] at hnx0
  have hb900 : bot t.m + fli ((t.seat 0).ph l) ≤ 900 := by omega
  have hrk : rk (s.ph l) + 1 ≤ rk ((t.seat who).ph l) := by
    rw [hsp]
    refine rk_add ea fun b t' e => ?_
    by_cases e0 : who = 0
    · subst e0
      have hown := ci.own
      rw [e] at hown ea
      obtain ⟨g1, g2, g3, g4⟩ := hown
      injection ea with a1 a2 a3 a4
      have hr3 := rings3 ly
      obtain ⟨hr0, hr1⟩ := ci.r0
      have hcs := size_cases hr0 (by omega)
      have : ∀ r, (movesOf l 0 r t' b).length ≤ (b - t').toNat := fun r => by
        unfold movesOf
        split
        · simp
        · simp
      have := this (tlM k c o v t.m).1
      omega
    · have hth := ci.th who (by omega)
      rw [e] at hth
      exact hth.elim
  have hvv : -1000 ≤ v ∧ v ≤ 1000 := by
    by_cases e0 : who = 0
    · subst e0
      exact own_v ci ly hb900 h.mb (fun h8 => by have := hsk.a1 (by rw [← hko]; exact h8); omega) ea
    · exact th_v ci hb900 (i := who) (by omega) ea
  have hmb : ∀ c' : Int, -1000 ≤ cel (mkM k c o v t.m) c' ∧ cel (mkM k c o v t.m) c' ≤ 1000 := mk_in hak h.mb hvv
  have hseat : ∀ j, j < 3 → SeatOk l pl (t.step + 1) j (upS t.seat who s j) := fun j hj => by
    by_cases e : j = who
    · subst e
      rw [upS_same]
      refine ⟨by rw [hsop]; exact hsk.kd, by rw [hsop]; exact hsk.ob, by rw [hsf]; have := hsk.fs; omega, fun x hx => ?_, fun _ => ?_, ?_, by rw [hsn]; exact hsk.nx, by rw [hsop]; exact hsk.a1⟩
      · rw [hs] at hx
        rcases List.mem_append.1 hx with hx | hx
        · exact hsk.lg x hx
        · rw [List.mem_singleton.1 hx]; exact tl_in k c o v h.mb
      · have h1 := hsk.ln hk
        have h2 : s.log.length = (t.seat j).log.length + 1 := by rw [hs]; simp
        omega
      · have h1 := hsk.ln hk
        have h2 : s.log.length = (t.seat j).log.length + 1 := by rw [hs]; simp
        omega
    · rw [upS_other _ _ e]
      have hj2 := h.sk j hj
      exact ⟨hj2.kd, hj2.ob, by have := hj2.fs; omega, hj2.lg, hj2.ln, hj2.ll, hj2.nx, hj2.a1⟩
  have hfo : ∀ j, (upS t.seat who s j).first = (t.seat j).first := fun j => by
    by_cases e : j = who
    · subst e; rw [upS_same, hsf]
    · rw [upS_other _ _ e]
  have hfo2 : (fun j => (upS t.seat who s j).first) = fun j => (t.seat j).first := funext hfo
  have hdn : t.done.length ≤ n + 1 := Nat.le_trans h.dn (Nat.le_succ _)
  have hst1 : t.step + 1 ≤ n + 1 := by have := h.st; omega
  have hpm : ∀ {L : List DoneD}, L.Perm ((pre ++ post).map (·.1) ++ D.filter fun d => decide (d.err ≠ 9)) → L.Perm ((recsOf l { t with m := mkM k c o v t.m, step := t.step + 1, seat := upS t.seat who s }).filter fun d => decide (d.err ≠ 9)) := fun {L} hL => by
    refine hL.trans (List.Perm.trans ?_ (hrec.filter _).symm)
    rw [List.filter_append]
    exact List.Perm.append_right _ pm
  have hsub : ∀ d ∈ recsOf l { t with m := mkM k c o v t.m, step := t.step + 1, seat := upS t.seat who s }, d ∈ D ++ recsOf l t := fun d hd => by
    have := hrec.mem_iff.1 hd
    rcases List.mem_append.1 this with h1 | h1
    · exact List.mem_append_right _ h1
    · exact List.mem_append_left _ h1
  by_cases e : who = 0
  · subst e
    obtain ⟨c1, c2⟩ := ci.own_step ly hfs ea
    have hR : Recs (((t.seat 0).ph l).add l (tlM k c o v t.m)) ((t.seat 0).ph l).kindOf (t.seat 0).op.a t.step p ((t.seat 0).ph l).fl D := by
      unfold Recs
      rw [← hsp]
      cases hf : (s.ph l).fin with
      | none => rw [hf] at hfin; exact hfin
      | some x =>
        obtain ⟨v', is', e'⟩ := x
        rw [hf] at hfin
        obtain ⟨p', hfin⟩ := hfin
        exact ⟨_, hfin, by rw [hko, hsop], by rw [hsop], rfl, rfl, rfl, hsl, by dsimp only; rw [hsf]; exact hsk.fs, fun hfl => by dsimp only; rw [hsf]; exact fp hfl⟩
    obtain ⟨⟨pre', post', l1, l2⟩, l3⟩ := own_li ci ly li h.si ea hR
    refine ⟨c1, ⟨⟨gp ((t.seat 0).ph l) t.step p, gq ((t.seat 0).ph l) t.m q, pre', post', ?_, ?_, hpm l2, ?_⟩, ?_, hseat, hmb, hst1, hdn, h.bd⟩⟩
    · dsimp only
      rw [phs_up, hfo2, upS_same, hsp, hsop]
      exact c2
    · dsimp only
      rw [upS_same, hsp]
      exact l1
    · dsimp only
      rw [upS_same, hsp, hsf]
      intro hfl
      rcases add_fl hfl with h1 | ⟨b, h1⟩
      · rw [gp_fl h1]; exact fp h1
      · rw [h1]; exact hsk.fs
    · dsimp only
      rw [upS_same, hsp, hsop, hsn]
      exact l3.sub hsub
  · have ha : (upS t.seat who s 0) = t.seat 0 := upS_other _ _ (fun e' => e e'.symm)
    have hi : who = 1 ∨ who = 2 := by omega
    obtain ⟨c1, c2⟩ := ci.th_step ly hi ea
    have hk10 : (t.seat who).op.kind = 10 := by
      rcases hsk.kd with h1 | ⟨h1, _⟩ | ⟨_, h1⟩
      · exact absurd h1 hk
      · exact absurd h1 e
      · exact h1
    have hR : RecT (((t.seat who).ph l).add l (tlM k c o v t.m)) t.step (t.seat who).first D := by
      unfold RecT
      rw [← hsp]
      cases hf : (s.ph l).fin with
      | none => rw [hf] at hfin; exact hfin
      | some x =>
        obtain ⟨v', is', e'⟩ := x
        rw [hf] at hfin
        obtain ⟨p', hfin⟩ := hfin
        exact ⟨_, hfin, by rw [hsop]; exact hk10, rfl, rfl, rfl, hsl, hsf⟩
    obtain ⟨⟨pre', post', l1, l2⟩, l3⟩ := th_li ci ly hfs li h.si hi ea hR
    refine ⟨c1, ⟨⟨p, q, pre', post', ?_, by dsimp only; rw [ha]; exact l1, hpm l2, by dsimp only; rw [ha]; exact fp⟩, ?_, hseat, hmb, hst1, hdn, h.bd⟩⟩
    · dsimp only
      rw [phs_up, hfo2, ha, hsp]
      exact c2
    · dsimp only
      rw [ha]
      exact l3.sub hsub
/-- A turn. -/
theorem DI.turn (h : DI l sz pl row0 n t) (ly : DLay l sz) (ho : pl.own.length ≤ 900) (hw : who < 3) :
    DI l sz pl row0 (n + 1) (turnD l pl who t) ∧ ∀ k c o v, nextD l (wakeD pl who t.step (t.seat who)).op (wakeD pl who t.step (t.seat who)).log = .ask k c o v → (wakeD pl who t.step (t.seat who)).op.kind ≠ 0 → (⟨k, c, o, v⟩ : Acc).err t.m.length = 0 := by
  have go : ∀ t' : TabD, DI l sz pl row0 n t' → (t'.seat who).op.kind ≠ 0 → DI l sz pl row0 (n + 1) (stepD l who t') ∧ ∀ k c o v, nextD l (t'.seat who).op (t'.seat who).log = .ask k c o v → (⟨k, c, o, v⟩ : Acc).err t'.m.length = 0 := fun t' h' hk' => by
    cases hn : nextD l (t'.seat who).op (t'.seat who).log with
    | ask k c o v =>
      obtain ⟨g1, g2⟩ := h'.acc ly ho hw hk' hn
      exact ⟨g2, fun k' c' o' v' e => by injection e with e1 e2 e3 e4; subst e1 e2 e3 e4; exact g1⟩
    | out val is err pt => exact ⟨h'.over hw hk' hn, fun _ _ _ _ e => by cases e⟩
  by_cases hk : (t.seat who).op.kind = 0
  · by_cases hz : (wishD pl who (t.seat who).next).kind = 0
    · have e : wakeD pl who t.step (t.seat who) = { t.seat who with op := wishD pl who (t.seat who).next } := by
        unfold wakeD
        rw [if_pos hk, if_pos hz]
      have hk2 : (wakeD pl who t.step (t.seat who)).op.kind = 0 := by rw [e]; exact hz
      rw [turn_idle hk2]
      refine ⟨?_, fun _ _ _ _ _ h => absurd hk2 h⟩
      refine (h.reseat hw ?_ hk2 hk (by rw [e]) (by rw [e]) ?_).more (Nat.le_succ _)
      · rw [id_ph hk2, id_ph hk]
      · have := h.sk who hw
        rw [e]
        exact ⟨.inl hz, fun h => absurd hz h, this.fs, this.lg, fun h => absurd hz h, this.ll, this.nx, fun h => by dsimp only at h; omega⟩
    · have e : wakeD pl who t.step (t.seat who) = ⟨wishD pl who (t.seat who).next, [], t.step, t.step, (t.seat who).next + 1⟩ := by
        unfold wakeD
        rw [if_pos hk, if_neg hz]
      have hk2 : (wakeD pl who t.step (t.seat who)).op.kind ≠ 0 := by rw [e]; exact hz
      rw [turn_step hk2, e]
      have hwk := h.wake ho hw hk hz
      obtain ⟨g1, g2⟩ := go _ hwk (by dsimp only; rw [upS_same]; exact hz)
      refine ⟨g1, fun k c o v hq _ => g2 k c o v ?_⟩
      dsimp only
      rw [upS_same]
      exact hq
  · have e : wakeD pl who t.step (t.seat who) = t.seat who := by
      unfold wakeD
      rw [if_neg hk]
    have hk2 : (wakeD pl who t.step (t.seat who)).op.kind ≠ 0 := by rw [e]; exact hk
    rw [turn_step hk2, e, upS_id]
    obtain ⟨g1, g2⟩ := go t h hk
    exact ⟨g1, fun k c o v hq _ => g2 k c o v hq⟩
end
end Go.Proofs.Ytdjglkpcdhkodaa
