/- Makes alone, on the model: the whole play. -/
import Derived.Test.YtcjaomiihajjbaaNumP
import Derived.Test.YtcjaomiihajjbaaFin
namespace Go.Proofs.Ytcjaomiihajjbaa
open Go.RowKit
set_option linter.unusedVariables false

theorem NInv.turn {l : Ly} {want : List (List Opr)} {s : PSt} (h : TkOk l) (hw : ∀ ops ∈ want, ∀ op ∈ ops, op = mkOp) (hi : NInv l s) (hk : s.out.length ≤ 400) (hs : s.seats.length ≤ 3) (who : Nat) : ∃ s', turnP l want who s = some s' ∧ NInv l s' := by
  cases hx : s.seats[who]? with
  | none => exact ⟨s, by unfold turnP; rw [hx], hi⟩
  | some x =>
    obtain ⟨a, log⟩ := x
    cases ho : (want.getD who [])[a]? with
    | none => exact ⟨s, turn_no hx ho, hi⟩
    | some op =>
      have hop : op = mkOp := by
        have h1 := List.mem_of_getElem? ho
        rw [List.getD_eq_getElem?_getD] at h1
        cases hq : want[who]? with
        | none => rw [hq] at h1; simp at h1
        | some ops => rw [hq] at h1; exact hw ops (List.mem_of_getElem? hq) op h1
      subst hop
      have hn := mk_next h log
      have b1 : (bsum s.out oDone) ≤ 400 := Nat.le_trans (bsum_le_length _ _ fun x _ => toNat_le _) hk
      have b2 : (bsum s.seats fLog) ≤ 3 := Nat.le_trans (bsum_le_length _ _ fun x _ => toNat_le _) hs
      have b3 : (bsum s.out oIs) ≤ 400 := Nat.le_trans (bsum_le_length _ _ fun x _ => toNat_le _) hk
      have b4 : (bsum s.seats fFour) ≤ 3 := Nat.le_trans (bsum_le_length _ _ fun x _ => toNat_le _) hs
      have hcnt := hi.cnt
      have hjo := hi.joins
      obtain ⟨g1, g2, g3, g4⟩ := hi.seat _ (List.mem_of_getElem? hx)
      have c0 := h.c0
      have c1 : l.count < s.m.length := by have := hi.ml; have := h.c1; have := h.ts; have := h.fit.t0; omega
      rcases log with _ | ⟨x0, _ | ⟨x1, _ | ⟨x2, _ | ⟨x3, _ | ⟨x4, _ | ⟨x5, r⟩⟩⟩⟩⟩⟩
      · have hn' : nextA l mkOp [] = .ask 4 l.count 0 1 := hn
        refine ⟨_, turn_ask hx ho hn' (err_add c0 c1), ?_⟩
        rw [make_add _ _ _ ⟨by omega, by omega⟩]
        exact hi.ticket h hx rfl
      · obtain ⟨t1, t2⟩ := g2 (by simp)
        have t1' : 1 ≤ x0.1 := t1
        by_cases hN : l.c.tasks ≤ x0.1
        · have hn' : nextA l mkOp [x0] = .out 0 false 10 0 := by rw [hn]; unfold makeM; rw [askM_some rfl, if_pos hN]
          exact ⟨_, turn_out hx ho hn', hi.ended h hx rfl rfl rfl rfl (.inl ⟨rfl, rfl, rfl, hN⟩)⟩
        · have hn' : nextA l mkOp [x0] = .ask 2 (taskAt l (x0.1 + 1) 3) 0 1 := by rw [hn]; unfold makeM; rw [askM_some rfl, if_neg hN, askM_none rfl]; rfl
          obtain ⟨q1, q2⟩ := task_lt h hi.ml (x0.1 + 1) 3 (by omega) (by omega) (by omega) (by omega)
          refine ⟨_, turn_ask hx ho hn' (err_store q1 q2), ?_⟩
          rw [make_store]
          exact hi.store1 h hx (by omega) (by omega) (by omega) (.inl ⟨rfl, rfl⟩) rfl
      · obtain ⟨t1, t2⟩ := g2 (by simp)
        have t1' : 1 ≤ x0.1 := t1
        have t3 : x0.1 < l.c.tasks := (g3 (by simp)).1
        have hn' : nextA l mkOp [x0, x1] = .ask 2 (taskAt l (x0.1 + 1) 1) 0 1 := by rw [hn]; unfold makeM; rw [askM_some rfl, if_neg (by omega), askM_some rfl, askM_none rfl]
        obtain ⟨q1, q2⟩ := task_lt h hi.ml (x0.1 + 1) 1 (by omega) (by omega) (by omega) (by omega)
        refine ⟨_, turn_ask hx ho hn' (err_store q1 q2), ?_⟩
        rw [make_store]
        exact hi.store1 h hx (by omega) (by omega) t3 (.inr (.inl ⟨rfl, rfl⟩)) rfl
      · have t3 : x0.1 < l.c.tasks := (g3 (by simp)).1
        have hn' : nextA l mkOp [x0, x1, x2] = .ask 4 (taskAt l 1 1) 0 1 := by rw [hn]; unfold makeM; rw [askM_some rfl, if_neg (by omega), askM_some rfl, askM_some rfl, askM_none rfl]; rfl
        obtain ⟨q1, q2⟩ := task_lt h hi.ml 1 1 (by omega) h.t1 (by omega) (by omega)
        refine ⟨_, turn_ask hx ho hn' (err_add q1 q2), ?_⟩
        rw [make_add _ _ _ ⟨by omega, by omega⟩]
        exact hi.join h hx rfl
      · obtain ⟨t1, t2⟩ := g2 (by simp)
        have t1' : 1 ≤ x0.1 := t1
        have t3 : x0.1 < l.c.tasks := (g3 (by simp)).1
        have hn' : nextA l mkOp [x0, x1, x2, x3] = .ask 2 (taskAt l (x0.1 + 1) 0) 0 1 := by rw [hn]; unfold makeM; rw [askM_some rfl, if_neg (by omega), askM_some rfl, askM_some rfl, askM_some rfl, askM_none rfl]
        obtain ⟨q1, q2⟩ := task_lt h hi.ml (x0.1 + 1) 0 (by omega) (by omega) (by omega) (by omega)
        refine ⟨_, turn_ask hx ho hn' (err_store q1 q2), ?_⟩
        rw [make_store]
        exact hi.store1 h hx (by omega) (by omega) t3 (.inr (.inr ⟨rfl, rfl⟩)) rfl
      · have t3 : x0.1 < l.c.tasks := (g3 (by simp)).1
        have hn' : nextA l mkOp [x0, x1, x2, x3, x4] = .out (x0.1 + 1) true 0 4 := by rw [hn]; unfold makeM; rw [askM_some rfl, if_neg (by omega), askM_some rfl, askM_some rfl, askM_some rfl, askM_some rfl]
        exact ⟨_, turn_out hx ho hn', hi.ended h hx rfl rfl rfl rfl (.inr ⟨rfl, rfl, rfl⟩)⟩
      · simp at g1
theorem NInv.run {l : Ly} {want : List (List Opr)} {M : Nat} (h : TkOk l) (hw : ∀ ops ∈ want, ∀ op ∈ ops, op = mkOp) (ws : List Nat) : ∀ {s : PSt} {k : Nat}, NInv l s → PInv 3 M k s → k + ws.length ≤ 400 → ∃ s', runP l want s ws = (s', false) ∧ NInv l s' := by
  induction ws with
  | nil => intro s k hi hp hk; exact ⟨s, rfl, hi⟩
  | cons w ws ih =>
    intro s k hi hp hk
    simp only [List.length_cons] at hk
    obtain ⟨s2, h2, i2⟩ := hi.turn h hw (Nat.le_trans hp.ol (by omega)) (by rw [hp.ns]; exact Nat.le_refl _) w
    have hok : WantOk want := fun ops ho op hop => by
      rw [hw ops ho op hop]
      exact ⟨⟨by decide, by decide⟩, ⟨by decide, by decide⟩⟩
    obtain ⟨s3, h3, i3⟩ := ih i2 (hp.turn hok h2) (by omega)
    exact ⟨s3, by simp only [runP, h2]; exact h3, i3⟩
theorem begin_get {l : Ly} (h : TkOk l) : (beginM l).getD l.count.toNat 0 = 1 ∧ (beginM l).getD (taskAt l 1 1).toNat 0 = 1 ∧ ((beginM l).length : Int) = l.size ∧ (∀ t : Int, 2 ≤ t → t ≤ l.c.tasks → (beginM l).getD (taskAt l t 0).toNat 0 = 0) ∧ (beginM l).getD (taskAt l 1 0).toNat 0 = 2 := by
  have hs : (0 : Int) ≤ l.size := by have := h.ts; have := h.fit.k0; have := h.fit.t0; omega
  have hL : ((List.replicate l.size.toNat (0 : Int)).length : Int) = l.size := by simp; omega
  have hlen : ((beginM l).length : Int) = l.size := by rw [beginM_length]; omega
  have e : beginM l = ((((List.replicate l.size.toNat (0 : Int)).set l.count.toNat 1).set (taskAt l 1 0).toNat 2).set (taskAt l 1 1).toNat 1) := by
    simp only [beginM, beginA, allCells, make_store]
  have q0 := task_lt h hL 1 0 (by omega) h.t1 (by omega) (by omega)
  have q1 := task_lt h hL 1 1 (by omega) h.t1 (by omega) (by omega)
  have n1 := count_apart h 1 0 (by omega) h.t1 (by omega) (by omega)
  have n2 := count_apart h 1 1 (by omega) h.t1 (by omega) (by omega)
  have n3 : (taskAt l 1 1).toNat ≠ (taskAt l 1 0).toNat := fun e => by
    have := (cells_apart h 1 1 1 0 (by omega) h.t1 (by omega) h.t1 (by omega) (by omega) (by omega) (by omega)).1 e
    omega
  have hc : l.count.toNat < l.size.toNat := by have := h.c0; have := h.c1; have := h.ts; have := h.fit.t0; omega
  simp only [List.length_replicate] at q0 q1
  refine ⟨?_, ?_, hlen, fun t t1 t2 => ?_, ?_⟩
  · rw [e, getD_set_ne n2.symm, getD_set_ne n1.symm, getD_set_self (by simpa using hc)]
  · rw [e, getD_set_self (by simp; omega)]
  · have m1 := count_apart h t 0 (by omega) t2 (by omega) (by omega)
    have m2 : (taskAt l 1 1).toNat ≠ (taskAt l t 0).toNat := fun e => by
      have := (cells_apart h 1 1 t 0 (by omega) h.t1 (by omega) t2 (by omega) (by omega) (by omega) (by omega)).1 e
      omega
    have m3 : (taskAt l 1 0).toNat ≠ (taskAt l t 0).toNat := fun e => by
      have := (cells_apart h 1 0 t 0 (by omega) h.t1 (by omega) t2 (by omega) (by omega) (by omega) (by omega)).1 e
      omega
    rw [e, getD_set_ne m2, getD_set_ne m3, getD_set_ne m1, List.getD_eq_getElem?_getD, List.getElem?_replicate]
    split <;> rfl
  · rw [e, getD_set_ne n3, getD_set_self (by simp; omega)]
theorem NInv.start {l : Ly} (h : TkOk l) : NInv l (startP l 3 (beginM l)) := by
  obtain ⟨e1, e2, e3, _⟩ := begin_get h
  have z : ∀ f : (Nat × List (Int × Bool)) → Nat, f (0, []) = 0 → bsum (List.replicate 3 ((0, []) : (Nat × List (Int × Bool)))) f = 0 := fun f hf => bsum_zero fun x hx => by
    rw [List.mem_replicate] at hx
    rw [hx.2]
    exact hf
  refine ⟨e3, ?_, fun v h1 h2 => ?_, ?_, fun st hst => by simp [startP] at hst, fun x hx => ?_, ?_⟩
  · simp only [startP]
    rw [e1, bsum_nil, z _ rfl]
    rfl
  · show bsum [] (oVal (v + 1)) + bsum (List.replicate 3 ((0, []) : Nat × List (Int × Bool))) (fTick v) = (decide (v < (beginM l).getD l.count.toNat 0)).toNat
    rw [bsum_nil, z _ rfl]
    have : decide (v < (beginM l).getD l.count.toNat 0) = false := by rw [decide_eq_false_iff_not, e1]; omega
    rw [this]
    rfl
  · simp only [startP]
    rw [e2, bsum_nil, z _ rfl]
    rfl
  · simp only [startP, List.mem_replicate] at hx
    rw [hx.2]
    exact ⟨by simp, fun h' => absurd rfl h', fun h' => by simp at h', fun h' => by simp at h'⟩
  · simp only [startP]
    rw [bsum_nil, z _ rfl]
theorem bsum_add {α : Type} (l : List α) (f g : α → Nat) : bsum l (fun x => f x + g x) = bsum l f + bsum l g := by
  induction l with
  | nil => rfl
  | cons a l ih => simp only [bsum_cons, ih]; omega
theorem bsum_swap {α β : Type} (l : List α) (r : List β) (f : α → β → Nat) : (bsum l fun x => bsum r fun y => f x y) = bsum r fun y => bsum l fun x => f x y := by
  induction l with
  | nil => exact (bsum_zero fun _ _ => rfl).symm
  | cons a l ih =>
    rw [bsum_cons, ih, ← bsum_add]
    rfl
theorem bsum_lt (n t : Nat) : (bsum (List.range n) fun v => (decide (v < t)).toNat) = min n t := by
  induction n with
  | zero => simp [bsum]
  | succ n ih =>
    rw [List.range_succ, bsum_snoc, ih]
    by_cases h : n < t
    · simp [h]; omega
    · simp [h]; omega
theorem bsum_eq (n k : Nat) : (bsum (List.range n) fun v => (decide (k = v)).toNat) = (decide (k < n)).toNat := by
  induction n with
  | zero => simp [bsum]
  | succ n ih =>
    rw [List.range_succ, bsum_snoc, ih]
    by_cases h : k < n
    · have h1 : ¬ k = n := by omega
      have h2 : k < n + 1 := by omega
      simp [h, h1, h2]
    · by_cases h1 : k = n
      · subst h1; simp
      · have h2 : ¬ k < n + 1 := by omega
        simp [h, h1, h2]
/-- What there is behind a play of makes alone. -/
structure NEnd (l : Ly) (total : Nat) (s : PSt) : Prop where
  ml : (s.m.length : Int) = l.size
  num : ∀ v : Int, (bsum s.out (oVal v)) ≤ 1
  joins : s.m.getD (taskAt l 1 1).toNat 0 = 1 + (bsum s.out oIs)
  outs : ∀ st ∈ s.out, st.done = true → (st.is = true → 2 ≤ st.val ∧ st.val ≤ l.c.tasks ∧ s.m.getD (taskAt l st.val 3).toNat 0 = 1 ∧ s.m.getD (taskAt l st.val 0).toNat 0 = 1) ∧ (st.is = false → st.err = 10)
  done : (bsum s.out oDone) = total
  made : 1 + (bsum s.out oIs) = min (1 + total) l.c.tasks.toNat
  len : s.out.length ≤ 400
theorem numbers_end {l : Ly} (h : TkOk l) {want : List (List Opr)} {turns : List Nat} (hn : want.length = 3) (hw : ∀ ops ∈ want, ops.length ≤ 7 ∧ ∀ op ∈ ops, op = mkOp) (ht : turns.length ≤ 200) :
    NEnd l (bsum want List.length) (runP l want (startP l 3 (beginM l)) (whosP 3 turns)).1 := by
  have hw2 : ∀ ops ∈ want, ∀ op ∈ ops, op = mkOp := fun ops ho => (hw ops ho).2
  have hok : WantOk want := fun ops ho op hop => by
    rw [hw2 ops ho op hop]
    exact ⟨⟨by decide, by decide⟩, ⟨by decide, by decide⟩⟩
  have hp0 : PInv 3 (beginM l).length 0 (startP l 3 (beginM l)) := by
    have e := begin_get h
    refine ⟨by simp [startP], rfl, fun z hz => ?_, fun x hx r hr => ?_, fun x hx => ?_, fun x hx => ?_, by simp [startP]⟩
    · simp only [startP, beginM, beginA, allCells] at hz
      have d : ∀ z : Int, -10 ≤ z → z ≤ 10 → inR z := fun z h1 h2 => ⟨by omega, by omega⟩
      rcases Acc.make_mem hz with hz | rfl
      · rcases Acc.make_mem hz with hz | rfl
        · rcases Acc.make_mem hz with hz | rfl
          · rw [List.mem_replicate] at hz
            exact d _ (by omega) (by omega)
          · exact d _ (by simp [Acc.next]) (by simp [Acc.next])
        · exact d _ (by simp [Acc.next]) (by simp [Acc.next])
      · exact d _ (by simp [Acc.next]) (by simp [Acc.next])
    · simp [startP] at hx; rw [hx] at hr; simp at hr
    · simp [startP] at hx; rw [hx]; simp
    · simp [startP] at hx; rw [hx]; simp
  have hwl : (whosP 3 turns).length ≤ 380 := by rw [whosP_length]; omega
  obtain ⟨s, hr, hi⟩ := (NInv.start h).run h hw2 (whosP 3 turns) hp0 (by omega)
  have hpe := hp0.run hok _ hr
  have hlen : ∀ k, (want.getD k []).length ≤ 7 := fun k => by
    rw [List.getD_eq_getElem?_getD]
    cases hq : want[k]? with
    | none => simp
    | some ops => exact (hw ops (List.mem_of_getElem? hq)).1
  obtain ⟨n3, hend⟩ := all_ended (start_sinv l 3 (beginM l) want) (by simp [startP]) hlen hr
  rw [hr]
  dsimp only
  have hs0 : ∀ f : (Nat × List (Int × Bool)) → Nat, (∀ a, f (a, []) = 0) → bsum s.seats f = 0 := fun f hf => bsum_zero fun x hx => by
    obtain ⟨k, hk⟩ := List.getElem?_of_mem hx
    obtain ⟨a, b⟩ := x
    have := (hend k _ hk).2
    dsimp only at this
    subst this
    exact hf a
  have hC := hi.cnt
  rw [hs0 _ (fun _ => rfl)] at hC
  have hdone : (bsum s.out oDone) = bsum want List.length := by
    rw [hi.done]
    have e : s.seats = want.map fun ops => (ops.length, []) := by
      apply List.ext_getElem?
      intro k
      rw [List.getElem?_map]
      by_cases hk : k < 3
      · obtain ⟨x, hx⟩ : ∃ x, s.seats[k]? = some x := ⟨_, List.getElem?_eq_getElem (by omega)⟩
        obtain ⟨ops, ho⟩ : ∃ ops, want[k]? = some ops := ⟨_, List.getElem?_eq_getElem (by omega)⟩
        obtain ⟨e1, e2⟩ := hend k x hx
        rw [hx, ho]
        rw [List.getD_eq_getElem?_getD, ho] at e1
        obtain ⟨a, b⟩ := x
        dsimp only at e1 e2
        subst e1 e2
        rfl
      · rw [List.getElem?_eq_none (by omega), List.getElem?_eq_none (by omega)]
        rfl
    rw [e]
    simp [bsum, Function.comp_def, fAt]
  have hJ := hi.joins
  rw [hs0 _ (fun _ => rfl)] at hJ
  have hnum : ∀ v : Int, 1 ≤ v → v < l.c.tasks → (bsum s.out (oVal (v + 1))) = (decide (v < 1 + (bsum want List.length : Nat))).toNat := fun v h1 h2 => by
    have := hi.num v h1 h2
    rw [hs0 _ (fun _ => rfl), hC, hdone] at this
    simpa using this
  refine ⟨hi.ml, fun v => ?_, by rw [hJ]; omega, hi.outs, hdone, ?_, Nat.le_trans hpe.ol (by omega)⟩
  · by_cases hv : 2 ≤ v ∧ v ≤ l.c.tasks
    · have := hnum (v - 1) (by omega) (by omega)
      rw [show v - 1 + 1 = v by omega] at this
      rw [this]
      exact toNat_le _
    · rw [bsum_zero]
      · omega
      · intro st hst
        by_cases hd : st.done = true
        · by_cases his : st.is = true
          · have := (hi.outs st hst hd).1 his
            have hne : decide (st.val = v) = false := by simp; omega
            simp only [oVal, hne, Bool.and_false]
            rfl
          · simp [oVal, his]
        · simp [oVal, hd]
  · have hT : (1 : Int) ≤ l.c.tasks := h.t1
    have hsw : (bsum s.out oIs) = bsum (List.range (l.c.tasks.toNat - 1)) fun v => bsum s.out fun st => oVal ((v : Int) + 1 + 1) st := by
      rw [← bsum_swap]
      refine bsum_congr fun st hst => ?_
      by_cases hd : st.done = true
      · by_cases his : st.is = true
        · have q := (hi.outs st hst hd).1 his
          have o1 : oIs st = 1 := by simp [oIs, hd, his]
          rw [o1]
          have e := bsum_eq (l.c.tasks.toNat - 1) (st.val - 2).toNat
          rw [show decide ((st.val - 2).toNat < l.c.tasks.toNat - 1) = true by simp; omega] at e
          rw [show (true.toNat : Nat) = 1 from rfl] at e
          refine e.symm.trans (bsum_congr fun v _ => ?_)
          unfold oVal
          rw [hd, his]
          congr 1
          by_cases hh : (st.val - 2).toNat = v
          · have h2 : st.val = (v : Int) + 1 + 1 := by omega
            rw [decide_eq_true hh, decide_eq_true h2]
            rfl
          · have h2 : ¬ st.val = (v : Int) + 1 + 1 := by omega
            simp [hh, h2]
        · have o1 : oIs st = 0 := by simp [oIs, his]
          rw [o1]
          exact (bsum_zero fun _ _ => by simp [oVal, his]).symm
      · have o1 : oIs st = 0 := by simp [oIs, hd]
        rw [o1]
        exact (bsum_zero fun _ _ => by simp [oVal, hd]).symm
    rw [hsw]
    have e2 : (bsum (List.range (l.c.tasks.toNat - 1)) fun v => bsum s.out fun st => oVal ((v : Int) + 1 + 1) st) = bsum (List.range (l.c.tasks.toNat - 1)) fun v => (decide (v < bsum want List.length)).toNat := by
      refine bsum_congr fun v hv => ?_
      have hv' := List.mem_range.1 hv
      rw [hnum ((v : Int) + 1) (by omega) (by omega)]
      congr 1
      by_cases hh : v < bsum want List.length
      · have h2 : (v : Int) + 1 < 1 + (bsum want List.length : Nat) := by omega
        simp [hh, h2]
      · have h2 : ¬ (v : Int) + 1 < 1 + (bsum want List.length : Nat) := by omega
        simp [hh, h2]
    rw [e2, bsum_lt]
    omega
end Go.Proofs.Ytcjaomiihajjbaa
