/- Ends and a sync alone, on the model: each turn, all turns; the memory in the beginning. -/
import Derived.Test.YtcjaomiihajjbaaGoP
namespace Go.Proofs.Ytcjaomiihajjbaa
open Go.RowKit
set_option linter.unusedVariables false

theorem sy_next {l : Ly} (h : TkOk l) (log : List (Int × Bool)) : nextA l syOp log = syncM l syOp log := by
  have hz : ¬ taskAt l 1 0 < 0 := by
    rw [taskAt_in l (by omega) h.t1 (by omega) (by omega)]
    have := h.fit.k0
    omega
  unfold nextA nextM
  rw [show syOp.a = 1 from rfl, if_neg hz, show syOp.kind = 13 from rfl, if_neg (by omega), if_neg (by omega), if_pos rfl]
  rfl
theorem en_next {l : Ly} {a : Int} (h : TkOk l) (a1 : 1 ≤ a) (a2 : a ≤ l.c.tasks) (log : List (Int × Bool)) : nextA l (enOp a) log = endM l (enOp a) log := by
  have hz : ¬ taskAt l a 0 < 0 := by
    rw [taskAt_in l a1 a2 (by omega) (by omega)]
    have := h.fit.k0
    omega
  unfold nextA nextM
  rw [show (enOp a).a = a from rfl, if_neg hz, show (enOp a).kind = 14 from rfl, if_neg (by omega), if_neg (by omega), if_neg (by omega), if_pos rfl]
  rfl
theorem err_load {c : Int} {n : Nat} (h0 : 0 ≤ c) (h1 : c < n) : (⟨1, c, 0, 0⟩ : Acc).err n = 0 := by simp [Acc.err, Acc.right, h0, h1]
theorem make_load (c : Int) (zs : List Int) (h : c.toNat < zs.length) : (⟨1, c, 0, 0⟩ : Acc).make zs = zs := by
  simp only [Acc.make, Acc.next, Acc.had]
  simp [List.getElem?_eq_getElem h]
/-- Who ends, and what it tells. -/
theorem GInv.ends {l : Ly} {n N : Nat} {want : List (List Opr)} {s : PSt} (h : TkOk l) (hn : 1 + (n : Int) ≤ l.c.tasks) (hw : GOk n want) (hi : GInv l n N want s) {who a : Nat} {log : List (Int × Bool)} {op : Opr} {val : Int} {is : Bool} {err point : Int}
    (hx : s.seats[who]? = some (a, log)) (ho : (want.getD who [])[a]? = some op) (hne : nextA l op log = .out val is err point) :
    ((log.length = addAt op + 1 ∧ pWon op log = 0) ∨ (log.length = addAt op + 2 ∧ pWon op log = 1)) ∧ (goQ (doneStep who a op val is err point)).toNat = pWon op log := by
  obtain ⟨_, _, g3⟩ := hi.seat who _ hx
  obtain ⟨g1, g2, g4⟩ := g3 op ho
  dsimp only at g1 g2 g4
  rcases gok_op hw ho with rfl | ⟨t, rfl, t1, t2⟩
  · rw [sy_next h] at hne
    have ea : addAt syOp = 0 := rfl
    rw [ea] at g1 g2 ⊢
    unfold syncM joinedM at hne
    rcases log with _ | ⟨x0, _ | ⟨x1, _ | ⟨x2, r⟩⟩⟩
    · rw [askM_none rfl] at hne; cases hne
    · rw [askM_some rfl] at hne
      by_cases e : x0.1 = 1
      · rw [if_pos e, askM_none rfl] at hne; cases hne
      · rw [if_neg e] at hne
        injection hne with e1 e2 e3 e4
        subst e2
        have hp : pWon syOp [x0] = 0 := by simp [pWon, ea, e]
        exact ⟨.inl ⟨rfl, hp⟩, by rw [hp]; simp [goQ, doneStep, syOp]⟩
    · rw [askM_some rfl] at hne
      have hp : pWon syOp [x0, x1] = 1 := g2 (by simp)
      have e : x0.1 = 1 := by simpa [pWon, ea] using hp
      rw [if_pos e, askM_some rfl] at hne
      injection hne with e1 e2 e3 e4
      subst e2
      exact ⟨.inr ⟨rfl, hp⟩, by rw [hp]; simp [goQ, doneStep, syOp]⟩
    · simp at g1
  · rw [en_next h (by omega) (by omega)] at hne
    have ea : addAt (enOp t) = 3 := rfl
    rw [ea] at g1 g2 ⊢
    obtain ⟨q1, q2, q3⟩ := g4 rfl
    unfold endM at hne
    rcases log with _ | ⟨x0, _ | ⟨x1, _ | ⟨x2, _ | ⟨x3, _ | ⟨x4, _ | ⟨x5, r⟩⟩⟩⟩⟩⟩
    · rw [askM_none rfl] at hne; cases hne
    · rw [askM_some rfl, askM_none rfl] at hne; cases hne
    · rw [askM_some rfl, askM_some rfl, askM_none rfl] at hne; cases hne
    · obtain ⟨y, hy, y1⟩ := q1 (by simp)
      simp at hy
      subst hy
      rw [askM_some rfl, askM_some rfl, askM_some rfl, if_neg (by omega), y1] at hne
      unfold joinedM at hne
      rw [askM_none rfl] at hne
      cases hne
    · obtain ⟨y, hy, y1⟩ := q1 (by simp)
      simp at hy
      subst hy
      rw [askM_some rfl, askM_some rfl, askM_some rfl, if_neg (by omega), y1] at hne
      unfold joinedM at hne
      rw [askM_some rfl] at hne
      by_cases e : x3.1 = 1
      · rw [if_pos e, askM_none rfl] at hne; cases hne
      · rw [if_neg e] at hne
        injection hne with e1 e2 e3 e4
        have hp : pWon (enOp t) [x0, x1, x2, x3] = 0 := by simp [pWon, ea, e]
        refine ⟨.inl ⟨rfl, hp⟩, ?_⟩
        rw [hp]
        simp at e1
        subst e1
        simp [goQ, doneStep, enOp]
    · obtain ⟨y, hy, y1⟩ := q1 (by simp)
      simp at hy
      subst hy
      have hp : pWon (enOp t) [x0, x1, x2, x3, x4] = 1 := g2 (by simp)
      have e : x3.1 = 1 := by simpa [pWon, ea] using hp
      rw [askM_some rfl, askM_some rfl, askM_some rfl, if_neg (by omega), y1] at hne
      unfold joinedM at hne
      rw [askM_some rfl, if_pos e, askM_some rfl] at hne
      injection hne with e1 e2 e3 e4
      refine ⟨.inr ⟨rfl, hp⟩, ?_⟩
      rw [hp]
      simp at e1
      subst e1
      simp [goQ, doneStep, enOp]
    · simp at g1
theorem GInv.said {l : Ly} {n N : Nat} {want : List (List Opr)} {s : PSt} (h : TkOk l) (hn : 1 + (n : Int) ≤ l.c.tasks) (hw : GOk n want) (hi : GInv l n N want s) {who a : Nat} {log : List (Int × Bool)} {op : Opr} {val : Int} {is : Bool} {err point : Int}
    (hx : s.seats[who]? = some (a, log)) (ho : (want.getD who [])[a]? = some op) (hne : nextA l op log = .out val is err point) (hg : goQ (doneStep who a op val is err point) = true) : lastQ l s.out = 10 * who + a + 1 := by
  have h2 := (hi.ends h hn hw hx ho hne).2
  rw [hg] at h2
  exact hi.last who _ hx (by rw [seatF_some ho]; exact h2.symm)
theorem GInv.turn {l : Ly} {n N : Nat} {want : List (List Opr)} {s : PSt} (h : TkOk l) (hn : 1 + (n : Int) ≤ l.c.tasks) (hw : GOk n want) (hN : lens3 want = N) (hN2 : N ≤ 1000) (hi : GInv l n N want s) (who : Nat) : ∃ s', turnP l want who s = some s' ∧ GInv l n N want s' := by
  cases hx : s.seats[who]? with
  | none => exact ⟨s, by unfold turnP; rw [hx], hi⟩
  | some x =>
    obtain ⟨a, log⟩ := x
    cases ho : (want.getD who [])[a]? with
    | none => exact ⟨s, turn_no hx ho, hi⟩
    | some op =>
      obtain ⟨g0, gd, g3⟩ := hi.seat who _ hx
      obtain ⟨g1, g2, g4⟩ := g3 op ho
      dsimp only at g1 g2 g4
      obtain ⟨j0, j1⟩ := task_lt h hi.ml 1 1 (by omega) h.t1 (by omega) (by omega)
      -- the three kinds of turns that serve both
      have hLeave : log.length = addAt op → nextA l op log = .ask 4 (taskAt l 1 1) 0 (-1) → ∃ s', turnP l want who s = some s' ∧ GInv l n N want s' := by
        intro hl hne
        have hlt : nAdd l s.out < N := hi.room hN hx (by
          have hlt := (List.getElem?_eq_some_iff.1 ho).1
          have h0 : pAdd op log = 0 := by unfold pAdd; simp; omega
          simp only [sAdd, seatF_some ho, h0]
          exact hlt)
        have hj := hi.join1 hlt
        refine ⟨_, turn_ask hx ho hne (err_add j0 j1), ?_⟩
        rw [make_add _ _ _ (by rw [hj]; exact ⟨by omega, by omega⟩)]
        exact hi.leaves h hn hw hN hx ho hl ⟨rfl, rfl⟩ rfl (by simp [addQ, askStep])
      have hBack : log.length = addAt op + 1 → pWon op log = 1 → nextA l op log = .ask 2 (taskAt l 1 1) 0 1 → ∃ s', turnP l want who s = some s' ∧ GInv l n N want s' := by
        intro hl hwon hne
        refine ⟨_, turn_ask hx ho hne (err_store j0 j1), ?_⟩
        rw [make_store]
        exact hi.back h hn hw hx ho hl hwon rfl (by simp [addQ, askStep])
      have hTold : ∀ val is err point, nextA l op log = .out val is err point → ∃ s', turnP l want who s = some s' ∧ GInv l n N want s' := by
        intro val is err point hne
        obtain ⟨e1, e2⟩ := hi.ends h hn hw hx ho hne
        exact ⟨_, turn_out hx ho hne, hi.told hx ho e1 rfl e2⟩
      cases hne : nextA l op log with
      | out val is err point => exact hTold _ _ _ _ hne
      | ask k c o v =>
        rcases gok_op hw ho with rfl | ⟨t, rfl, t1, t2⟩
        · have ea : addAt syOp = 0 := rfl
          have hne' := hne
          rw [sy_next h] at hne'
          unfold syncM joinedM at hne'
          rcases log with _ | ⟨x0, _ | ⟨x1, r⟩⟩
          · rw [askM_none rfl] at hne'
            rw [← hne'] at hne
            exact hLeave rfl hne
          · rw [askM_some rfl] at hne'
            by_cases e : x0.1 = 1
            · rw [if_pos e, askM_none rfl] at hne'
              rw [← hne'] at hne
              exact hBack rfl (by simp [pWon, ea, e]) hne
            · rw [if_neg e] at hne'
              cases hne'
          · rw [askM_some rfl] at hne'
            by_cases e : x0.1 = 1
            · rw [if_pos e, askM_some rfl] at hne'
              cases hne'
            · rw [if_neg e] at hne'
              cases hne'
        · have ea : addAt (enOp t) = 3 := rfl
          have hne' := hne
          rw [en_next h (by omega) (by omega)] at hne'
          obtain ⟨q1, q2, q3⟩ := g4 rfl
          have cl : ∀ i : Int, 0 ≤ i → i < 4 → 0 ≤ taskAt l t i ∧ taskAt l t i < s.m.length := fun i i0 i4 => task_lt h hi.ml t i (by omega) (by omega) i0 i4
          have hne1 : ∀ i : Int, 0 ≤ i → i < 4 → (taskAt l t i).toNat ≠ (taskAt l 1 1).toNat := fun i i0 i4 e => by
            have := (cells_apart h t i 1 1 (by omega) (by omega) (by omega) h.t1 i0 i4 (by omega) (by omega)).1 e
            omega
          unfold endM at hne'
          rcases log with _ | ⟨x0, _ | ⟨x1, _ | ⟨x2, _ | ⟨x3, _ | ⟨x4, r⟩⟩⟩⟩⟩
          · rw [askM_none rfl] at hne'
            rw [← hne'] at hne
            obtain ⟨c0, c1⟩ := cl 2 (by omega) (by omega)
            have hcl : (taskAt l t 2).toNat < s.m.length := by omega
            refine ⟨_, turn_ask hx ho hne (err_store c0 c1), ?_⟩
            have e0 : (enOp t).a = t := rfl
            have eb : (enOp t).b = t + 48 := rfl
            rw [e0, make_store]
            have hk : KidsKept l n s.m (s.m.set (taskAt l t 2).toNat (enOp t).b) := KidsKept.set h hn (by omega) (by omega) (by omega) (by omega) hcl (by omega) (fun _ _ => eb) (by omega)
            refine hi.plain hw hx ho (by simp) hk (getD_set_ne (hne1 2 (by omega) (by omega))) (by simp [ea]) ?_ rfl (by simp [addQ, askStep])
            refine ⟨g0, ((hi.seat who _ hx).kept hw hk).2.1, fun op' ho' => ?_⟩
            dsimp only at ho' ⊢
            rw [ho] at ho'
            injection ho' with ho'
            subst ho'
            exact ⟨by simp, fun hh => by simp [ea] at hh, fun _ => ⟨fun hh => by simp at hh, fun _ => by rw [e0]; exact getD_set_self hcl, fun hh => by simp at hh⟩⟩
          · rw [askM_some rfl, askM_none rfl] at hne'
            rw [← hne'] at hne
            obtain ⟨c0, c1⟩ := cl 0 (by omega) (by omega)
            have hcl : (taskAt l t 0).toNat < s.m.length := by omega
            refine ⟨_, turn_ask hx ho hne (err_store c0 c1), ?_⟩
            have e0 : (enOp t).a = t := rfl
            rw [e0, make_store]
            have hk : KidsKept l n s.m (s.m.set (taskAt l t 0).toNat 3) := KidsKept.set h hn (by omega) (by omega) (by omega) (by omega) hcl (by omega) (by omega) (fun _ _ => rfl)
            refine hi.plain hw hx ho (by simp) hk (getD_set_ne (hne1 0 (by omega) (by omega))) (by simp [ea]) ?_ rfl (by simp [addQ, askStep])
            have hs' := (hi.seat who _ hx).kept hw hk
            refine ⟨g0, hs'.2.1, fun op' ho' => ?_⟩
            dsimp only at ho' ⊢
            rw [ho] at ho'
            injection ho' with ho'
            subst ho'
            obtain ⟨_, w2, _⟩ := (hs'.2.2 _ ho).2.2 rfl
            exact ⟨by simp, fun hh => by simp [ea] at hh, fun _ => ⟨fun hh => by simp at hh, fun _ => w2 (by simp), fun _ => by rw [e0]; exact getD_set_self hcl⟩⟩
          · rw [askM_some rfl, askM_some rfl, askM_none rfl] at hne'
            rw [← hne'] at hne
            obtain ⟨c0, c1⟩ := cl 3 (by omega) (by omega)
            have hcl : (taskAt l t 3).toNat < s.m.length := by omega
            refine ⟨_, turn_ask hx ho hne (err_load c0 c1), ?_⟩
            have e0 : (enOp t).a = t := rfl
            rw [e0, make_load _ _ hcl]
            have hk := KidsKept.refl l n s.m
            refine hi.plain hw hx ho rfl hk rfl (by simp [ea]) ?_ rfl (by simp [addQ, askStep])
            refine ⟨g0, gd, fun op' ho' => ?_⟩
            dsimp only at ho' ⊢
            rw [ho] at ho'
            injection ho' with ho'
            subst ho'
            exact ⟨by simp [ea], fun hh => by simp [ea] at hh, fun _ => ⟨fun _ => ⟨_, rfl, hi.kid t t1 t2⟩, fun _ => q2 (by simp), fun _ => q3 (by simp)⟩⟩
          · obtain ⟨y, hy, y1⟩ := q1 (by simp)
            simp at hy
            subst hy
            rw [askM_some rfl, askM_some rfl, askM_some rfl, if_neg (by omega), y1] at hne'
            unfold joinedM at hne'
            rw [askM_none rfl] at hne'
            rw [← hne'] at hne
            exact hLeave rfl hne
          · obtain ⟨y, hy, y1⟩ := q1 (by simp)
            simp at hy
            subst hy
            rw [askM_some rfl, askM_some rfl, askM_some rfl, if_neg (by omega), y1] at hne'
            unfold joinedM at hne'
            rw [askM_some rfl] at hne'
            by_cases e : x3.1 = 1
            · rw [if_pos e, askM_none rfl] at hne'
              rw [← hne'] at hne
              exact hBack rfl (by simp [pWon, ea, e]) hne
            · rw [if_neg e] at hne'
              cases hne'
          · obtain ⟨y, hy, y1⟩ := q1 (by simp)
            simp at hy
            subst hy
            rw [askM_some rfl, askM_some rfl, askM_some rfl, if_neg (by omega), y1] at hne'
            unfold joinedM at hne'
            rw [askM_some rfl] at hne'
            by_cases e : x3.1 = 1
            · rw [if_pos e, askM_some rfl] at hne'
              cases hne'
            · rw [if_neg e] at hne'
              cases hne'
theorem GInv.run {l : Ly} {n N : Nat} {want : List (List Opr)} (h : TkOk l) (hn : 1 + (n : Int) ≤ l.c.tasks) (hw : GOk n want) (hN : lens3 want = N) (hN2 : N ≤ 1000) (ws : List Nat) : ∀ {s : PSt}, GInv l n N want s → ∃ s', runP l want s ws = (s', false) ∧ GInv l n N want s' := by
  induction ws with
  | nil => intro s hi; exact ⟨s, rfl, hi⟩
  | cons w ws ih =>
    intro s hi
    obtain ⟨s2, h2, hi2⟩ := hi.turn h hn hw hN hN2 w
    obtain ⟨s3, h3, hi3⟩ := ih hi2
    exact ⟨s3, by simp only [runP]; rw [h2]; exact h3, hi3⟩
theorem go_few {l : Ly} {n : Nat} {want : List (List Opr)} (h : TkOk l) (hn : 1 + (n : Int) ≤ l.c.tasks) (hw : GOk n want) : AskFew 7 l want := by
  intro who a op log k c o v ho hne
  rcases gok_op hw ho with rfl | ⟨t, rfl, t1, t2⟩
  · rw [sy_next h] at hne
    unfold syncM joinedM at hne
    rcases log with _ | ⟨x0, _ | ⟨x1, r⟩⟩
    · simp
    · simp
    · rw [askM_some rfl] at hne
      split at hne
      · rw [askM_some rfl] at hne; cases hne
      · cases hne
  · rw [en_next h (by omega) (by omega)] at hne
    unfold endM joinedM at hne
    rcases log with _ | ⟨x0, _ | ⟨x1, _ | ⟨x2, _ | ⟨x3, _ | ⟨x4, r⟩⟩⟩⟩⟩
    · simp
    · simp
    · simp
    · simp
    · simp
    · rw [askM_some rfl, askM_some rfl, askM_some rfl] at hne
      split at hne
      · rw [askM_some rfl] at hne; cases hne
      · rw [askM_some rfl] at hne
        split at hne
        · rw [askM_some rfl] at hne; cases hne
        · cases hne
structure GEnd (l : Ly) (N : Nat) (want : List (List Opr)) (s : PSt) : Prop where
  ml : (s.m.length : Int) = l.size
  add : nAdd l s.out = N
  go : nGo s.out = 1
  join : s.m.getD (taskAt l 1 1).toNat 0 = 1
  kids : ∀ (k j : Nat) (op : Opr), k < 3 → (want.getD k [])[j]? = some op → op.kind = 14 → s.m.getD (taskAt l op.a 2).toNat 0 = op.b ∧ s.m.getD (taskAt l op.a 0).toNat 0 = 3
theorem go_end {l : Ly} {n N : Nat} {want : List (List Opr)} {turns : List Nat} {s : PSt} (h : TkOk l) (hn : 1 + (n : Int) ≤ l.c.tasks) (hw : GOk n want) (hN : lens3 want = N) (hN2 : N ≤ 1000) (hlen : ∀ k, (want.getD k []).length ≤ 8) (hi : GInv l n N want s) (hs : s.seats = List.replicate 3 (0, [])) :
    ∃ s', runP l want s (whosP 3 turns) = (s', false) ∧ GEnd l N want s' := by
  obtain ⟨s', hr, hi'⟩ := hi.run h hn hw hN hN2 (whosP 3 turns)
  refine ⟨s', hr, ?_⟩
  have e60 : (List.range (3 * 60)).map (· / 60) = List.replicate 60 0 ++ (List.replicate 60 1 ++ List.replicate 60 2) := by decide +kernel
  have hsi : SInvC 7 want s.seats := by
    intro k x hk
    rw [hs, List.getElem?_replicate] at hk
    split at hk
    · injection hk with hk
      subst hk
      exact ⟨by simp, Nat.zero_le _, fun _ => rfl⟩
    · cases hk
  unfold whosP at hr
  rw [e60] at hr
  obtain ⟨n3, hend⟩ := all_endedC (go_few h hn hw) (by omega) hsi (by rw [hs]; simp) (fun k => by have := hlen k; omega) hr
  have hz : ∀ f : Opr → List (Int × Bool) → Nat, ∀ k x, s'.seats[k]? = some x → seatF f want k x = 0 := fun f k x hk => by
    obtain ⟨e1, e2⟩ := hend k x hk
    unfold seatF
    rw [e1, List.getElem?_eq_none (Nat.le_refl _)]
  have hA : nAdd l s'.out = N := by
    rw [hi'.adds, ← hN]
    have hs3 := hi'.ns
    revert hend hz
    generalize s'.seats = L at *
    intro hend hz
    match L, hs3 with
    | [a, b, c], _ =>
      have a1 := hend 0 a rfl
      have b1 := hend 1 b rfl
      have c1 := hend 2 c rfl
      have a2 := hz pAdd 0 a rfl
      have b2 := hz pAdd 1 b rfl
      have c2 := hz pAdd 2 c rfl
      simp [sum3, lens3, sAdd] at *
      omega
  have z3 : ∀ f : Opr → List (Int × Bool) → Nat, sum3 (seatF f want) s'.seats z0 = 0 := fun f => by
    have := sum3_le (f := seatF f want) (g := fun _ _ => 0) (l := s'.seats) (d := z0) hi'.ns (fun k x hk => by rw [hz f k x hk]; exact Nat.le_refl 0)
    simpa [sum3] using this
  have hgo := hi'.goes
  rw [z3, hA] at hgo
  have hj := hi'.join2 hA
  rw [z3] at hj
  refine ⟨hi'.ml, hA, by simpa using hgo, by simpa using hj, fun k j op hk ho hk14 => ?_⟩
  obtain ⟨x, hx⟩ : ∃ x, s'.seats[k]? = some x := ⟨_, List.getElem?_eq_getElem (by omega)⟩
  obtain ⟨e1, e2⟩ := hend k x hx
  exact (hi'.seat k x hx).2.1 j op (by rw [e1]; exact (List.getElem?_eq_some_iff.1 ho).1) ho hk14
end Go.Proofs.Ytcjaomiihajjbaa
