/- How the play of TaskClaims lies in memory. -/
import Derived.Test.YtcjaomiihajjbaaClaimP
import Derived.Test.YtcjaomiihajjbaaPlayD
namespace Go.Proofs.Ytcjaomiihajjbaa
open Go.RowKit
set_option linter.unusedVariables false

structure CRep (w : World) (b8 bL b14 gs gw ga : Nat) (pc : Array Value) (l : Ly) (s : PSt) : Prop where
  kP : Bk w b8 27 pc
  kL : Bk w bL 34 (lyC l)
  mem : ∃ g cap, Bk w b14 39 #[.slice (some ⟨g, 0, none⟩) s.m.length cap] ∧ OwnInts w 0 (.slice (some ⟨g, 0, none⟩) s.m.length cap) s.m ∧ g ≠ gw
  seats : ∃ cs, SeatsAt w gs s.seats cs
  won : ∃ cs, Bk w gw 3 cs ∧ cs.size = 9 ∧ ∀ t : Nat, t < 9 → cs[t]? = some (.int .i64 ((bsum s.out (dW t) : Nat) : Int))
  asked : ∃ cs, Bk w ga 4 cs ∧ cs.size = 9 ∧ ∀ t : Nat, t < 9 → cs[t]? = some (.bool (decide (0 < bsum s.out (dA t))))
section
variable {w w' : World} {b8 bL b14 gs gw ga : Nat} {pc : Array Value} {l : Ly} {s : PSt}
theorem CRep.keep (h : CRep w b8 bL b14 gs gw ga pc l s) (hb : Below w.heap.size w w') : CRep w' b8 bL b14 gs gw ga pc l s := by
  obtain ⟨g, cap, h1, h2, h3⟩ := h.mem
  obtain ⟨cs, h4⟩ := h.seats
  obtain ⟨c1, w1, w2, w3⟩ := h.won
  obtain ⟨c2, a1, a2, a3⟩ := h.asked
  exact ⟨h.kP.keep hb, h.kL.keep hb, ⟨g, cap, h1.keep hb, own_keepb h2 hb, h3⟩, ⟨cs, h4.keep hb⟩, ⟨c1, w1.keep hb, w2, w3⟩, ⟨c2, a1.keep hb, a2, a3⟩⟩
/-- A step that is told of nowhere. -/
theorem CRep.ghost {st : StepM} (h : CRep w b8 bL b14 gs gw ga pc l s) (hd : st.done = false) : CRep w b8 bL b14 gs gw ga pc l ⟨s.m, s.seats, s.out ++ [st]⟩ := by
  obtain ⟨c1, w1, w2, w3⟩ := h.won
  obtain ⟨c2, a1, a2, a3⟩ := h.asked
  have e1 : ∀ t, dW t st = 0 := fun t => by simp [dW, hd]
  have e2 : ∀ t, dA t st = 0 := fun t => by simp [dA, hd]
  exact ⟨h.kP, h.kL, h.mem, h.seats, ⟨c1, w1, w2, fun t ht => by dsimp only; rw [bsum_snoc, e1, Nat.add_zero]; exact w3 t ht⟩, ⟨c2, a1, a2, fun t ht => by dsimp only; rw [bsum_snoc, e2, Nat.add_zero]; exact a3 t ht⟩⟩
theorem CRep.seat {G : Option Addr} {cap who a : Nat} {log : List (Int × Bool)} (h : CRep w b8 bL b14 gs gw ga pc l s) (hw : who < s.seats.length) (ho : OwnRes w 0 (.slice G log.length cap) log) :
    CRep ((w.setCell ⟨gs, who * 2, none⟩ (.int .i64 (a : Nat))).setCell ⟨gs, who * 2 + 1, none⟩ (.slice G log.length cap)) b8 bL b14 gs gw ga pc l ⟨s.m, s.seats.set who (a, log), s.out⟩ := by
  obtain ⟨g, cp, h1, h2, h3⟩ := h.mem
  obtain ⟨cs, h4⟩ := h.seats
  obtain ⟨c1, w1, w2, w3⟩ := h.won
  obtain ⟨c2, a1, a2, a3⟩ := h.asked
  have hk : KeptT 63 w ((w.setCell ⟨gs, who * 2, none⟩ (.int .i64 (a : Nat))).setCell ⟨gs, who * 2 + 1, none⟩ (.slice G log.length cap)) := (keptT_set h4.row _ _).trans (keptT_set (h4.row.stored _ _) _ _)
  exact ⟨h.kP.keptT hk (by decide), h.kL.keptT hk (by decide), ⟨g, cp, h1.keptT hk (by decide), own_keptT h2 hk (by decide), h3⟩, ⟨_, h4.set hw ho⟩, ⟨c1, w1.keptT hk (by decide), w2, w3⟩, ⟨c2, a1.keptT hk (by decide), a2, a3⟩⟩
theorem CRep.memory {g cap n : Nat} {m' : List Int} (h : CRep w b8 bL b14 gs gw ga pc l s) (st : Stp b14 w w') (hn : m'.length = n) (k5 : Bk w' b14 39 #[.slice (some ⟨g, 0, none⟩) n cap]) (ho : OwnInts w' 0 (.slice (some ⟨g, 0, none⟩) n cap) m') (hg : g ≠ gw) : CRep w' b8 bL b14 gs gw ga pc l ⟨m', s.seats, s.out⟩ := by
  subst hn
  obtain ⟨_, _, h1, _⟩ := h.mem
  obtain ⟨cs, h4⟩ := h.seats
  obtain ⟨c1, w1, w2, w3⟩ := h.won
  obtain ⟨c2, a1, a2, a3⟩ := h.asked
  have hk := keptT_stp h1 st
  exact ⟨h.kP.keptT hk (by decide), h.kL.keptT hk (by decide), ⟨g, cap, k5, ho, hg⟩, ⟨cs, h4.keptT hk (by decide) (by decide)⟩, ⟨c1, w1.keptT hk (by decide), w2, w3⟩, ⟨c2, a1.keptT hk (by decide), a2, a3⟩⟩
theorem CRep.aside {bX : Nat} {c : Array Value} (h : CRep w b8 bL b14 gs gw ga pc l s) (kX : Bk w bX 63 c) (st : Stp bX w w') (hne : gs ≠ bX) : CRep w' b8 bL b14 gs gw ga pc l s := by
  obtain ⟨g, cp, h1, h2, h3⟩ := h.mem
  obtain ⟨cs, h4⟩ := h.seats
  obtain ⟨c1, w1, w2, w3⟩ := h.won
  obtain ⟨c2, a1, a2, a3⟩ := h.asked
  have hk := keptT_stp kX st
  refine ⟨h.kP.keptT hk (by decide), h.kL.keptT hk (by decide), ⟨g, cp, h1.keptT hk (by decide), own_keptT h2 hk (by decide), h3⟩, ⟨cs, st.keep h4.row hne, h4.size, fun k x hx => ?_⟩, ⟨c1, w1.keptT hk (by decide), w2, w3⟩, ⟨c2, a1.keptT hk (by decide), a2, a3⟩⟩
  obtain ⟨G, cap, e1, e2, e3⟩ := h4.at_ k x hx
  exact ⟨G, cap, e1, e2, own_keptT e3 hk (by decide)⟩
/-- An end: won and asked are told of it. Behind both stores; the seat's own store follows. -/
theorem CRep.told {st : StepM} {a : Nat} (h : CRep w b8 bL b14 gs gw ga pc l s) (ha : a < 9) (hst : st.op.a = (a : Int)) (hd : st.done = true)
    (hsz : b8 ≠ gw ∧ bL ≠ gw ∧ b14 ≠ gw ∧ gs ≠ gw ∧ ga ≠ gw)
    (w' : World) (cw' : Array Value) (stw : Stp gw w w') (kw : Bk w' gw 3 cw') (hcw : ∀ t : Nat, t < 9 → cw'[t]? = some (.int .i64 (((bsum s.out (dW t) + dW t st : Nat) : Nat) : Int))) (hcs : cw'.size = 9) :
    CRep (w'.setCell ⟨ga, a, none⟩ (.bool true)) b8 bL b14 gs gw ga pc l ⟨s.m, s.seats, s.out ++ [st]⟩ := by
  obtain ⟨g, cp, h1, h2, h3⟩ := h.mem
  obtain ⟨cs, h4⟩ := h.seats
  obtain ⟨c1, w1, w2, w3⟩ := h.won
  obtain ⟨c2, a1, a2, a3⟩ := h.asked
  have hkw := keptT_stp w1 stw
  have ka : Bk w' ga 4 c2 := stw.keep a1 hsz.2.2.2.2
  have hka := keptT_set ka a (.bool true)
  have hmem : OwnInts w' 0 (.slice (some ⟨g, 0, none⟩) s.m.length cp) s.m := by
    rcases h2.2 with q | ⟨g', cap', cur, q1, q2, q3, q4⟩
    · exact ⟨h2.1, .inl q⟩
    · injection q1 with q1 _ qc
      injection q1 with q1
      injection q1 with q1
      subst q1
      have hlt : g < w.heap.size := (Array.getElem?_eq_some_iff.1 q3).1
      refine ⟨h2.1, .inr ⟨g, cap', cur, by rw [qc], q2, ?_, q4⟩⟩
      rw [stw.block g hlt h3]
      exact q3
  have seats' : SeatsAt w' gs s.seats cs := ⟨stw.keep h4.row hsz.2.2.2.1, h4.size, fun k x hx => by
    obtain ⟨G, cap, e1, e2, e3⟩ := h4.at_ k x hx
    exact ⟨G, cap, e1, e2, own_keptT e3 hkw (by decide)⟩⟩
  refine ⟨(stw.keep h.kP hsz.1).keptT hka (by decide), (stw.keep h.kL hsz.2.1).keptT hka (by decide), ⟨g, cp, (stw.keep h1 hsz.2.2.1).keptT hka (by decide), own_keptT hmem hka (by decide), h3⟩, ⟨cs, seats'.keptT hka (by decide) (by decide)⟩, ⟨cw', kw.keptT hka (by decide), hcs, fun t ht => ?_⟩, ⟨_, ka.stored a (.bool true), by simp [a2], fun t ht => ?_⟩⟩
  · dsimp only
    rw [bsum_snoc]
    exact hcw t ht
  · dsimp only
    rw [bsum_snoc]
    by_cases e : t = a
    · subst e
      rw [Array.getElem?_setIfInBounds_self_of_lt (by omega)]
      have : dA (t : Int) st = 1 := by simp [dA, hd, hst]
      rw [this]
      simp
    · rw [Array.getElem?_setIfInBounds_ne (by omega)]
      have : dA (t : Int) st = 0 := by
        have : ¬ ((a : Int) = t) := by omega
        simp [dA, hst, this]
      rw [this, Nat.add_zero]
      exact a3 t ht
end
def CRel (w0 : World) (b8 bL b14 gs gw ga : Nat) (pc : Array Value) (l : Ly) (want : List (List Opr)) (ws : List Nat) (s0 : PSt) (v22 : Value) (wr : World) : Prop :=
  ∃ (k : Nat) (s : PSt), k ≤ ws.length ∧ v22 = .int .i64 k ∧ Below w0.heap.size w0 wr ∧ runP l want s0 (ws.take k) = (s, false) ∧ CRep wr b8 bL b14 gs gw ga pc l s
end Go.Proofs.Ytcjaomiihajjbaa
