/- The deque's plain law: what is in the rings, what was stolen. No program in sight. -/
import Derived.Test.YtdjglkpcdhkodaaDqL
namespace Go.Proofs.Ytdjglkpcdhkodaa
open Go.RowKit
set_option linter.unusedVariables false

/-- A push that has not yet moved the bottom. -/
def pnd : Ph → Nat
  | .u0 | .u1 _ | .u2 _ _ | .mv _ _ _ _ | .mx _ _ _ _ _ _ | .pt _ _ _ | .bt _ _ => 1
  | _ => 0
/-- All that lies in the ring, what a pop is after, too. -/
def Lp (m : List Int) (p0 : Ph) : List Int := rowM m (whi m) (top m) (bot m + fli p0 - top m).toNat
structure SI (m : List Int) (p0 : Ph) (a : Int) (nx : Nat) (recs : List DoneD) (step : Nat) : Prop where
  bn : bot m + fli p0 + pnd p0 ≤ nx
  so : (Lp m p0).Pairwise (· < ·)
  bd : ∀ v ∈ Lp m p0, 1 ≤ v ∧ v + pnd p0 ≤ nx
  pa : pnd p0 = 1 → a = nx
  w6 : ∀ b x, p0 = .o6 b x true → 1 ≤ x ∧ x ≤ nx
  st : ∀ d ∈ recs, d.op.kind = 10 → d.is = true → d.last < step ∧ (∀ v ∈ Lp m p0, d.val < v) ∧ d.val + pnd p0 ≤ nx ∧ 1 ≤ d.val
  pw : ∀ d ∈ recs, ∀ d' ∈ recs, d.op.kind = 10 → d.is = true → d'.op.kind = 10 → d'.is = true → d.last < d'.last → d.val < d'.val
  tk : ∀ d ∈ recs, d.op.kind = 9 → d.is = true → 1 ≤ d.val ∧ d.val ≤ nx
  pu : ∀ d ∈ recs, d.op.kind = 8 → 1 ≤ d.op.a ∧ d.op.a ≤ nx
section
variable {m m' : List Int} {p0 p0' : Ph} {a : Int} {nx : Nat} {recs recs' : List DoneD} {step step' : Nat}
theorem SI.sub (h : SI m p0 a nx recs step) (hs : ∀ d ∈ recs', d ∈ recs) : SI m p0 a nx recs' step :=
  ⟨h.bn, h.so, h.bd, h.pa, h.w6, fun d hd => h.st d (hs d hd), fun d hd d' hd' => h.pw d (hs d hd) d' (hs d' hd'), fun d hd => h.tk d (hs d hd), fun d hd => h.pu d (hs d hd)⟩
theorem SI.keep (h : SI m p0 a nx recs step) (hb : bot m' + fli p0' + pnd p0' ≤ bot m + fli p0 + pnd p0) (hs : (Lp m' p0').Sublist (Lp m p0)) (hp : pnd p0' ≤ pnd p0) (hp1 : pnd p0 ≤ 1) (h6 : ∀ b x, p0' = .o6 b x true → 1 ≤ x ∧ x ≤ nx) (hst : step ≤ step') : SI m' p0' a nx recs step' :=
  ⟨by have := h.bn; omega, h.so.sublist hs, fun v hv => by have := h.bd v (hs.subset hv); omega, fun e => h.pa (by omega), h6, fun d hd h1 h2 => by
    obtain ⟨g1, g2, g3, g4⟩ := h.st d hd h1 h2
    exact ⟨by omega, fun v hv => g2 v (hs.subset hv), by omega, g4⟩, h.pw, h.tk, h.pu⟩
/-- A record that is no steal that went. -/
theorem SI.add (h : SI m p0 a nx recs step) {d : DoneD} (h0 : d.op.kind = 10 → d.is = false) (h1 : d.op.kind = 9 → d.is = true → 1 ≤ d.val ∧ d.val ≤ nx) (h2 : d.op.kind = 8 → 1 ≤ d.op.a ∧ d.op.a ≤ nx) : SI m p0 a nx (d :: recs) step := by
  refine ⟨h.bn, h.so, h.bd, h.pa, h.w6, fun x hx g1 g2 => ?_, fun x hx y hy g1 g2 g3 g4 => ?_, fun x hx g1 g2 => ?_, fun x hx g1 => ?_⟩
  · rcases List.mem_cons.1 hx with rfl | hx
    · rw [h0 g1] at g2; cases g2
    · exact h.st x hx g1 g2
  · rcases List.mem_cons.1 hx with rfl | hx
    · rw [h0 g1] at g2; cases g2
    · rcases List.mem_cons.1 hy with rfl | hy
      · rw [h0 g3] at g4; cases g4
      · exact h.pw x hx y hy g1 g2 g3 g4
  · rcases List.mem_cons.1 hx with rfl | hx
    · exact h1 g1 g2
    · exact h.tk x hx g1 g2
  · rcases List.mem_cons.1 hx with rfl | hx
    · exact h2 g1
    · exact h.pu x hx g1
/-- A steal that went: of what was in front. -/
theorem SI.win (h : SI m p0 a nx recs step) {x : Int} {L : List Int} (hL : Lp m p0 = x :: L) (hL' : Lp m' p0' = L) (hb : bot m' = bot m) (hf : fli p0' = fli p0) (hp : pnd p0' = pnd p0) (h6 : ∀ b x, p0' = .o6 b x true → 1 ≤ x ∧ x ≤ nx)
    {d : DoneD} (hk : d.op.kind = 10) (hi : d.is = true) (hv : d.val = x) (hl : d.last = step) : SI m' p0' a nx (d :: recs) (step + 1) := by
  have hso := h.so
  rw [hL, List.pairwise_cons] at hso
  have hx := h.bd x (by rw [hL]; simp)
  have hold : ∀ e ∈ recs, e.op.kind = 10 → e.is = true → e.last < step ∧ e.val < x := fun e he g1 g2 => by
    obtain ⟨q1, q2, _⟩ := h.st e he g1 g2
    exact ⟨q1, q2 x (by rw [hL]; simp)⟩
  refine ⟨by rw [hb, hf, hp]; exact h.bn, by rw [hL']; exact hso.2, fun v hv => ?_, fun e => h.pa (by rw [← hp]; exact e), h6, fun e he g1 g2 => ?_, fun e he e' he' g1 g2 g3 g4 g5 => ?_, fun e he g1 g2 => ?_, fun e he g1 => ?_⟩
  · rw [hL'] at hv
    rw [hp]
    exact h.bd v (by rw [hL]; exact List.mem_cons_of_mem _ hv)
  · rw [hL', hp]
    rcases List.mem_cons.1 he with rfl | he
    · refine ⟨by omega, fun v hv' => by rw [hv]; exact hso.1 v hv', by rw [hv]; omega, by omega⟩
    · obtain ⟨q1, q2, q3, q4⟩ := h.st e he g1 g2
      exact ⟨by omega, fun v hv' => q2 v (by rw [hL]; exact List.mem_cons_of_mem _ hv'), q3, q4⟩
  · rcases List.mem_cons.1 he with hq | hq
    · rcases List.mem_cons.1 he' with hq' | hq'
      · rw [hq, hq'] at g5; omega
      · have := hold e' hq' g3 g4; rw [hq] at g5; omega
    · rcases List.mem_cons.1 he' with hq' | hq'
      · have := hold e hq g1 g2; rw [hq']; omega
      · exact h.pw e hq e' hq' g1 g2 g3 g4 g5
  · rcases List.mem_cons.1 he with rfl | he
    · omega
    · exact h.tk e he g1 g2
  · rcases List.mem_cons.1 he with rfl | he
    · omega
    · exact h.pu e he g1
/-- A push. -/
theorem SI.push (h : SI m p0 a nx recs step) (h1 : pnd p0 = 1) (hL : Lp m' p0' = Lp m p0 ++ [a]) (hp : pnd p0' = 0) (hb : bot m' + fli p0' ≤ bot m + fli p0 + 1) (hb0 : 0 ≤ bot m + fli p0) (h6 : ∀ b x, p0' = .o6 b x true → 1 ≤ x ∧ x ≤ nx)
    {d : DoneD} (hk : d.op.kind = 8) (ha : d.op.a = a) : SI m' p0' a nx (d :: recs) (step + 1) := by
  have hpa := h.pa h1
  have hbn := h.bn
  refine ⟨by rw [hp]; omega, ?_, fun v hv => ?_, fun e => by omega, h6, fun e he g1 g2 => ?_, fun e he e' he' g1 g2 g3 g4 g5 => ?_, fun e he g1 g2 => ?_, fun e he g1 => ?_⟩
  · rw [hL, List.pairwise_append]
    refine ⟨h.so, List.pairwise_singleton _ _, fun x hx y hy => ?_⟩
    rw [List.mem_singleton.1 hy]
    have := h.bd x hx
    omega
  · rw [hL] at hv
    rcases List.mem_append.1 hv with hv | hv
    · have := h.bd v hv; omega
    · rw [List.mem_singleton.1 hv]; omega
  · rcases List.mem_cons.1 he with rfl | he
    · omega
    · obtain ⟨q1, q2, q3, q4⟩ := h.st e he g1 g2
      refine ⟨by omega, fun v hv => ?_, by omega, q4⟩
      rw [hL] at hv
      rcases List.mem_append.1 hv with hv | hv
      · exact q2 v hv
      · rw [List.mem_singleton.1 hv]; omega
  · rcases List.mem_cons.1 he with rfl | he
    · omega
    · rcases List.mem_cons.1 he' with rfl | he'
      · omega
      · exact h.pw e he e' he' g1 g2 g3 g4 g5
  · rcases List.mem_cons.1 he with rfl | he
    · omega
    · exact h.tk e he g1 g2
  · rcases List.mem_cons.1 he with rfl | he
    · rw [ha]; omega
    · exact h.pu e he g1
end
/-- What a place tells, if the operation is over there. -/
def Ph.fin : Ph → Option (Int × Bool × Int)
  | .un => some (0, true, 0)
  | .fu => some (0, false, 9)
  | .on v is _ => some (v, is, 0)
  | .sn v is e _ => some (v, is, e)
  | _ => none
/-- The record of an operation that is over there: none, or one. -/
def Recs (p0' : Ph) (kind a : Int) (step p : Nat) (fl : Bool) (D : List DoneD) : Prop :=
  match p0'.fin with
  | none => D = []
  | some (v, is, e) => ∃ d, D = [d] ∧ d.op.kind = kind ∧ d.op.a = a ∧ d.val = v ∧ d.is = is ∧ d.err = e ∧ d.last = step ∧ d.first ≤ step ∧ (fl = true → d.first ≤ p)
theorem lp_eq {m : List Int} {p0 : Ph} (h : p0.fl = false) : Lp m p0 = Lc m := by
  unfold Lp Lc fli
  rw [h]
  simp
theorem lp_fl {m : List Int} {p0 : Ph} (h : p0.fl = true) : Lp m p0 = rowM m (whi m) (top m) (bot m + 1 - top m).toNat := by
  unfold Lp fli
  rw [h]
  simp
theorem pnd_le (p : Ph) : pnd p ≤ 1 := by cases p <;> simp [pnd]
end Go.Proofs.Ytdjglkpcdhkodaa
