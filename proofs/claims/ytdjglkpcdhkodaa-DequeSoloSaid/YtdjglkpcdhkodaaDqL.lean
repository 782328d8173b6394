/- The deque's plain law: the order of what is done. No program in sight. -/
import Derived.Test.YtdjglkpcdhkodaaDqK
namespace Go.Proofs.Ytdjglkpcdhkodaa
open Go.RowKit
set_option linter.unusedVariables false

/-- Does a row answer an operation so, and the row behind it? -/
def fitsM (row : List Int) (d : DoneD) : List Int × Bool :=
  if d.op.kind = 8 then (row ++ [d.op.a], d.is)
  else if d.op.kind = 10 ∧ d.is = false ∧ d.err = 0 then (row, true)
  else if row.length = 0 then (row, !d.is && (decide (d.err = 16) == decide (d.op.kind = 10)))
  else if d.op.kind = 9 then (row.take (row.length - 1), d.is && decide (d.val = row.getD (row.length - 1) 0))
  else (row.drop 1, d.is && decide (d.val = row.getD 0 0))
abbrev Ent := DoneD × Nat
def rep : List Int → List Ent → Option (List Int)
  | row, [] => some row
  | row, e :: es => if (fitsM row e.1).2 = true then rep (fitsM row e.1).1 es else none
theorem rep_append : ∀ (es es' : List Ent) (row : List Int), rep row (es ++ es') = (rep row es).bind fun r => rep r es' := by
  intro es
  induction es with
  | nil => intro es' row; rfl
  | cons e es ih =>
    intro es' row
    simp only [List.cons_append, rep]
    split
    · exact ih es' _
    · rfl
theorem rep_snoc {es : List Ent} {row r r' : List Int} {e : Ent} (h : rep row es = some r) (hf : fitsM r e.1 = (r', true)) : rep row (es ++ [e]) = some r' := by
  rw [rep_append, h]
  simp [rep, hf]
theorem fits_push {row : List Int} {d : DoneD} (h : d.op.kind = 8) (hi : d.is = true) : fitsM row d = (row ++ [d.op.a], true) := by
  unfold fitsM
  rw [if_pos h, hi]
theorem fits_lost {row : List Int} {d : DoneD} (h : d.op.kind = 10) (hi : d.is = false) (he : d.err = 0) : fitsM row d = (row, true) := by
  unfold fitsM
  rw [if_neg (by omega), if_pos ⟨h, hi, he⟩]
theorem fits_none {d : DoneD} (h : d.op.kind = 10) (hi : d.is = false) (he : d.err = 16) : fitsM [] d = ([], true) := by
  unfold fitsM
  rw [if_neg (by omega), if_neg (by omega), if_pos (show ([] : List Int).length = 0 from rfl), hi, he, h]
  rfl
theorem fits_pop0 {d : DoneD} (h : d.op.kind = 9) (hi : d.is = false) (he : d.err = 0) : fitsM [] d = ([], true) := by
  unfold fitsM
  rw [if_neg (by omega), if_neg (by omega), if_pos (show ([] : List Int).length = 0 from rfl), hi, he, h]
  rfl
theorem fits_pop {row : List Int} {x : Int} {d : DoneD} (h : d.op.kind = 9) (hi : d.is = true) (hv : d.val = x) : fitsM (row ++ [x]) d = (row, true) := by
  unfold fitsM
  rw [if_neg (by omega), if_neg (by omega), if_neg (by simp), if_pos h, hi, hv]
  simp
theorem fits_steal {row : List Int} {x : Int} {d : DoneD} (h : d.op.kind = 10) (hi : d.is = true) (hv : d.val = x) : fitsM (x :: row) d = (row, true) := by
  unfold fitsM
  rw [if_neg (by omega), if_neg (by simp [hi]), if_neg (by simp), if_neg (by omega), hi, hv]
  simp
/-- The row that there is. -/
def Lc (m : List Int) : List Int := rowM m (whi m) (top m) (bot m - top m).toNat
theorem Lc_nil {m : List Int} (h : bot m ≤ top m) : Lc m = [] := by
  unfold Lc
  rw [show (bot m - top m).toNat = 0 by omega]
  rfl
theorem Lc_cons {m : List Int} (h : top m < bot m) : Lc m = rc m (whi m) (top m) :: rowM m (whi m) (top m + 1) (bot m - (top m + 1)).toNat := by
  unfold Lc
  rw [show (bot m - top m).toNat = (bot m - (top m + 1)).toNat + 1 by omega]
  exact rowM_succ _ _ _ _
theorem Lc_congr {m m' : List Int} (h1 : top m' = top m) (h2 : bot m' = bot m) (h3 : ∀ i : Int, top m ≤ i → i < bot m → rc m' (whi m') i = rc m (whi m) i) : Lc m' = Lc m := by
  unfold Lc
  rw [h1, h2]
  exact rowM_congr fun i hi hj => h3 i hi (by omega)
/-- A pop at work: the row ahead of it, rp, and behind it, r0. -/
def FlRel (m : List Int) (q : Bool) (rp r0 : List Int) : Ph → Prop
  | .o6 _ x c => if c then rp = r0 ++ [x] else (rp = [] ∧ r0 = [])
  | .o2 _ | .oe _ | .o3 _ _ | .o4 _ _ _ | .o5 _ _ => if q then (r0 = [] ∧ ((top m = bot m ∧ rp = [rc m (whi m) (bot m)]) ∨ (top m = bot m + 1 ∧ rp = []))) else rp = r0 ++ [rc m (whi m) (bot m)]
  | _ => rp = r0
structure LI (row0 m : List Int) (p0 : Ph) (p : Nat) (q : Bool) (step : Nat) (pre post : List Ent) : Prop where
  nf : p0.fl = false → post = []
  rp : ∃ rp r0, rep row0 pre = some rp ∧ rep r0 post = some (Lc m) ∧ FlRel m q rp r0 p0
  so : (pre ++ post).Pairwise fun e e' => e.2 ≤ e'.2
  lt : ∀ e ∈ pre ++ post, e.2 < step
  sp : p0.fl = true → (∀ e ∈ pre, e.2 ≤ p) ∧ (∀ e ∈ post, p ≤ e.2) ∧ p < step
  it : ∀ e ∈ pre ++ post, e.1.first ≤ e.2 ∧ e.2 ≤ e.1.last
section
variable {row0 m m' : List Int} {p0 p0' : Ph} {p : Nat} {q q' : Bool} {step : Nat} {pre post : List Ent}
theorem FlRel.nofl {rp r0 : List Int} (h : p0.fl = false) : FlRel m q rp r0 p0 ↔ rp = r0 := by
  cases p0 <;> first | rfl | cases h
/-- No row is turned. -/
theorem LI.quiet (h : LI row0 m p0 p q step pre post) (hf : p0'.fl = p0.fl) (hL : Lc m' = Lc m) (hr : ∀ rp r0, FlRel m q rp r0 p0 → FlRel m' q' rp r0 p0') {step' : Nat} (hs : step ≤ step') : LI row0 m' p0' p q' step' pre post := by
  obtain ⟨rp, r0, h1, h2, h3⟩ := h.rp
  exact ⟨fun e => h.nf (by rw [← hf]; exact e), ⟨rp, r0, h1, by rw [hL]; exact h2, hr _ _ h3⟩, h.so, fun e he => Nat.lt_of_lt_of_le (h.lt e he) hs, fun e => by
    obtain ⟨g1, g2, g3⟩ := h.sp (by rw [← hf]; exact e)
    exact ⟨g1, g2, by omega⟩, h.it⟩
theorem snoc_sorted {L : List Ent} {e : Ent} (h : L.Pairwise fun e e' => e.2 ≤ e'.2) (hl : ∀ x ∈ L, x.2 ≤ e.2) : (L ++ [e]).Pairwise fun e e' => e.2 ≤ e'.2 := by
  rw [List.pairwise_append]
  exact ⟨h, List.pairwise_singleton _ _, fun x hx y hy => by rw [List.mem_singleton.1 hy]; exact hl x hx⟩
/-- An operation's point is now, at the end of the row as it is. -/
theorem LI.app (h : LI row0 m p0 p q step pre post) {d : DoneD} (hf : p0'.fl = p0.fl) (hd : fitsM (Lc m) d = (Lc m', true)) (hr : p0.fl = true → ∀ rp r0, FlRel m q rp r0 p0 → FlRel m' q rp r0 p0') (h1 : d.first ≤ step) (h2 : d.last = step) :
    ∃ pre' post', LI row0 m' p0' p q (step + 1) pre' post' ∧ ((pre' ++ post').map (·.1)).Perm (((pre ++ post).map (·.1)) ++ [d]) := by
  obtain ⟨rp, r0, g1, g2, g3⟩ := h.rp
  have hlt : ∀ e ∈ pre ++ post, e.2 ≤ step := fun e he => Nat.le_of_lt (h.lt e he)
  have hl2 : ∀ e ∈ (pre ++ post) ++ [((d, step) : Ent)], e.2 < step + 1 := fun e he => by
    rcases List.mem_append.1 he with he | he
    · have := h.lt e he; omega
    · rw [List.mem_singleton.1 he]; exact Nat.lt_succ_self _
  have hi2 : ∀ e ∈ (pre ++ post) ++ [((d, step) : Ent)], e.1.first ≤ e.2 ∧ e.2 ≤ e.1.last := fun e he => by
    rcases List.mem_append.1 he with he | he
    · exact h.it e he
    · rw [List.mem_singleton.1 he]; exact ⟨h1, Nat.le_of_eq h2.symm⟩
  cases hfl : p0.fl with
  | false =>
    have hp := h.nf hfl
    subst hp
    rw [FlRel.nofl hfl] at g3
    subst g3
    simp only [rep, Option.some.injEq] at g2
    subst g2
    simp only [List.append_nil] at hl2 hi2 hlt ⊢
    refine ⟨pre ++ [(d, step)], [], ⟨fun _ => rfl, ⟨Lc m', Lc m', rep_snoc g1 hd, rfl, (FlRel.nofl (by rw [hf]; exact hfl)).2 rfl⟩, ?_, ?_, (fun e => by rw [hf, hfl] at e; cases e), ?_⟩, ?_⟩
    · simp only [List.append_nil]
      have := h.so
      simp only [List.append_nil] at this
      exact snoc_sorted this hlt
    · simpa only [List.append_nil] using hl2
    · simpa only [List.append_nil] using hi2
    · simp
  | true =>
    obtain ⟨s1, s2, s3⟩ := h.sp hfl
    refine ⟨pre, post ++ [(d, step)], ⟨(fun e => by rw [hf, hfl] at e; cases e), ⟨rp, r0, g1, rep_snoc g2 hd, hr hfl _ _ g3⟩, ?_, ?_, fun _ => ⟨s1, ?_, by omega⟩, ?_⟩, ?_⟩
    · rw [← List.append_assoc]
      exact snoc_sorted h.so hlt
    · rw [← List.append_assoc]
      exact hl2
    · intro e he
      rcases List.mem_append.1 he with he | he
      · exact s2 e he
      · rw [List.mem_singleton.1 he]; dsimp only; omega
    · rw [← List.append_assoc]
      exact hi2
    · rw [← List.append_assoc, List.map_append]
      exact List.Perm.refl _
/-- A pop begins. -/
theorem LI.begin (h : LI row0 m p0 p q step pre post) (h0 : p0.fl = false) (hf : p0'.fl = true) {r0 : List Int} (hL : Lc m' = r0) (hr : FlRel m' q' (Lc m) r0 p0') : LI row0 m' p0' step q' (step + 1) pre post := by
  obtain ⟨rp, r1, g1, g2, g3⟩ := h.rp
  have hp := h.nf h0
  subst hp
  rw [FlRel.nofl h0] at g3
  subst g3
  simp only [rep, Option.some.injEq] at g2
  subst g2
  refine ⟨fun _ => rfl, ⟨Lc m, r0, g1, by rw [hL]; rfl, hr⟩, h.so, fun e he => by have := h.lt e he; omega, fun _ => ⟨fun e he => Nat.le_of_lt (h.lt e (by simpa using he)), fun e he => (by cases he), Nat.lt_succ_self _⟩, h.it⟩
theorem mid_sorted {L L' : List Ent} {e : Ent} (h : (L ++ L').Pairwise fun e e' => e.2 ≤ e'.2) (h1 : ∀ x ∈ L, x.2 ≤ e.2) (h2 : ∀ x ∈ L', e.2 ≤ x.2) : (L ++ e :: L').Pairwise fun e e' => e.2 ≤ e'.2 := by
  rw [List.pairwise_append] at h ⊢
  refine ⟨h.1, List.pairwise_cons.2 ⟨h2, h.2.1⟩, fun x hx y hy => ?_⟩
  rcases List.mem_cons.1 hy with rfl | hy
  · exact h1 x hx
  · exact h.2.2 x hx y hy
theorem perm_mid {L L' : List Ent} {e : Ent} : ((L ++ e :: L').map (·.1)).Perm (((L ++ L').map (·.1)) ++ [e.1]) := by
  simp only [List.map_append, List.map_cons]
  refine (List.perm_middle).trans ?_
  exact (List.perm_append_singleton _ _).symm
theorem mem_mid {L L' : List Ent} {e x : Ent} (h : x ∈ L ++ e :: L') : x = e ∨ x ∈ L ++ L' := by
  simp only [List.mem_append, List.mem_cons] at h ⊢
  rcases h with h | h | h
  · exact .inr (.inl h)
  · exact .inl h
  · exact .inr (.inr h)
/-- A pop is done: its point was when it began. -/
theorem LI.fin (h : LI row0 m p0 p q step pre post) (h0 : p0.fl = true) (hf : p0'.fl = false) {d : DoneD} (hL : Lc m' = Lc m) (hd : ∀ rp r0, FlRel m q rp r0 p0 → fitsM rp d = (r0, true)) (h1 : d.first ≤ p) (h2 : d.last = step) :
    ∃ pre' post', LI row0 m' p0' p q (step + 1) pre' post' ∧ ((pre' ++ post').map (·.1)).Perm (((pre ++ post).map (·.1)) ++ [d]) := by
  obtain ⟨rp, r0, g1, g2, g3⟩ := h.rp
  obtain ⟨s1, s2, s3⟩ := h.sp h0
  refine ⟨pre ++ (d, p) :: post, [], ⟨fun _ => rfl, ⟨Lc m', Lc m', ?_, rfl, (FlRel.nofl hf).2 rfl⟩, ?_, ?_, (fun e => by rw [hf] at e; cases e), ?_⟩, ?_⟩
  · rw [rep_append, g1]
    show rep rp ((d, p) :: post) = _
    rw [rep]
    simp only [hd _ _ g3, if_pos, hL]
    exact g2
  · rw [List.append_nil]; exact mid_sorted h.so s1 s2
  · rw [List.append_nil]
    intro e he
    rcases mem_mid he with rfl | he
    · dsimp only; omega
    · have := h.lt e he; omega
  · rw [List.append_nil]
    intro e he
    rcases mem_mid he with rfl | he
    · exact ⟨h1, by dsimp only; omega⟩
    · exact h.it e he
  · rw [List.append_nil]; exact perm_mid
/-- A thief wins what a pop is after: its point is when the pop began. -/
theorem LI.win (h : LI row0 m p0 p q step pre post) (h0 : p0.fl = true) {d : DoneD} (hL : Lc m' = Lc m) (hd : ∀ rp r0, FlRel m q rp r0 p0 → ∃ rp', fitsM rp d = (rp', true) ∧ FlRel m' q rp' r0 p0) (h1 : d.first ≤ p) (h2 : d.last = step) :
    ∃ pre' post', LI row0 m' p0 p q (step + 1) pre' post' ∧ ((pre' ++ post').map (·.1)).Perm (((pre ++ post).map (·.1)) ++ [d]) := by
  obtain ⟨rp, r0, g1, g2, g3⟩ := h.rp
  obtain ⟨s1, s2, s3⟩ := h.sp h0
  obtain ⟨rp', f1, f2⟩ := hd _ _ g3
  have ea : (pre ++ [((d, p) : Ent)]) ++ post = pre ++ (d, p) :: post := by simp
  refine ⟨pre ++ [(d, p)], post, ⟨(fun e => by rw [h0] at e; cases e), ⟨rp', r0, rep_snoc g1 f1, by rw [hL]; exact g2, f2⟩, ?_, ?_, fun _ => ⟨?_, s2, by omega⟩, ?_⟩, ?_⟩
  · rw [ea]; exact mid_sorted h.so s1 s2
  · rw [ea]
    intro e he
    rcases mem_mid he with rfl | he
    · dsimp only; omega
    · have := h.lt e he; omega
  · intro e he
    rcases List.mem_append.1 he with he | he
    · exact s1 e he
    · rw [List.mem_singleton.1 he]; exact Nat.le_refl _
  · rw [ea]
    intro e he
    rcases mem_mid he with rfl | he
    · exact ⟨h1, by dsimp only; omega⟩
    · exact h.it e he
  · rw [ea]; exact perm_mid
end
end Go.Proofs.Ytdjglkpcdhkodaa
