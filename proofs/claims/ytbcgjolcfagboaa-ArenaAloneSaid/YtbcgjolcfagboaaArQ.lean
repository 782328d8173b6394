/- The arena's plain law: a turn keeps what holds, and its step is as the statements say. -/
import Derived.Test.YtbcgjolcfagboaaArP
namespace Go.Proofs.Ytbcgjolcfagboaa
open Go.RowKit
set_option linter.unusedVariables false

/-- What the statements' loops keep: which nodes are had, how many tries went, and what each seat saw of that. -/
structure GhA where
  had : Int → Bool
  went : Nat
  look : Nat → Int
def ghA (l : Ly) (g : GhA) (st : StepA) : GhA :=
  { had := fun v => if st.op.kind = 2 ∧ st.acc.kind = 3 ∧ st.res.2 = true then (if v = st.op.a then false else g.had v) else if st.done = true ∧ st.op.kind = 1 ∧ st.is = true then (if v = st.val then true else g.had v) else g.had v
    went := if st.acc.kind = 3 ∧ st.res.2 = true then g.went + 1 else g.went
    look := fun k => if st.acc.kind = 1 ∧ st.acc.cell = l.free ∧ k = st.who then g.went else g.look k }
def Ph.seen : Ph → Option Int
  | .t1 x | .t2 x _ | .g1 x | .g2 x => some x
  | _ => none
structure GR (t : TabA) (g : GhA) : Prop where
  had : ∀ v, g.had v = true ↔ 0 < sumc SeatA.hads v t.seats
  look : ∀ (k : Nat) (s : SeatA) (x : Int), t.seats[k]? = some s → s.ph.seen = some x → g.look k = cntOf x
/-- What the statements ask of a step. -/
structure StepOk (l : Ly) (n : Nat) (g : GhA) (st : StepA) : Prop where
  who : st.who < n
  once : st.done = true → st.op.kind = 1 → st.is = true → (1 ≤ st.val ∧ st.val ≤ l.c.nodes) ∧ g.had st.val = false
  give : st.done = false → st.op.kind = 2 → 1 ≤ st.op.a ∧ st.op.a ≤ l.c.nodes
  pass : st.acc.kind = 3 → st.res.2 = decide (g.look st.who = g.went)
  touch : st.done = true ∨ (st.acc.cell = l.free ∧ st.acc.kind ≠ 2) ∨ (st.acc.cell = l.era ∧ st.acc.kind = 1) ∨ (∃ a, (1 ≤ a ∧ a ≤ l.c.nodes) ∧ st.acc.cell = nodeAt l a 7 ∧ (st.acc.kind = 2 → st.op.kind = 2)) ∨ (∃ a, (1 ≤ a ∧ a ≤ l.c.nodes) ∧ st.acc.cell = nodeAt l a 6 ∧ st.acc.kind = 2 ∧ st.op.kind = 1)
  zero : st.done = true → st.acc.kind = 0
theorem GR.upd {t : TabA} {g g' : GhA} (h : GR t g) {who : Nat} {s s' : SeatA} (hs : t.seats[who]? = some s) (m' : List Int)
    (had : ∀ v, g'.had v = true ↔ 0 < sumc SeatA.hads v (t.seats.set who s')) (lk : ∀ x, s'.ph.seen = some x → g'.look who = cntOf x) (lo : ∀ k, k ≠ who → g'.look k = g.look k) : GR ⟨m', t.seats.set who s'⟩ g' := by
  have hw := (List.getElem?_eq_some_iff.1 hs).1
  refine ⟨had, fun k u x hk hx => ?_⟩
  dsimp only at hk
  by_cases e : k = who
  · subst e
    rw [List.getElem?_set_self hw] at hk
    injection hk with hk
    subst hk
    exact lk x hx
  · rw [List.getElem?_set_ne (fun e' => e e'.symm)] at hk
    rw [lo k e]
    exact h.look k u x hk hx
theorem had_same {t : TabA} {g : GhA} (h : GR t g) {who : Nat} {s s' : SeatA} (hs : t.seats[who]? = some s) (e : ∀ v, s'.hads.count v = s.hads.count v) : ∀ v, g.had v = true ↔ 0 < sumc SeatA.hads v (t.seats.set who s') := by
  intro v
  have := sumc_set SeatA.hads v s' t.seats who s hs
  rw [h.had v]
  have := e v
  omega
theorem own_split (s : SeatA) (v : Int) : s.own.count v = s.hads.count v + s.mid.count v := by simp [SeatA.own, SeatA.hads]; omega
theorem hads_split (s : SeatA) (v : Int) : s.hads.count v = s.has.count v + s.gives.count v := by simp [SeatA.hads]
section
variable {l : Ly} {sz n : Nat} {t : TabA} {L : List Int} {g : GhA} {who : Nat} {s : SeatA}
/-- A load: memory stays. -/
theorem acc_load {c : Int} {m : List Int} : (⟨1, c, 0, 0⟩ : Acc).make m = m ∧ (⟨1, c, 0, 0⟩ : Acc).ok ((⟨1, c, 0, 0⟩ : Acc).had m) = true ∧ (⟨1, c, 0, 0⟩ : Acc).had m = m.getD c.toNat 0 := by
  refine ⟨?_, rfl, rfl⟩
  simp only [Acc.make, Acc.next, if_true, Acc.had]
  exact set_same
theorem acc_store {c v : Int} {m : List Int} : (⟨2, c, 0, v⟩ : Acc).make m = m.set c.toNat v ∧ (⟨2, c, 0, v⟩ : Acc).ok ((⟨2, c, 0, v⟩ : Acc).had m) = true := ⟨by simp [Acc.make, Acc.next], rfl⟩
theorem acc_err {k c o v : Int} {m : Nat} (hc : 0 ≤ c ∧ c < m) (h : (k = 1 ∧ v = 0 ∧ o = 0) ∨ (k = 2 ∧ o = 0) ∨ k = 3) : (⟨k, c, o, v⟩ : Acc).err m = 0 := by
  have h1 : (⟨k, c, o, v⟩ : Acc).right = true := by
    rcases h with ⟨rfl, rfl, rfl⟩ | ⟨rfl, rfl⟩ | rfl <;> simp [Acc.right, hc.1]
  unfold Acc.err
  rw [if_pos h1, if_pos hc.2]
/-- What a turn's step is to keep. -/
def Kept (l : Ly) (sz n : Nat) (t' : TabA) (g : GhA) (st : StepA) : Prop := ∃ L', AI l sz t' L' (ghA l g st).went ∧ GR t' (ghA l g st) ∧ StepOk l n g st
def addR (s : SeatA) (r : Int × Bool) : SeatA := ⟨s.op, s.log ++ [r], s.next, s.has⟩
theorem addR_ph (s : SeatA) (r : Int × Bool) : (addR s r).ph = s.ph.add r := phOf_add s.op s.log r
def toldA (s : SeatA) (val : Int) (is : Bool) : SeatA := ⟨op0, s.log, s.next, if is && decide (s.op.kind = 1) then s.has ++ [val] else s.has⟩
theorem toldA_ph (s : SeatA) (val : Int) (is : Bool) : (toldA s val is).ph = .no := by simp [toldA, SeatA.ph, phOf]
/-- The goal of a phase. -/
def Goal (l : Ly) (sz n : Nat) (t : TabA) (g : GhA) (who : Nat) (s : SeatA) : Ans → Prop
  | .ask k c o v => (⟨k, c, o, v⟩ : Acc).err t.m.length = 0 ∧ Kept l sz n ⟨(⟨k, c, o, v⟩ : Acc).make t.m, t.seats.set who (addR s ((⟨k, c, o, v⟩ : Acc).had t.m, (⟨k, c, o, v⟩ : Acc).ok ((⟨k, c, o, v⟩ : Acc).had t.m)))⟩ g (askA who s.op ⟨k, c, o, v⟩ ((⟨k, c, o, v⟩ : Acc).had t.m, (⟨k, c, o, v⟩ : Acc).ok ((⟨k, c, o, v⟩ : Acc).had t.m)))
  | .out val is err pt => Kept l sz n ⟨t.m, t.seats.set who (toldA s val is)⟩ g (doneA who s.op val is err pt)
/-- A load of a cell: whatever is known stays known. -/
theorem goal_load (h : AI l sz t L g.went) (gr : GR t g) (hs : t.seats[who]? = some s) (hn : t.seats.length = n) {c : Int} (hc : 0 ≤ c ∧ c < sz) (r : Int × Bool) (hr : r = (t.m.getD c.toNat 0, true))
    (ok : PhOk l t.m g.went s.op.a (s.ph.add r)) (eg : ∀ v, (addR s r).gives.count v = s.gives.count v) (em : ∀ v, (addR s r).mid.count v = s.mid.count v)
    (lk : ∀ x, (s.ph.add r).seen = some x → (if c = l.free then (g.went : Int) else g.look who) = cntOf x)
    (so : StepOk l n g (askA who s.op ⟨1, c, 0, 0⟩ r)) : Goal l sz n t g who s (.ask 1 c 0 0) := by
  refine ⟨acc_err (by rw [h.ml]; exact hc) (.inl ⟨rfl, rfl, rfl⟩), L, ?_⟩
  obtain ⟨a1, a2, a3⟩ := acc_load (c := c) (m := t.m)
  rw [a1, a2, a3, ← hr]
  have hso := h.seat s (List.mem_of_getElem? hs)
  have eh : ∀ v, (addR s r).hads.count v = s.hads.count v := fun v => by rw [hads_split, hads_split, eg v]; rfl
  refine ⟨?_, ?_, so⟩
  · have hw : (ghA l g (askA who s.op ⟨1, c, 0, 0⟩ r)).went = g.went := by simp [ghA, askA]
    rw [hw]
    refine h.upd hs h.ml h.fr h.chain (fun v => ?_) h.links ⟨hso.kind, by rw [addR_ph]; exact ok, hso.a6⟩ (fun j u _ _ hu => hu)
    rw [own_split, own_split, eh v, em v]
  · refine gr.upd hs t.m (fun v => ?_) (fun x hx => ?_) (fun k hk => ?_)
    · have := had_same gr hs eh v
      simpa [ghA, askA] using this
    · rw [addR_ph] at hx
      have := lk x hx
      simp only [ghA, askA]
      by_cases e : c = l.free
      · simpa [e] using this
      · simpa [e] using this
    · simp [ghA, askA, hk]
theorem gives_of {s : SeatA} {p : Ph} (h : s.ph = p) : s.gives = p.gv s.op.a := by rw [SeatA.gives, h]
theorem mid_of {s : SeatA} {p : Ph} (h : s.ph = p) : s.mid = p.md := by rw [SeatA.mid, h]
theorem free_at (ly : ALay l sz) (m : List Int) (v : Int) (h : m.length = sz) : freeOf l (m.set l.free.toNat v) = v := by
  have := ly.fr; have := ly.nd; have := ly.nn
  unfold freeOf
  rw [set_at (by omega), if_pos rfl]
theorem link_other (ly : ALay l sz) {m : List Int} {c : Nat} {v a : Int} (h : m.length = sz) (hc : c < sz) (ha : 1 ≤ a ∧ a ≤ l.c.nodes) (hne : (c : Int) ≠ l.node + (a - 1) * 8 + 7) : linkOf l (m.set c v) a = linkOf l m a := by
  have := ly.fr; have := ly.nd; have := ly.nn
  unfold linkOf
  rw [set_at (by omega), if_neg]
  rw [nodeAt_of l ha (by omega)]
  omega
theorem mem_range (h : AI l sz t L g.went) {v : Int} (hv : v ∈ L) : 1 ≤ v ∧ v ≤ l.c.nodes := by
  have h1 := h.tot v
  have h3 := List.count_pos_iff.2 hv
  split at h1
  · assumption
  · omega
theorem goal_t0 (h : AI l sz t L g.went) (gr : GR t g) (hs : t.seats[who]? = some s) (hn : t.seats.length = n) (ly : ALay l sz) (hk : s.op.kind ≠ 0) (hw : g.went + 1 < 268435456) (hp : s.ph = .t0) : Goal l sz n t g who s (.ask 1 l.free 0 0) := by
  have hwn := (List.getElem?_eq_some_iff.1 hs).1
  obtain ⟨i1, i2⟩ := h.idx ly (by omega)
  have i3 := h.head ly
  have := ly.fr; have := ly.nd; have := ly.nn
  have hF : t.m.getD l.free.toNat 0 = freeOf l t.m := rfl
  have hph : (addR s (freeOf l t.m, true)).ph = if idxOf (freeOf l t.m) = 0 then .tz else .t1 (freeOf l t.m) := by rw [addR_ph, hp]; rfl
  refine goal_load h gr hs hn (by omega) (freeOf l t.m, true) (by rw [hF]) ?_ (fun v => ?_) (fun v => ?_) (fun x hx => ?_) ⟨hn ▸ hwn, (fun e => by cases e), ?_, (fun e => by simp [askA] at e), .inr (.inl ⟨rfl, by simp [askA]⟩), (fun e => by cases e)⟩
  · rw [← addR_ph, hph]
    split
    · trivial
    · exact ⟨by omega, by omega, fun _ => rfl⟩
  · rw [gives_of hph, gives_of hp]; split <;> rfl
  · rw [mid_of hph, mid_of hp]; split <;> rfl
  · rw [← addR_ph, hph] at hx
    split at hx
    · cases hx
    · injection hx with hx
      subst hx
      rw [if_pos rfl, i2]
  · intro _ e
    have := kind_t (op := s.op) (log := s.log) (by rw [show phOf s.op s.log = s.ph from rfl, hp]; rfl)
    simp only [askA] at e
    omega
theorem goal_g0 (h : AI l sz t L g.went) (gr : GR t g) (hs : t.seats[who]? = some s) (hn : t.seats.length = n) (ly : ALay l sz) (hk : s.op.kind ≠ 0) (hw : g.went + 1 < 268435456) (hp : s.ph = .g0) : Goal l sz n t g who s (.ask 1 l.free 0 0) := by
  have hwn := (List.getElem?_eq_some_iff.1 hs).1
  obtain ⟨i1, i2⟩ := h.idx ly (by omega)
  have i3 := h.head ly
  have := ly.fr; have := ly.nd; have := ly.nn
  have hF : t.m.getD l.free.toNat 0 = freeOf l t.m := rfl
  have hph : (addR s (freeOf l t.m, true)).ph = .g1 (freeOf l t.m) := by rw [addR_ph, hp]; rfl
  have hat := (h.seat s (List.mem_of_getElem? hs)).at_
  rw [hp] at hat
  refine goal_load h gr hs hn (by omega) (freeOf l t.m, true) (by rw [hF]) ?_ (fun v => ?_) (fun v => ?_) (fun x hx => ?_) ⟨hn ▸ hwn, (fun e => by cases e), fun _ _ => hat, (fun e => by simp [askA] at e), .inr (.inl ⟨rfl, by simp [askA]⟩), (fun e => by cases e)⟩
  · rw [← addR_ph, hph]
    exact ⟨hat, by omega, by omega, fun _ => rfl⟩
  · rw [gives_of hph, gives_of hp]; rfl
  · rw [mid_of hph, mid_of hp]; rfl
  · rw [← addR_ph, hph] at hx
    injection hx with hx
    subst hx
    rw [if_pos rfl, i2]
theorem goal_t1 (h : AI l sz t L g.went) (gr : GR t g) (hs : t.seats[who]? = some s) (hn : t.seats.length = n) (ly : ALay l sz) (hk : s.op.kind ≠ 0) (hw : g.went + 1 < 268435456) {x : Int} (hp : s.ph = .t1 x) : Goal l sz n t g who s (.ask 1 (nodeAt l (idxOf x) 7) 0 0) := by
  have hwn := (List.getElem?_eq_some_iff.1 hs).1
  have := ly.fr; have := ly.nd; have := ly.nn
  have hat := (h.seat s (List.mem_of_getElem? hs)).at_
  rw [hp] at hat
  obtain ⟨e1, e2, e3⟩ := hat
  have hna := nodeAt_of l e1 (b := 7) (by omega)
  have hph : (addR s (linkOf l t.m (idxOf x), true)).ph = .t2 x (linkOf l t.m (idxOf x)) := by rw [addR_ph, hp]; rfl
  refine goal_load h gr hs hn (by rw [hna]; omega) (linkOf l t.m (idxOf x), true) rfl ?_ (fun v => ?_) (fun v => ?_) (fun y hy => ?_) ⟨hn ▸ hwn, (fun e => by cases e), ?_, (fun e => by simp [askA] at e), .inr (.inr (.inr (.inl ⟨idxOf x, e1, rfl, by simp [askA]⟩))), (fun e => by cases e)⟩
  · rw [← addR_ph, hph]
    exact ⟨e1, h.links _ e1, e2, fun e => ⟨e3 e, rfl⟩⟩
  · rw [gives_of hph, gives_of hp]; rfl
  · rw [mid_of hph, mid_of hp]; rfl
  · rw [← addR_ph, hph] at hy
    injection hy with hy
    subst hy
    rw [if_neg (by rw [hna]; omega)]
    exact gr.look who s x hs (by rw [hp]; rfl)
  · intro _ e
    have := kind_t (op := s.op) (log := s.log) (by rw [show phOf s.op s.log = s.ph from rfl, hp]; rfl)
    simp only [askA] at e
    omega
theorem goal_t3 (h : AI l sz t L g.went) (gr : GR t g) (hs : t.seats[who]? = some s) (hn : t.seats.length = n) (ly : ALay l sz) (hk : s.op.kind ≠ 0) (hw : g.went + 1 < 268435456) {x : Int} (hp : s.ph = .t3 x) : Goal l sz n t g who s (.ask 1 l.era 0 0) := by
  have hwn := (List.getElem?_eq_some_iff.1 hs).1
  have := ly.fr; have := ly.nd; have := ly.nn; have := ly.er
  have hat := (h.seat s (List.mem_of_getElem? hs)).at_
  rw [hp] at hat
  have hph : (addR s (t.m.getD l.era.toNat 0, true)).ph = .t4 x (t.m.getD l.era.toNat 0) := by rw [addR_ph, hp]; rfl
  refine goal_load h gr hs hn (by omega) (t.m.getD l.era.toNat 0, true) rfl ?_ (fun v => ?_) (fun v => ?_) (fun y hy => ?_) ⟨hn ▸ hwn, (fun e => by cases e), ?_, (fun e => by simp [askA] at e), .inr (.inr (.inl ⟨rfl, rfl⟩)), (fun e => by cases e)⟩
  · rw [← addR_ph, hph]
    exact hat
  · rw [gives_of hph, gives_of hp]; rfl
  · rw [mid_of hph, mid_of hp]; rfl
  · rw [← addR_ph, hph] at hy
    cases hy
  · intro _ e
    have := kind_t (op := s.op) (log := s.log) (by rw [show phOf s.op s.log = s.ph from rfl, hp]; rfl)
    simp only [askA] at e
    omega
theorem ghA_done {l : Ly} {g : GhA} {who : Nat} {op : Opr} {val err pt : Int} {is : Bool} (v : Int) : (ghA l g (doneA who op val is err pt)).had v = if op.kind = 1 ∧ is = true then (if v = val then true else g.had v) else g.had v := by
  change (if op.kind = 2 ∧ (0 : Int) = 3 ∧ false = true then (if v = op.a then false else g.had v) else if true = true ∧ op.kind = 1 ∧ is = true then (if v = val then true else g.had v) else g.had v) = _
  rw [if_neg (by simp)]
  by_cases e : op.kind = 1 ∧ is = true
  · rw [if_pos ⟨rfl, e⟩, if_pos e]
  · rw [if_neg (fun q => e q.2), if_neg e]
theorem ghA_ask {l : Ly} {g : GhA} {who : Nat} {op : Opr} {a : Acc} {r : Int × Bool} (v : Int) : (ghA l g (askA who op a r)).had v = if op.kind = 2 ∧ a.kind = 3 ∧ r.2 = true then (if v = op.a then false else g.had v) else g.had v := by
  change (if op.kind = 2 ∧ a.kind = 3 ∧ r.2 = true then (if v = op.a then false else g.had v) else if false = true ∧ op.kind = 1 ∧ false = true then _ else g.had v) = _
  rw [if_neg (c := false = true ∧ _) (by simp)]
/-- What an operation tells. -/
theorem goal_out (h : AI l sz t L g.went) (gr : GR t g) (hs : t.seats[who]? = some s) (hn : t.seats.length = n) (ly : ALay l sz) {val : Int} {is : Bool} {err pt : Int}
    (hh : ∀ v, (toldA s val is).hads.count v = s.hads.count v + s.mid.count v) (hm : ∀ v, s.mid.count v = if (s.op.kind = 1 ∧ is = true) ∧ v = val then 1 else 0)
    : Goal l sz n t g who s (.out val is err pt) := by
  have hwn := (List.getElem?_eq_some_iff.1 hs).1
  have hph := toldA_ph s val is
  have hw : (ghA l g (doneA who s.op val is err pt)).went = g.went := by simp [ghA, doneA]
  have hval : s.op.kind = 1 ∧ is = true → val ∈ s.own ∧ s.hads.count val = 0 ∧ sumc SeatA.hads val t.seats = 0 := by
    intro e
    have h1 := hm val
    rw [if_pos ⟨e, rfl⟩] at h1
    have h2 : List.count val s.own = List.count val s.hads + 1 := by rw [own_split, h1]
    have h3 := h.tot val
    have h4 := sumc_le SeatA.own val t.seats who s hs
    have h5 : s.own.count val ≤ 1 := by split at h3 <;> omega
    have h6 : ∀ (ss : List SeatA) (k : Nat), ss[k]? = some s → sumc SeatA.hads val ss + 1 ≤ sumc SeatA.own val ss := by
      intro ss
      induction ss with
      | nil => intro k hk; simp at hk
      | cons a r ih =>
        intro k hk
        cases k with
        | zero =>
          simp at hk
          subst hk
          have := sumc_mono SeatA.hads SeatA.own val (fun u => by have := own_split u val; omega) r
          simp only [sumc]
          omega
        | succ k =>
          simp at hk
          have := ih k hk
          have := own_split a val
          simp only [sumc]
          omega
    have h7 := h6 t.seats who hs
    exact ⟨List.count_pos_iff.1 (by omega), by omega, by split at h3 <;> omega⟩
  refine ⟨L, ?_, ?_, hn ▸ hwn, fun _ e1 e2 => ?_, (fun e => by cases e), (fun e => by simp [doneA] at e), .inl rfl, fun _ => rfl⟩
  · rw [hw]
    refine h.upd hs h.ml h.fr h.chain (fun v => ?_) h.links ⟨.inl rfl, by rw [hph]; trivial, by simp [toldA]⟩ (fun j u _ _ hu => hu)
    have e1 : (toldA s val is).mid = [] := by rw [mid_of hph]; rfl
    rw [own_split, own_split, hh v, e1]
    simp
  · refine gr.upd hs t.m (fun v => ?_) (fun x hx => ?_) (fun k hk => by simp [ghA, doneA])
    · have h1 := sumc_set SeatA.hads v (toldA s val is) t.seats who s hs
      have h2 := hh v
      have h3 := hm v
      have h4 := gr.had v
      rw [ghA_done]
      by_cases e : s.op.kind = 1 ∧ is = true
      · obtain ⟨v1, v2, v3⟩ := hval e
        rw [if_pos e]
        by_cases ev : v = val
        · rw [if_pos ⟨e, ev⟩] at h3
          rw [if_pos ev]
          subst ev
          simp only [true_iff]
          omega
        · rw [if_neg (fun q => ev q.2)] at h3
          rw [if_neg ev, h4]
          omega
      · rw [if_neg (fun q => e q.1)] at h3
        rw [if_neg e, h4]
        omega
    · rw [hph] at hx
      cases hx
  · have e : s.op.kind = 1 ∧ is = true := ⟨e1, e2⟩
    obtain ⟨v1, v2, v3⟩ := hval e
    refine ⟨own_range h hs v1, ?_⟩
    have := gr.had val
    simp only [doneA]
    cases hb : g.had val with
    | false => rfl
    | true => rw [hb, v3] at this; simp at this
theorem acc_cas {c o v : Int} {m : List Int} : (⟨3, c, o, v⟩ : Acc).had m = m.getD c.toNat 0 ∧ (⟨3, c, o, v⟩ : Acc).ok (m.getD c.toNat 0) = decide (m.getD c.toNat 0 = o) ∧ (⟨3, c, o, v⟩ : Acc).make m = if m.getD c.toNat 0 = o then m.set c.toNat v else m := by
  have e1 : (⟨3, c, o, v⟩ : Acc).had m = m.getD c.toNat 0 := rfl
  have e2 : (⟨3, c, o, v⟩ : Acc).make m = m.set c.toNat (if m.getD c.toNat 0 = o then v else m.getD c.toNat 0) := by
    rw [Acc.make, e1, Acc.next]
    rfl
  have e3 : m.set c.toNat (m.getD c.toNat 0) = m := set_same
  rw [e2]
  generalize m.getD c.toNat 0 = z at *
  refine ⟨e1, ?_, ?_⟩
  · by_cases e : z = o <;> simp [Acc.ok, e]
  · by_cases e : z = o
    · rw [if_pos e, if_pos e]
    · rw [if_neg e, if_neg e]
      exact e3
/-- A try: what it does where it goes, and where it doesn't. -/
theorem goal_cas (h : AI l sz t L g.went) (gr : GR t g) (hs : t.seats[who]? = some s) (hn : t.seats.length = n) (ly : ALay l sz) (hw : g.went + 1 < 268435456) {x v : Int}
    (hx : cntOf x ≤ g.went ∧ (cntOf x = g.went → x = freeOf l t.m)) (hsn : s.ph.seen = some x) (hg : s.op.kind = 2 → 1 ≤ s.op.a ∧ s.op.a ≤ l.c.nodes)
    (hno : x ≠ freeOf l t.m → ∀ r, (∀ v, (addR s (r, false)).gives.count v = s.gives.count v) ∧ (∀ v, (addR s (r, false)).mid.count v = s.mid.count v) ∧ PhOk l t.m g.went s.op.a (s.ph.add (r, false)) ∧ (s.ph.add (r, false)).seen = none)
    (hyes : x = freeOf l t.m → ∃ L', 0 ≤ L'.headD 0 ∧ L'.headD 0 ≤ l.c.nodes ∧ v = packI (L'.headD 0) false (g.went + 1 : Nat) ∧ Chain (linkOf l t.m) L' ∧ (∀ u, L'.count u + (addR s (x, true)).own.count u = L.count u + s.own.count u) ∧ PhOk l (t.m.set l.free.toNat v) (g.went + 1) s.op.a (s.ph.add (x, true)) ∧ (s.ph.add (x, true)).seen = none ∧
      (∀ u, (ghA l g (askA who s.op ⟨3, l.free, x, v⟩ (x, true))).had u = true ↔ 0 < sumc SeatA.hads u (t.seats.set who (addR s (x, true))))) : Goal l sz n t g who s (.ask 3 l.free x v) := by
  have hwn := (List.getElem?_eq_some_iff.1 hs).1
  obtain ⟨i1, i2⟩ := h.idx ly (by omega)
  have f1 := ly.fr; have f2 := ly.nd; have f3 := ly.nn
  have hso := h.seat s (List.mem_of_getElem? hs)
  have hF : t.m.getD l.free.toNat 0 = freeOf l t.m := rfl
  have hlk := gr.look who s x hs hsn
  refine ⟨acc_err (by rw [h.ml]; omega) (.inr (.inr rfl)), ?_⟩
  obtain ⟨a1, a2, a3⟩ := acc_cas (c := l.free) (o := x) (v := v) (m := t.m)
  rw [a3, a1, a2, hF]
  have hdec : decide (freeOf l t.m = x) = decide (g.look who = g.went) := by
    rw [hlk]
    by_cases e : freeOf l t.m = x
    · have : cntOf x = g.went := by rw [← e]; exact i2
      simp [e, this]
    · have : ¬ cntOf x = g.went := fun e' => e (hx.2 e').symm
      simp [e, this]
  have so : StepOk l n g (askA who s.op ⟨3, l.free, x, v⟩ (freeOf l t.m, decide (freeOf l t.m = x))) := ⟨hn ▸ hwn, (fun e => by cases e), fun _ e => hg e, fun _ => hdec, .inr (.inl ⟨rfl, by simp [askA]⟩), (fun e => by cases e)⟩
  by_cases e : freeOf l t.m = x
  · rw [if_pos e]
    obtain ⟨L', y0, y1, hv, y2, y3, y4, y5, y6⟩ := hyes e.symm
    have hr : (freeOf l t.m, decide (freeOf l t.m = x)) = (x, true) := by simp [e]
    rw [hr] at so ⊢
    have hwt : (ghA l g (askA who s.op ⟨3, l.free, x, v⟩ (x, true))).went = g.went + 1 := by simp [ghA, askA]
    refine ⟨L', ?_, ?_, so⟩
    · rw [hwt]
      have hlink : ∀ a, 1 ≤ a ∧ a ≤ l.c.nodes → linkOf l (t.m.set l.free.toNat v) a = linkOf l t.m a := fun a ha => link_other ly h.ml (by omega) ha (by omega)
      have hin : ∀ a ∈ L', 1 ≤ a ∧ a ≤ l.c.nodes := by
        intro a ha
        have q1 := y3 a
        have q2 := List.count_pos_iff.2 ha
        have q3 := h.tot a
        have q4 := sumc_le SeatA.own a t.seats who s hs
        split at q3
        · assumption
        · omega
      refine h.upd hs (by simp [h.ml]) (by rw [free_at ly _ _ h.ml, hv]) (y2.congr fun a ha => hlink a (hin a ha)) y3 (fun a ha => by rw [hlink a ha]; exact h.links a ha) ⟨hso.kind, by rw [addR_ph]; exact y4, hso.a6⟩ (fun j u hj hu hok => ?_)
      have stale : ∀ z : Int, cntOf z ≤ g.went → cntOf z ≤ (g.went + 1 : Nat) ∧ cntOf z ≠ (g.went + 1 : Nat) := fun z hz => by omega
      cases eu : u.ph with
      | t1 z => rw [eu] at hok; obtain ⟨o1, o2, o3⟩ := hok; exact ⟨o1, (stale z o2).1, fun q => absurd q (stale z o2).2⟩
      | t2 z y => rw [eu] at hok; obtain ⟨o1, o2, o3, o4⟩ := hok; exact ⟨o1, o2, (stale z o3).1, fun q => absurd q (stale z o3).2⟩
      | g1 z => rw [eu] at hok; obtain ⟨o1, o2, o3, o4⟩ := hok; exact ⟨o1, o2, (stale z o3).1, fun q => absurd q (stale z o3).2⟩
      | g2 z => rw [eu] at hok; obtain ⟨o1, o2, o3, o4, o5⟩ := hok; exact ⟨o1, o2, (stale z o3).1, (fun q => absurd q (stale z o3).2), by rw [hlink _ o1]; exact o5⟩
      | t3 z => rw [eu] at hok; exact hok
      | t4 z q => rw [eu] at hok; exact hok
      | t5 z => rw [eu] at hok; exact hok
      | g0 => rw [eu] at hok; exact hok
      | t0 => trivial
      | tz => trivial
      | g3 => trivial
      | no => trivial
    · refine gr.upd hs _ y6 (fun z hz => ?_) (fun k hk => by simp [ghA, askA])
      rw [addR_ph, y5] at hz
      cases hz
  · rw [if_neg e]
    obtain ⟨z1, z2, z3, z4⟩ := hno (fun q => e q.symm) (freeOf l t.m)
    have hr : (freeOf l t.m, decide (freeOf l t.m = x)) = (freeOf l t.m, false) := by simp [e]
    rw [hr] at so ⊢
    have hwt : (ghA l g (askA who s.op ⟨3, l.free, x, v⟩ (freeOf l t.m, false))).went = g.went := by simp [ghA, askA]
    have eh : ∀ v, (addR s (freeOf l t.m, false)).hads.count v = s.hads.count v := fun v => by rw [hads_split, hads_split, z1 v]; rfl
    refine ⟨L, ?_, ?_, so⟩
    · rw [hwt]
      refine h.upd hs h.ml h.fr h.chain (fun v => ?_) h.links ⟨hso.kind, by rw [addR_ph]; exact z3, hso.a6⟩ (fun j u _ _ hu => hu)
      rw [own_split, own_split, eh v, z2 v]
    · refine gr.upd hs _ (fun v => ?_) (fun z hz => ?_) (fun k hk => by simp [ghA, askA])
      · have := had_same gr hs eh v
        simpa [ghA, askA] using this
      · rw [addR_ph, z4] at hz
        cases hz
theorem chain_tail {k : Int → Int} {L : List Int} (h : Chain k L) (hne : L.headD 0 ≠ 0) : ∃ a r, L = a :: r ∧ k a = r.headD 0 ∧ Chain k r := by
  cases L with
  | nil => simp at hne
  | cons a r => exact ⟨a, r, rfl, h.1, h.2⟩
theorem goal_t2 (h : AI l sz t L g.went) (gr : GR t g) (hs : t.seats[who]? = some s) (hn : t.seats.length = n) (ly : ALay l sz) (hw : g.went + 1 < 268435456) {x y : Int} (hp : s.ph = .t2 x y) : Goal l sz n t g who s (.ask 3 l.free x (turnW x y)) := by
  obtain ⟨i1, i2⟩ := h.idx ly (by omega)
  have i3 := h.head ly
  have f1 := ly.fr; have f2 := ly.nd; have f3 := ly.nn
  have hat := (h.seat s (List.mem_of_getElem? hs)).at_
  rw [hp] at hat
  obtain ⟨e1, e2, e3, e4⟩ := hat
  have hk1 := kind_t (op := s.op) (log := s.log) (by rw [show phOf s.op s.log = s.ph from rfl, hp]; rfl)
  refine goal_cas h gr hs hn ly hw ⟨e3, fun e => (e4 e).1⟩ (by rw [hp]; rfl) (fun e => by omega) (fun hne r => ?_) (fun he => ?_)
  · have hph : (addR s (r, false)).ph = .t0 := by rw [addR_ph, hp]; rfl
    refine ⟨fun v => by rw [gives_of hph, gives_of hp]; rfl, fun v => by rw [mid_of hph, mid_of hp]; rfl, by rw [hp]; trivial, by rw [hp]; rfl⟩
  · have hph : (addR s (x, true)).ph = .t3 x := by rw [addR_ph, hp]; rfl
    have hcx : cntOf x = g.went := by rw [he]; exact i2
    have hix : idxOf x = L.headD 0 := by rw [he]; exact i1
    obtain ⟨a, r, rfl, c1, c2⟩ := chain_tail h.chain (by omega)
    have ha : idxOf x = a := hix
    have hy : y = r.headD 0 := by rw [(e4 hcx).2, ha]; exact c1
    refine ⟨r, by omega, by omega, ?_, c2, fun u => ?_, by rw [hp]; exact e1, by rw [hp]; rfl, fun u => ?_⟩
    · rw [← hy]
      exact turnW_pack (he.trans h.fr) i3.1 (by omega) hw (by omega) (by omega)
    · have eo : (addR s (x, true)).own = s.has ++ [] ++ [a] := by rw [SeatA.own, gives_of hph, mid_of hph, ← ha]; rfl
      have eo' : s.own = s.has ++ [] ++ [] := by rw [SeatA.own, gives_of hp, mid_of hp]; rfl
      rw [eo, eo']
      simp only [List.count_append, List.count_cons, List.count_nil]
      omega
    · have eh : ∀ v, (addR s (x, true)).hads.count v = s.hads.count v := fun v => by rw [hads_split, hads_split, gives_of hph, gives_of hp]; rfl
      have := had_same gr hs eh u
      simpa [ghA, askA, hk1] using this
theorem goal_g2 (h : AI l sz t L g.went) (gr : GR t g) (hs : t.seats[who]? = some s) (hn : t.seats.length = n) (ly : ALay l sz) (hw : g.went + 1 < 268435456) {x : Int} (hp : s.ph = .g2 x) : Goal l sz n t g who s (.ask 3 l.free x (turnW x s.op.a)) := by
  obtain ⟨i1, i2⟩ := h.idx ly (by omega)
  have i3 := h.head ly
  have f1 := ly.fr; have f2 := ly.nd; have f3 := ly.nn
  have hat := (h.seat s (List.mem_of_getElem? hs)).at_
  rw [hp] at hat
  obtain ⟨e1, e2, e3, e4, e5⟩ := hat
  have hk2 := kind_g (op := s.op) (log := s.log) (by rw [show phOf s.op s.log = s.ph from rfl, hp]; rfl)
  refine goal_cas h gr hs hn ly hw ⟨e3, e4⟩ (by rw [hp]; rfl) (fun _ => e1) (fun hne r => ?_) (fun he => ?_)
  · have hph : (addR s (r, false)).ph = .g0 := by rw [addR_ph, hp]; rfl
    refine ⟨fun v => by rw [gives_of hph, gives_of hp]; rfl, fun v => by rw [mid_of hph, mid_of hp]; rfl, by rw [hp]; exact e1, by rw [hp]; rfl⟩
  · have hph : (addR s (x, true)).ph = .g3 := by rw [addR_ph, hp]; rfl
    have hix : idxOf x = L.headD 0 := by rw [he]; exact i1
    have eg : s.gives = [s.op.a] := by rw [gives_of hp]; rfl
    have eg' : (addR s (x, true)).gives = [] := by rw [gives_of hph]; rfl
    refine ⟨s.op.a :: L, by simpa using (show (0 : Int) ≤ s.op.a by omega), by simpa using e1.2, ?_, ⟨by rw [e5]; exact hix, h.chain⟩, fun u => ?_, by rw [hp]; trivial, by rw [hp]; rfl, fun u => ?_⟩
    · exact turnW_pack (he.trans h.fr) i3.1 (by omega) hw (by omega) (by omega)
    · have eo : (addR s (x, true)).own = s.has ++ [] ++ [] := by rw [SeatA.own, eg', mid_of hph]; rfl
      have eo' : s.own = s.has ++ [s.op.a] ++ [] := by rw [SeatA.own, eg, mid_of hp]; rfl
      rw [eo, eo']
      simp only [List.count_append, List.count_cons, List.count_nil]
      omega
    · have h1 := sumc_set SeatA.hads u (addR s (x, true)) t.seats who s hs
      have h2 : (addR s (x, true)).hads.count u = s.has.count u := by rw [hads_split, eg']; simp [addR]
      have h3 : s.hads.count u = s.has.count u + if s.op.a = u then 1 else 0 := by rw [hads_split, eg]; simp [List.count_cons]
      have h4 := gr.had u
      have h5 := h.tot u
      have h6 := sumc_mono SeatA.hads SeatA.own u (fun q => by have := own_split q u; omega) t.seats
      rw [ghA_ask, if_pos ⟨hk2, rfl, rfl⟩]
      by_cases e : u = s.op.a
      · rw [if_pos e.symm] at h3
        rw [if_pos e]
        subst e
        simp only [Bool.false_eq_true, false_iff]
        split at h5 <;> omega
      · rw [if_neg (fun q => e q.symm)] at h3
        rw [if_neg e, h4]
        omega
/-- A store into a node's cell. -/
theorem goal_t4 (h : AI l sz t L g.went) (gr : GR t g) (hs : t.seats[who]? = some s) (hn : t.seats.length = n) (ly : ALay l sz) {x u : Int} (hp : s.ph = .t4 x u) : Goal l sz n t g who s (.ask 2 (nodeAt l (idxOf x) 6) 0 u) := by
  have hwn := (List.getElem?_eq_some_iff.1 hs).1
  have f1 := ly.fr; have f2 := ly.nd; have f3 := ly.nn
  have hso := h.seat s (List.mem_of_getElem? hs)
  have hat := hso.at_
  rw [hp] at hat
  have hk1 := kind_t (op := s.op) (log := s.log) (by rw [show phOf s.op s.log = s.ph from rfl, hp]; rfl)
  have hna := nodeAt_of l hat (b := 6) (by omega)
  obtain ⟨a1, a2⟩ := acc_store (c := nodeAt l (idxOf x) 6) (v := u) (m := t.m)
  refine ⟨acc_err (by rw [h.ml, hna]; change 1 ≤ idxOf x ∧ idxOf x ≤ l.c.nodes at hat; omega) (.inr (.inl ⟨rfl, rfl⟩)), L, ?_⟩
  rw [a1, a2]
  generalize (⟨2, nodeAt l (idxOf x) 6, 0, u⟩ : Acc).had t.m = z
  change 1 ≤ idxOf x ∧ idxOf x ≤ l.c.nodes at hat
  have hph : (addR s (z, true)).ph = .t5 x := by rw [addR_ph, hp]; rfl
  have eh : ∀ v, (addR s (z, true)).hads.count v = s.hads.count v := fun v => by rw [hads_split, hads_split, gives_of hph, gives_of hp]; rfl
  have hlink : ∀ a, 1 ≤ a ∧ a ≤ l.c.nodes → linkOf l (t.m.set (nodeAt l (idxOf x) 6).toNat u) a = linkOf l t.m a := fun a ha => link_other ly h.ml (by rw [hna]; omega) ha (by rw [hna]; omega)
  have hfree : freeOf l (t.m.set (nodeAt l (idxOf x) 6).toNat u) = freeOf l t.m := by
    unfold freeOf
    have := h.ml
    rw [set_at (by rw [hna]; omega), if_neg (by rw [hna]; omega)]
  have hwt : (ghA l g (askA who s.op ⟨2, nodeAt l (idxOf x) 6, 0, u⟩ (z, true))).went = g.went := by simp [ghA, askA]
  refine ⟨?_, ?_, hn ▸ hwn, (fun e => by cases e), (fun _ e => by simp only [askA] at e; omega), (fun e => by simp [askA] at e), .inr (.inr (.inr (.inr ⟨idxOf x, hat, rfl, rfl, hk1⟩))), (fun e => by cases e)⟩
  · rw [hwt]
    refine h.upd hs (by simp [h.ml]) (by rw [hfree]; exact h.fr) (h.chain.congr fun a ha => hlink a (mem_range h ha)) (fun v => ?_) (fun a ha => by rw [hlink a ha]; exact h.links a ha) ⟨hso.kind, by rw [hph]; exact hat, hso.a6⟩ (fun j q hj hu hok => ?_)
    · rw [own_split, own_split, eh v, mid_of hph, mid_of hp]; rfl
    · cases eu : q.ph with
      | t1 z => rw [eu] at hok; obtain ⟨o1, o2, o3⟩ := hok; exact ⟨o1, o2, by rw [hfree]; exact o3⟩
      | t2 z y => rw [eu] at hok; obtain ⟨o1, o2, o3, o4⟩ := hok; exact ⟨o1, o2, o3, by rw [hfree, hlink _ o1]; exact o4⟩
      | g1 z => rw [eu] at hok; obtain ⟨o1, o2, o3, o4⟩ := hok; exact ⟨o1, o2, o3, by rw [hfree]; exact o4⟩
      | g2 z => rw [eu] at hok; obtain ⟨o1, o2, o3, o4, o5⟩ := hok; exact ⟨o1, o2, o3, by rw [hfree]; exact o4, by rw [hlink _ o1]; exact o5⟩
      | t3 z => rw [eu] at hok; exact hok
      | t4 z q => rw [eu] at hok; exact hok
      | t5 z => rw [eu] at hok; exact hok
      | g0 => rw [eu] at hok; exact hok
      | t0 => trivial
      | tz => trivial
      | g3 => trivial
      | no => trivial
  · refine gr.upd hs _ (fun v => ?_) (fun q hq => ?_) (fun k hk => by simp [ghA, askA])
    · have := had_same gr hs eh v
      simpa [ghA, askA] using this
    · rw [hph] at hq
      cases hq
theorem goal_g1 (h : AI l sz t L g.went) (gr : GR t g) (hs : t.seats[who]? = some s) (hn : t.seats.length = n) (ly : ALay l sz) (hw : g.went + 1 < 268435456) {x : Int} (hp : s.ph = .g1 x) : Goal l sz n t g who s (.ask 2 (nodeAt l s.op.a 7) 0 (idxOf x)) := by
  have hwn := (List.getElem?_eq_some_iff.1 hs).1
  obtain ⟨i1, i2⟩ := h.idx ly (by omega)
  have f1 := ly.fr; have f2 := ly.nd; have f3 := ly.nn
  have hso := h.seat s (List.mem_of_getElem? hs)
  have hat := hso.at_
  rw [hp] at hat
  obtain ⟨e1, e2, e3, e4⟩ := hat
  have hk2 := kind_g (op := s.op) (log := s.log) (by rw [show phOf s.op s.log = s.ph from rfl, hp]; rfl)
  have hna := nodeAt_of l e1 (b := 7) (by omega)
  have hml := h.ml
  obtain ⟨a1, a2⟩ := acc_store (c := nodeAt l s.op.a 7) (v := idxOf x) (m := t.m)
  refine ⟨acc_err (by rw [h.ml, hna]; omega) (.inr (.inl ⟨rfl, rfl⟩)), L, ?_⟩
  rw [a1, a2]
  generalize (⟨2, nodeAt l s.op.a 7, 0, idxOf x⟩ : Acc).had t.m = z
  have hph : (addR s (z, true)).ph = .g2 x := by rw [addR_ph, hp]; rfl
  have hop : (addR s (z, true)).op = s.op := rfl
  have eg : s.gives = [s.op.a] := by rw [gives_of hp]; rfl
  have eg' : (addR s (z, true)).gives = [s.op.a] := by rw [gives_of hph]; rfl
  have eh : ∀ v, (addR s (z, true)).hads.count v = s.hads.count v := fun v => by rw [hads_split, hads_split, eg, eg']; rfl
  have hown : s.op.a ∈ s.own := by rw [SeatA.own, eg]; simp
  have hnl : ¬ s.op.a ∈ L := by
    intro hin
    have q1 := h.tot s.op.a
    have q2 := sumc_le SeatA.own s.op.a t.seats who s hs
    have q3 := List.count_pos_iff.2 hin
    have q4 := List.count_pos_iff.2 hown
    split at q1 <;> omega
  have hlink : ∀ a, 1 ≤ a ∧ a ≤ l.c.nodes → a ≠ s.op.a → linkOf l (t.m.set (nodeAt l s.op.a 7).toNat (idxOf x)) a = linkOf l t.m a := fun a ha hne => link_other ly h.ml (by rw [hna]; omega) ha (by rw [hna]; omega)
  have hself : linkOf l (t.m.set (nodeAt l s.op.a 7).toNat (idxOf x)) s.op.a = idxOf x := by
    unfold linkOf
    rw [set_at (by rw [hna]; omega), if_pos rfl]
  have hfree : freeOf l (t.m.set (nodeAt l s.op.a 7).toNat (idxOf x)) = freeOf l t.m := by
    unfold freeOf
    rw [set_at (by rw [hna]; omega), if_neg (by rw [hna]; omega)]
  have hwt : (ghA l g (askA who s.op ⟨2, nodeAt l s.op.a 7, 0, idxOf x⟩ (z, true))).went = g.went := by simp [ghA, askA]
  refine ⟨?_, ?_, hn ▸ hwn, (fun e => by cases e), (fun _ _ => e1), (fun e => by simp [askA] at e), .inr (.inr (.inr (.inl ⟨s.op.a, e1, rfl, fun _ => hk2⟩))), (fun e => by cases e)⟩
  · rw [hwt]
    refine h.upd hs (by simp [h.ml]) (by rw [hfree]; exact h.fr) (h.chain.congr fun a ha => hlink a (mem_range h ha) (fun e => hnl (e ▸ ha))) (fun v => ?_) (fun a ha => ?_) ⟨hso.kind, ?_, hso.a6⟩ (fun j q hj hu hok => ?_)
    · rw [own_split, own_split, eh v, mid_of hph, mid_of hp]; rfl
    · by_cases e : a = s.op.a
      · rw [e, hself]; omega
      · rw [hlink a ha e]; exact h.links a ha
    · rw [hph, hop]
      exact ⟨e1, e2, e3, by rw [hfree]; exact e4, hself⟩
    · have hqk := sumc_two SeatA.own
      cases eu : q.ph with
      | t1 z => rw [eu] at hok; obtain ⟨o1, o2, o3⟩ := hok; exact ⟨o1, o2, by rw [hfree]; exact o3⟩
      | t2 z y =>
        rw [eu] at hok
        obtain ⟨o1, o2, o3, o4⟩ := hok
        refine ⟨o1, o2, o3, fun ec => ?_⟩
        obtain ⟨p1, p2⟩ := o4 ec
        rw [hfree, hlink _ o1 ?_]
        · exact ⟨p1, p2⟩
        · intro e
          apply hnl
          rw [← e, p1, i1]
          have hne : L.headD 0 ≠ 0 := by rw [← i1, ← p1]; omega
          cases L with
          | nil => simp at hne
          | cons a r => simp
      | g1 z => rw [eu] at hok; obtain ⟨o1, o2, o3, o4⟩ := hok; exact ⟨o1, o2, o3, by rw [hfree]; exact o4⟩
      | g2 z =>
        rw [eu] at hok
        obtain ⟨o1, o2, o3, o4, o5⟩ := hok
        refine ⟨o1, o2, o3, by rw [hfree]; exact o4, ?_⟩
        rw [hlink _ o1 ?_]
        · exact o5
        · intro e
          have q1 := h.tot s.op.a
          have q2 := hqk s.op.a t.seats j who q s hj hu hs
          have q3 := List.count_pos_iff.2 hown
          have q4 : 0 < q.own.count s.op.a := by
            rw [List.count_pos_iff, SeatA.own, gives_of eu, ← e]
            simp [Ph.gv]
          split at q1 <;> omega
      | t3 z => rw [eu] at hok; exact hok
      | t4 z q => rw [eu] at hok; exact hok
      | t5 z => rw [eu] at hok; exact hok
      | g0 => rw [eu] at hok; exact hok
      | t0 => trivial
      | tz => trivial
      | g3 => trivial
      | no => trivial
  · refine gr.upd hs _ (fun v => ?_) (fun q hq => ?_) (fun k hk => by simp [ghA, askA])
    · have := had_same gr hs eh v
      simpa [ghA, askA] using this
    · rw [hph] at hq
      injection hq with hq
      subst hq
      simp only [ghA, askA]
      rw [if_neg (by simp)]
      exact gr.look who s _ hs (by rw [hp]; rfl)
/-- A turn of a seat that has an operation. -/
theorem goal_any (h : AI l sz t L g.went) (gr : GR t g) (hs : t.seats[who]? = some s) (hn : t.seats.length = n) (ly : ALay l sz) (hk : s.op.kind ≠ 0) (hw : g.went + 1 < 268435456) (pt : Int) : Goal l sz n t g who s (s.ph.ans l s.op.a pt) := by
  have hso := h.seat s (List.mem_of_getElem? hs)
  cases e : s.ph with
  | t0 => exact goal_t0 h gr hs hn ly hk hw e
  | t1 x => exact goal_t1 h gr hs hn ly hk hw e
  | t2 x y => exact goal_t2 h gr hs hn ly hw e
  | t3 x => exact goal_t3 h gr hs hn ly hk hw e
  | t4 x u => exact goal_t4 h gr hs hn ly e
  | t5 x =>
    have hk1 := kind_t (op := s.op) (log := s.log) (by rw [show phOf s.op s.log = s.ph from rfl, e]; rfl)
    refine goal_out h gr hs hn ly (fun v => ?_) (fun v => ?_)
    · rw [hads_split, hads_split, gives_of (toldA_ph s _ _), gives_of e, mid_of e]
      simp [toldA, hk1, Ph.gv, Ph.md]
    · rw [mid_of e]
      simp only [Ph.md, hk1, List.count_cons, List.count_nil, beq_iff_eq]
      by_cases q : v = idxOf x
      · simp [q]
      · have q2 : ¬ idxOf x = v := fun q' => q q'.symm
        simp [q, q2]
  | tz =>
    refine goal_out h gr hs hn ly (fun v => ?_) (fun v => ?_)
    · rw [hads_split, hads_split, gives_of (toldA_ph s _ _), gives_of e, mid_of e]
      simp [toldA, Ph.gv, Ph.md]
    · rw [mid_of e]
      simp [Ph.md]
  | g0 => exact goal_g0 h gr hs hn ly hk hw e
  | g1 x => exact goal_g1 h gr hs hn ly hw e
  | g2 x => exact goal_g2 h gr hs hn ly hw e
  | g3 =>
    have hk2 := kind_g (op := s.op) (log := s.log) (by rw [show phOf s.op s.log = s.ph from rfl, e]; rfl)
    refine goal_out h gr hs hn ly (fun v => ?_) (fun v => ?_)
    · rw [hads_split, hads_split, gives_of (toldA_ph s _ _), gives_of e, mid_of e]
      simp [toldA, hk2, Ph.gv, Ph.md]
    · rw [mid_of e]
      simp [Ph.md, hk2]
  | no => exact absurd (kind_no e hso.kind) hk
end
end Go.Proofs.Ytbcgjolcfagboaa
