/- The table of a play in memory. Regions 'x, y, z := call(..)'. -/
import Derived.Test.YtgjdjgainjedhaaENx
import Derived.Test.YtgjdjgainjedhaaCell
namespace Go.Proofs.Ytgjdjgainjedhaa
open Go.RowKit
set_option linter.unusedVariables false

abbrev tup3 (c1 c2 : Array Value) (v3 : Value) : Value := .tuple #[.agg c1, .agg c2, v3]
def c3P (b : Nat) (i : Nat) : List Nat := if i = b + 1 then [b] else if i = b + 2 then [b + 1] else if i = b + 3 then [b + 1] else if i = b + 4 then [b + 1] else if i = b + 7 then [b, b + 2, b + 5] else if i = b + 8 then [b, b + 3, b + 6] else if i = b + 9 then [b + 4] else []
def c3R (b B : Nat) (t1 t2 : TypeId) (z1 z2 : Array Value) (X : Array Value → Array Value → Value → World → Prop) (i : Nat) (val : Nat → Option Value) (v : Value) (w : World) : Prop :=
  if i = b then ∃ c1 c2 v3, v = tup3 c1 c2 v3 ∧ X c1 c2 v3 w
  else if i = b + 1 then ∃ c1 c2 v3, v = tup3 c1 c2 v3 ∧ val b = some v
  else if i = b + 2 then ∃ c1 c2 v3, val b = some (tup3 c1 c2 v3) ∧ v = .agg c1
  else if i = b + 3 then ∃ c1 c2 v3, val b = some (tup3 c1 c2 v3) ∧ v = .agg c2
  else if i = b + 4 then ∃ c1 c2 v3, val b = some (tup3 c1 c2 v3) ∧ v = v3
  else if i = b + 5 then ∃ g, v = ptr g ∧ B ≤ g ∧ (val (b + 7) = none → Bk w g t1 z1)
  else if i = b + 6 then ∃ g, v = ptr g ∧ B ≤ g ∧ (val (b + 8) = none → Bk w g t2 z2)
  else if i = b + 7 then ∃ g c1 c2 v3, val b = some (tup3 c1 c2 v3) ∧ val (b + 5) = some (ptr g) ∧ B ≤ g ∧ Bk w g t1 c1
  else if i = b + 8 then ∃ g c1 c2 v3, val b = some (tup3 c1 c2 v3) ∧ val (b + 6) = some (ptr g) ∧ B ≤ g ∧ Bk w g t2 c2
  else ∃ c1 c2 v3, val b = some (tup3 c1 c2 v3) ∧ v = v3
def c3G (b B : Nat) (t1 t2 : TypeId) (i : Nat) (w1 w2 : World) : Prop := if i = b + 7 then KeptT t1 w1 w2 ∧ Below B w1 w2 else if i = b + 8 then KeptT t2 w1 w2 ∧ Below B w1 w2 else Below w1.heap.size w1 w2
theorem c3T_keep {b : Nat} {t1 t2 : TypeId} {i : Nat} {w0 w1 w2 : World} (h : Below w0.heap.size w0 w1) (hg : c3G b w0.heap.size t1 t2 i w1 w2) : Below w0.heap.size w0 w2 := by
  unfold c3G at hg
  split at hg
  · exact h.trans hg.2
  · split at hg
    · exact h.trans hg.2
    · exact below_tr h hg
theorem c3R_keep {b B : Nat} {t1 t2 : TypeId} {z1 z2 : Array Value} {X : Array Value → Array Value → Value → World → Prop} (hne : t1 ≠ t2)
    (hX : ∀ c1 c2 v3 w1 w2, X c1 c2 v3 w1 → (KeptT t1 w1 w2 ∨ KeptT t2 w1 w2 ∨ Below w1.heap.size w1 w2) → X c1 c2 v3 w2) {i j : Nat} (hij : i ≠ j) {val : Nat → Option Value} {v u : Value} {w1 w2 : World} (hi : val i = some v) (hj : val j = none)
    (h : c3R b B t1 t2 z1 z2 X i val v w1) (hg : c3G b B t1 t2 j w1 w2) : c3R b B t1 t2 z1 z2 X i (upd val j u) v w2 := by
  have hv : ∀ k x, val k = some x → upd val j u k = some x := fun k x hk => by
    simp only [upd]
    split
    · rename_i e; subst e; rw [hj] at hk; cases hk
    · exact hk
  have hn : ∀ k, upd val j u k = none → val k = none ∧ k ≠ j := fun k hk => by
    simp only [upd] at hk
    split at hk
    · cases hk
    · rename_i e; exact ⟨hk, e⟩
  have hd : KeptT t1 w1 w2 ∨ KeptT t2 w1 w2 ∨ Below w1.heap.size w1 w2 := by
    unfold c3G at hg
    split at hg
    · exact .inl hg.1
    · split at hg
      · exact .inr (.inl hg.1)
      · exact .inr (.inr hg)
  have k1 : ∀ {g : Nat} {c : Array Value}, j ≠ b + 7 → Bk w1 g t1 c → Bk w2 g t1 c := by
    intro g c hne7 k
    unfold c3G at hg
    rw [if_neg hne7] at hg
    split at hg
    · exact k.keptT hg.1 hne
    · exact k.keep hg
  have k2 : ∀ {g : Nat} {c : Array Value}, j ≠ b + 8 → Bk w1 g t2 c → Bk w2 g t2 c := by
    intro g c hne8 k
    unfold c3G at hg
    split at hg
    · exact k.keptT hg.1 hne.symm
    · first
      | exact k.keep hg
      | (rw [if_neg hne8] at hg; exact k.keep hg)
  unfold c3R at h ⊢
  split
  · rename_i e
    rw [if_pos e] at h
    obtain ⟨c1, c2, v3, h1, h2⟩ := h
    exact ⟨c1, c2, v3, h1, hX _ _ _ _ _ h2 hd⟩
  rename_i e0
  rw [if_neg e0] at h
  split
  · rename_i e
    rw [if_pos e] at h
    obtain ⟨c1, c2, v3, h1, h2⟩ := h
    exact ⟨c1, c2, v3, h1, hv _ _ h2⟩
  rename_i e1
  rw [if_neg e1] at h
  split
  · rename_i e
    rw [if_pos e] at h
    obtain ⟨c1, c2, v3, h1, h2⟩ := h
    exact ⟨c1, c2, v3, hv _ _ h1, h2⟩
  rename_i e2
  rw [if_neg e2] at h
  split
  · rename_i e
    rw [if_pos e] at h
    obtain ⟨c1, c2, v3, h1, h2⟩ := h
    exact ⟨c1, c2, v3, hv _ _ h1, h2⟩
  rename_i e3
  rw [if_neg e3] at h
  split
  · rename_i e
    rw [if_pos e] at h
    obtain ⟨c1, c2, v3, h1, h2⟩ := h
    exact ⟨c1, c2, v3, hv _ _ h1, h2⟩
  rename_i e4
  rw [if_neg e4] at h
  split
  · rename_i e
    rw [if_pos e] at h
    obtain ⟨g, h1, h2, h3⟩ := h
    exact ⟨g, h1, h2, fun q => k1 (fun e' => (hn _ q).2 e'.symm) (h3 (hn _ q).1)⟩
  rename_i e5
  rw [if_neg e5] at h
  split
  · rename_i e
    rw [if_pos e] at h
    obtain ⟨g, h1, h2, h3⟩ := h
    exact ⟨g, h1, h2, fun q => k2 (fun e' => (hn _ q).2 e'.symm) (h3 (hn _ q).1)⟩
  rename_i e6
  rw [if_neg e6] at h
  split
  · rename_i e
    rw [if_pos e] at h
    obtain ⟨g, c1, c2, v3, h0, h1, h2, h3⟩ := h
    exact ⟨g, c1, c2, v3, hv _ _ h0, hv _ _ h1, h2, k1 (fun e' => hij (e.trans e'.symm)) h3⟩
  rename_i e7
  rw [if_neg e7] at h
  split
  · rename_i e
    rw [if_pos e] at h
    obtain ⟨g, c1, c2, v3, h0, h1, h2, h3⟩ := h
    exact ⟨g, c1, c2, v3, hv _ _ h0, hv _ _ h1, h2, k2 (fun e' => hij (e.trans e'.symm)) h3⟩
  rename_i e8
  rw [if_neg e8] at h
  obtain ⟨c1, c2, v3, h1, h2⟩ := h
  exact ⟨c1, c2, v3, hv _ _ h1, h2⟩
theorem tup3_inj {c1 c2 d1 d2 : Array Value} {v3 u3 : Value} (h : some (tup3 c1 c2 v3) = some (tup3 d1 d2 u3)) : c1 = d1 ∧ c2 = d2 ∧ v3 = u3 := by
  injection h with h
  injection h with h
  have h1 := congrArg (fun x => x.toList) h
  simp only [List.cons.injEq, and_true] at h1
  obtain ⟨h1, h2, h3⟩ := h1
  injection h1 with h1
  injection h2 with h2
  exact ⟨h1, h2, h3⟩
theorem ptr_inj {g g' : Nat} (h : some (ptr g) = some (ptr g')) : g = g' := by
  injection h with h
  injection h with h
  injection h with h
  injection h with h
theorem below_setRowB' {B : Nat} {w : World} {g : Nat} (hg : B ≤ g) (cs : Array Value) : Below B w (w.setRow g cs) :=
  ⟨rfl, rfl, rfl, by simp [World.setRow], fun k hk => setRow_other w g k cs (by omega)⟩
/-- w' is w grown, but for the table's two blocks. -/
structure Stw (gt gs : Nat) (w w' : World) : Prop where
  os : w'.os = w.os
  tape : w'.tape = w.tape
  output : w'.output = w.output
  size : w.heap.size ≤ w'.heap.size
  block : ∀ b, b < w.heap.size → b ≠ gt → b ≠ gs → w'.heap[b]? = w.heap[b]?
section
variable {gt gs : Nat} {w w' w2 : World}
theorem Stw.refl (gt gs : Nat) (w : World) : Stw gt gs w w := ⟨rfl, rfl, rfl, Nat.le_refl _, fun _ _ _ _ => rfl⟩
theorem Stw.trans (h : Stw gt gs w w') (k : Stw gt gs w' w2) : Stw gt gs w w2 :=
  ⟨k.os.trans h.os, k.tape.trans h.tape, k.output.trans h.output, Nat.le_trans h.size k.size, fun b hb hn hm => (k.block b (Nat.lt_of_lt_of_le hb h.size) hn hm).trans (h.block b hb hn hm)⟩
theorem Stw.of_below (h : Below w.heap.size w w') : Stw gt gs w w' := ⟨h.os, h.tape, h.output, h.size, fun b hb _ _ => h.block b hb⟩
theorem Stw.setT (w : World) (i : Nat) (u : Value) : Stw gt gs w (w.setCell ⟨gt, i, none⟩ u) :=
  ⟨rfl, rfl, rfl, by simp, fun b _ hn _ => Below.heap_setCell w _ u b hn⟩
theorem Stw.setS (w : World) (i : Nat) (u : Value) : Stw gt gs w (w.setCell ⟨gs, i, none⟩ u) :=
  ⟨rfl, rfl, rfl, by simp, fun b _ _ hn => Below.heap_setCell w _ u b hn⟩
theorem Stw.keep (h : Stw gt gs w w') {g : Nat} {t : TypeId} {cs : Array Value} (k : Bk w g t cs) (hn : g ≠ gt) (hm : g ≠ gs) : Bk w' g t cs := (h.block g k.lt hn hm).trans k
theorem Stw.weak (h : Stw gt gt w w') : Stw gt gs w w' := ⟨h.os, h.tape, h.output, h.size, fun b hb hn _ => h.block b hb hn hn⟩
theorem Stw.part (h : Stw gt gs w w') {B : Nat} (h1 : B ≤ gt) (h2 : B ≤ gs) (hs : B ≤ w.heap.size) : Below B w w' :=
  ⟨h.os, h.tape, h.output, h.size, fun b hb => h.block b (by omega) (by omega) (by omega)⟩
theorem Stw.cell (h : Stw gt gs w w') {b o : Nat} {v : Value} (hb : b < w.heap.size) (hn : b ≠ gt) (hm : b ≠ gs) (hc : w.cell? ⟨b, o, none⟩ = some v) : w'.cell? ⟨b, o, none⟩ = some v := by
  rw [← hc]
  unfold World.cell?
  rw [h.block b hb hn hm]
end
def LogOk (w : World) (B : Nat) (lv : Value) (log : Log) : Prop := ∃ G c, lv = .slice G log.length c ∧ OwnRes w 0 lv log ∧ ∀ a, G = some a → a.block < B
def GoneOk (w : World) (gv : Value) (g : Gone) : Prop := ∃ G n c, gv = .slice G n c ∧ n = g.length ∧ NilOk G n c ∧ PairRow w G g
abbrev seatC (lv gv : Value) (s : SeatE) : Array Value := #[.int .i64 (s.next : Nat), .bool s.busy, .int .i64 (s.at_ : Nat), .int .i64 s.op.kind, .int .i64 s.op.obj, .int .i64 s.op.a, .int .i64 s.op.b, lv, .int .i64 s.node, .int .i64 s.read, gv]
def SeatAt (w : World) (B : Nat) (cs : Array Value) (k : Nat) (s : SeatE) : Prop :=
  ∃ lv gv, (∀ j v, (seatC lv gv s)[j]? = some v → cs[k * 11 + j]? = some v) ∧ LogOk w B lv s.log ∧ GoneOk w gv s.gone
/-- The table lies at block gt, its seats at block gs. -/
structure TRep (w : World) (B gt gs : Nat) (t : TabE) : Prop where
  mem : ∃ gm c cc, Bk w gt 36 #[.slice (some ⟨gm, 0, none⟩) t.m.length c, .slice (some ⟨gs, 0, none⟩) t.seats.length cc, .bool t.bad] ∧ OwnInts w 0 (.slice (some ⟨gm, 0, none⟩) t.m.length c) t.m
  sts : ∃ cs, Bk w gs 50 cs ∧ cs.size = t.seats.length * 11 ∧ ∀ k s, t.seats[k]? = some s → SeatAt w B cs k s
theorem own_mv {w w' : World} {base n sz : Nat} {e : TypeId} {v : Value} {xs : List Value} (h : w.ownsRow base e sz v n xs) (hk : ∀ b cs, v.ownBlock = some b → Bk w b e cs → Bk w' b e cs) : w'.ownsRow base e sz v n xs := by
  rcases h.2 with h1 | ⟨g, cap, cur, h1, h2, h3, h4⟩
  · exact ⟨h.1, .inl h1⟩
  · exact ⟨h.1, .inr ⟨g, cap, cur, h1, h2, hk g cur (by rw [h1]; rfl) h3, h4⟩⟩
/-- The types of what is the table's. -/
def OurT (ty : TypeId) : Prop := ty = 36 ∨ ty = 50 ∨ ty = 3 ∨ ty = 67 ∨ ty = 51
section
variable {w w' : World} {B gt gs : Nat} {t : TabE}
theorem LogOk.mv {lv : Value} {log : Log} (h : LogOk w B lv log) (hk : ∀ b cs, b < B → Bk w b 67 cs → Bk w' b 67 cs) : LogOk w' B lv log := by
  obtain ⟨G, c, e, ho, hB⟩ := h
  refine ⟨G, c, e, own_mv (show World.ownsRow w 0 67 2 lv log.length (resCells log) from ho) (fun b cs hb => hk b cs ?_), hB⟩
  subst e
  cases G with
  | none => simp [Value.ownBlock] at hb
  | some a => simp [Value.ownBlock] at hb; subst hb; exact hB a rfl
theorem LogOk.up {B' : Nat} {lv : Value} {log : Log} (h : LogOk w B lv log) (hB : B ≤ B') : LogOk w B' lv log := by
  obtain ⟨G, c, e, ho, h1⟩ := h
  exact ⟨G, c, e, ho, fun a ha => Nat.lt_of_lt_of_le (h1 a ha) hB⟩
theorem LogOk.top {lv : Value} {log : Log} (h : LogOk w B lv log) : LogOk w w.heap.size lv log := by
  obtain ⟨G, c, e, ho, h1⟩ := h
  refine ⟨G, c, e, ho, fun a ha => ?_⟩
  rcases ho.2 with ⟨h2, _⟩ | ⟨g, cap, cur, h2, _, h3, _⟩
  · rw [e, ha] at h2; cases h2
  · rw [e, ha] at h2
    injection h2 with h2 _ _
    injection h2 with h2
    subst h2
    exact (Array.getElem?_eq_some_iff.1 h3).1
theorem GoneOk.mv {gv : Value} {g : Gone} (h : GoneOk w gv g) (hk : ∀ b cs, Bk w b 51 cs → Bk w' b 51 cs) : GoneOk w' gv g := by
  obtain ⟨G, n, c, e, hn, hi, hp⟩ := h
  exact ⟨G, n, c, e, hn, hi, hp.mv hk⟩
theorem TRep.up {B' : Nat} (h : TRep w B gt gs t) (hB : B ≤ B') : TRep w B' gt gs t := by
  obtain ⟨cs, k2, h2, h3⟩ := h.sts
  refine ⟨h.mem, cs, k2, h2, fun k s hs => ?_⟩
  obtain ⟨lv, gv, e1, e2, e3⟩ := h3 k s hs
  exact ⟨lv, gv, e1, e2.up hB, e3⟩
theorem TRep.top (h : TRep w B gt gs t) : TRep w w.heap.size gt gs t := by
  obtain ⟨cs, k2, h2, h3⟩ := h.sts
  refine ⟨h.mem, cs, k2, h2, fun k s hs => ?_⟩
  obtain ⟨lv, gv, e1, e2, e3⟩ := h3 k s hs
  exact ⟨lv, gv, e1, e2.top, e3⟩
theorem TRep.mv (h : TRep w B gt gs t) (hk : ∀ b ty cs, OurT ty → (ty = 67 → b < B) → Bk w b ty cs → Bk w' b ty cs) : TRep w' B gt gs t := by
  obtain ⟨gm, c, cc, k1, h1⟩ := h.mem
  obtain ⟨cs, k2, h2, h3⟩ := h.sts
  refine ⟨⟨gm, c, cc, hk _ _ _ (.inl rfl) (fun h => absurd h (by decide)) k1, own_mv (show World.ownsRow w 0 3 1 (.slice (some ⟨gm, 0, none⟩) t.m.length c) t.m.length (ints t.m) from h1) fun b cs _ => hk b _ cs (.inr (.inr (.inl rfl))) (fun h => absurd h (by decide))⟩, cs, hk _ _ _ (.inr (.inl rfl)) (fun h => absurd h (by decide)) k2, h2, fun k s hs => ?_⟩
  obtain ⟨lv, gv, e1, e2, e3⟩ := h3 k s hs
  exact ⟨lv, gv, e1, e2.mv fun b cs hb => hk b _ cs (.inr (.inr (.inr (.inl rfl)))) (fun _ => hb), e3.mv fun b cs => hk b _ cs (.inr (.inr (.inr (.inr rfl)))) (fun h => absurd h (by decide))⟩
theorem TRep.keep (h : TRep w B gt gs t) (hb : Below w.heap.size w w') : TRep w' B gt gs t := h.mv fun b ty cs _ _ k => k.keep hb
theorem TRep.drew (h : TRep w B gt gs t) : TRep w.drew B gt gs t := h.keep (below_drew' (Below.refl _ _))
theorem TRep.row {g : Nat} {ty : TypeId} {cs old : Array Value} (h : TRep w B gt gs t) (k : Bk w g ty old) (hn : ¬ OurT ty ∨ (ty = 67 ∧ B ≤ g)) : TRep (w.setRow g cs) B gt gs t :=
  h.mv fun b t2 c ho hr kb => (setRow_other _ g b _ (by
    rcases hn with hn | ⟨rfl, hB⟩
    · exact bk_neT kb k (fun e => hn (e ▸ ho))
    · by_cases e : t2 = 67
      · have := hr e; omega
      · exact bk_neT kb k e)).trans kb
theorem TRep.set' {g i : Nat} {u : Value} {ty : TypeId} {old : Array Value} (h : TRep w B gt gs t) (k : Bk w g ty old) (hn : ¬ OurT ty) : TRep (w.setCell ⟨g, i, none⟩ u) B gt gs t :=
  h.mv fun b t2 c ho _ kb => (Below.heap_setCell w ⟨g, i, none⟩ u b (bk_neT kb k (fun e => hn (e ▸ ho)))).trans kb
/-- The memory is another one. -/
theorem TRep.setMem (h : TRep w B gt gs t) {mm : List Int} {g c : Nat} (ho : OwnInts w 0 (.slice (some ⟨g, 0, none⟩) mm.length c) mm) : TRep (w.setCell ⟨gt, 0, none⟩ (.slice (some ⟨g, 0, none⟩) mm.length c)) B gt gs { t with m := mm } := by
  obtain ⟨gm, c0, cc, k1, h1⟩ := h.mem
  obtain ⟨cs, k2, h2, h3⟩ := h.sts
  have hk : ∀ b ty cs, ty ≠ 36 → Bk w b ty cs → Bk (w.setCell ⟨gt, 0, none⟩ (.slice (some ⟨g, 0, none⟩) mm.length c)) b ty cs := fun b ty cs hne kb => kb.other (p := ⟨gt, 0, none⟩) (bk_neT kb k1 hne) _
  refine ⟨⟨g, c, cc, by have := k1.stored 0 (.slice (some ⟨g, 0, none⟩) mm.length c); simpa using this, own_mv (show World.ownsRow w 0 3 1 (.slice (some ⟨g, 0, none⟩) mm.length c) mm.length (ints mm) from ho) fun b cs _ => hk b _ cs (by decide)⟩, cs, hk _ _ _ (by decide) k2, h2, fun k s hs => ?_⟩
  obtain ⟨lv, gv, e1, e2, e3⟩ := h3 k s hs
  exact ⟨lv, gv, e1, e2.mv fun b cs _ => hk b _ cs (by decide), e3.mv fun b cs => hk b _ cs (by decide)⟩
/-- A cell of a seat is another one. -/
theorem TRep.upd (h : TRep w B gt gs t) {who j : Nat} {s s' : SeatE} {v : Value} (hs : t.seats[who]? = some s) (hj : j < 11)
    (hv : ∀ lv gv, LogOk w B lv s.log → GoneOk w gv s.gone → ∃ lv' gv', (seatC lv gv s).setIfInBounds j v = seatC lv' gv' s' ∧ LogOk w B lv' s'.log ∧ GoneOk w gv' s'.gone) :
    TRep (w.setCell ⟨gs, who * 11 + j, none⟩ v) B gt gs { t with seats := t.seats.set who s' } := by
  obtain ⟨gm, c0, cc, k1, h1⟩ := h.mem
  obtain ⟨cs, k2, h2, h3⟩ := h.sts
  have hw := (List.getElem?_eq_some_iff.1 hs).1
  have hk : ∀ b ty cs, ty ≠ 50 → Bk w b ty cs → Bk (w.setCell ⟨gs, who * 11 + j, none⟩ v) b ty cs := fun b ty cs hne kb => kb.other (p := ⟨gs, who * 11 + j, none⟩) (bk_neT kb k2 hne) _
  refine ⟨⟨gm, c0, cc, by have := hk _ _ _ (by decide) k1; simpa using this, own_mv (show World.ownsRow w 0 3 1 (.slice (some ⟨gm, 0, none⟩) t.m.length c0) t.m.length (ints t.m) from h1) fun b cs _ => hk b _ cs (by decide)⟩, cs.setIfInBounds (who * 11 + j) v, k2.stored _ _, by simp [h2], fun k u hu => ?_⟩
  dsimp only at hu
  by_cases e : k = who
  · subst e
    rw [List.getElem?_set_self hw] at hu
    injection hu with hu
    subst hu
    obtain ⟨lv, gv, e1, e2, e3⟩ := h3 k s hs
    obtain ⟨lv', gv', d1, d2, d3⟩ := hv lv gv e2 e3
    refine ⟨lv', gv', fun i x hx => ?_, d2.mv fun b cs _ => hk b _ cs (by decide), d3.mv fun b cs => hk b _ cs (by decide)⟩
    rw [← d1, Array.getElem?_setIfInBounds] at hx
    rw [Array.getElem?_setIfInBounds]
    by_cases ei : j = i
    · subst ei
      rw [if_pos rfl] at hx ⊢
      rw [if_pos (by simp; exact hj)] at hx
      rw [if_pos (by rw [h2]; omega)]
      exact hx
    · rw [if_neg ei] at hx
      rw [if_neg (by omega)]
      exact e1 i x hx
  · rw [List.getElem?_set_ne (fun e' => e e'.symm)] at hu
    obtain ⟨lv, gv, e1, e2, e3⟩ := h3 k u hu
    refine ⟨lv, gv, fun i x hx => ?_, e2.mv fun b cs _ => hk b _ cs (by decide), e3.mv fun b cs => hk b _ cs (by decide)⟩
    have hi : i < 11 := by
      have := (Array.getElem?_eq_some_iff.1 hx).1
      simpa using this
    rw [Array.getElem?_setIfInBounds, if_neg (by omega)]
    exact e1 i x hx
/-- The cells of a seat. -/
structure SeatV (w : World) (B gs who : Nat) (lv gv : Value) (s : SeatE) : Prop where
  cells : ∀ j v, (seatC lv gv s)[j]? = some v → w.cell? ⟨gs, who * 11 + j, none⟩ = some v
  free : ∀ j, w.frozen? ⟨gs, who * 11 + j, none⟩ = false
  lt : gs < w.heap.size
  log : LogOk w B lv s.log
  gone : GoneOk w gv s.gone
theorem TRep.seat (h : TRep w B gt gs t) {who : Nat} {s : SeatE} (hs : t.seats[who]? = some s) : ∃ lv gv, SeatV w B gs who lv gv s := by
  obtain ⟨cs, k2, h2, h3⟩ := h.sts
  obtain ⟨lv, gv, e1, e2, e3⟩ := h3 who s hs
  exact ⟨lv, gv, fun j v hj => by rw [k2.cell]; exact e1 j v hj, fun j => k2.free _, k2.lt, e2, e3⟩
theorem set_set {α : Type} (l : List α) (k : Nat) (x y : α) : (l.set k x).set k y = l.set k y := by simp
end
def UnitStep (gt gs : Nat) (t' : TabE) (w : World) (e : Ending) (w' : World) : Prop := e = .returned (.tuple #[]) ∧ TRep w' w'.heap.size gt gs t' ∧ Stw gt gs w w'
end Go.Proofs.Ytgjdjgainjedhaa
