/- How law15's table lies in memory. Printed by tab_gen.py. -/
import Derived.Test.YtbcgjolcfagboaaWish
namespace Go.Proofs.Ytbcgjolcfagboaa
open Go.RowKit
set_option linter.unusedVariables false

/-- Every block of another type than t0 is as it was. -/
def KeptT (t0 : TypeId) (w w' : World) : Prop := ∀ (g : Nat) (cs : Array Value) (t : TypeId) (fr : Nat × Nat), w.heap[g]? = some (.cells cs t fr) → t ≠ t0 → w'.heap[g]? = some (.cells cs t fr)
section
variable {w w' : World} {t0 : TypeId}
theorem keptT_set {b : Nat} {cs : Array Value} (k : Bk w b t0 cs) (i : Nat) (u : Value) : KeptT t0 w (w.setCell ⟨b, i, none⟩ u) := by
  intro g cs' t fr h ht
  have hne : g ≠ b := by
    rintro rfl
    rw [Bk, h] at k
    injection k with k
    injection k with _ k _
    exact ht k
  rw [Below.heap_setCell w ⟨b, i, none⟩ u g hne]
  exact h
theorem keptT_grown {base sz n : Nat} {v : Value} {xs : List Value} (h : w.ownsRow base t0 sz v n xs) (hg : w.grownBy w' v.ownBlock) : KeptT t0 w w' := by
  intro g cs' t fr hc ht
  have hlt : g < w.heap.size := (Array.getElem?_eq_some_iff.1 hc).1
  rw [hg.block g hlt ?_]
  · exact hc
  · rcases h.2 with ⟨rfl, _⟩ | ⟨g', cap, cur, rfl, _, h2, _⟩
    · simp [Value.ownBlock]
    · simp only [Value.ownBlock]
      intro e
      injection e with e
      subst e
      rw [hc] at h2
      injection h2 with h2
      injection h2 with _ h2 _
      exact ht h2
theorem keptT_below (hb : Below w.heap.size w w') : KeptT t0 w w' := by
  intro g cs t fr hc _
  rw [hb.block g (Array.getElem?_eq_some_iff.1 hc).1]
  exact hc
theorem KeptT.trans {w2 : World} (h : KeptT t0 w w') (h' : KeptT t0 w' w2) : KeptT t0 w w2 := fun g cs t fr hc ht => h' g cs t fr (h g cs t fr hc ht) ht
theorem Bk.keptT {g : Nat} {t : TypeId} {cs : Array Value} (k : Bk w g t cs) (h : KeptT t0 w w') (ne : t ≠ t0) : Bk w' g t cs := h g cs t (0, 0) k ne
theorem own_keptT {base sz n : Nat} {e : TypeId} {v : Value} {xs : List Value} (h : w.ownsRow base e sz v n xs) (hk : KeptT t0 w w') (ne : e ≠ t0) : w'.ownsRow base e sz v n xs := by
  rcases h.2 with h1 | ⟨g, cap, cur, h1, h2, h3, h4⟩
  · exact ⟨h.1, .inl h1⟩
  · exact ⟨h.1, .inr ⟨g, cap, cur, h1, h2, hk g cur e (0, 0) h3 ne, h4⟩⟩
end

/-- Blocks that are not of the list L are as they were. -/
structure StpL (L : List Nat) (w w' : World) : Prop where
  os : w'.os = w.os
  tape : w'.tape = w.tape
  output : w'.output = w.output
  size : w.heap.size ≤ w'.heap.size
  block : ∀ b, b < w.heap.size → b ∉ L → w'.heap[b]? = w.heap[b]?
section
variable {L : List Nat} {w w' w2 : World}
theorem StpL.refl (L : List Nat) (w : World) : StpL L w w := ⟨rfl, rfl, rfl, Nat.le_refl _, fun _ _ _ => rfl⟩
theorem StpL.trans (h : StpL L w w') (k : StpL L w' w2) : StpL L w w2 := ⟨k.os.trans h.os, k.tape.trans h.tape, k.output.trans h.output, Nat.le_trans h.size k.size, fun b hb hn => (k.block b (Nat.lt_of_lt_of_le hb h.size) hn).trans (h.block b hb hn)⟩
theorem StpL.of_below (L : List Nat) (h : Below w.heap.size w w') : StpL L w w' := ⟨h.os, h.tape, h.output, h.size, fun b hb _ => h.block b hb⟩
theorem StpL.set {g : Nat} (hg : g ∈ L) (w : World) (i : Nat) (u : Value) : StpL L w (w.setCell ⟨g, i, none⟩ u) :=
  ⟨rfl, rfl, rfl, by simp [World.setCell], fun b hb hn => Below.heap_setCell w ⟨g, i, none⟩ u b (fun e => hn (by subst e; exact hg))⟩
theorem StpL.setNew (h : StpL L w w') {g : Nat} (hg : w.heap.size ≤ g) (i : Nat) (u : Value) : StpL L w (w'.setCell ⟨g, i, none⟩ u) :=
  ⟨h.os, h.tape, h.output, by have := h.size; simpa [World.setCell] using this, fun b hb hn => (Below.heap_setCell w' ⟨g, i, none⟩ u b (by dsimp only; omega)).trans (h.block b hb hn)⟩
theorem StpL.rowNew (h : StpL L w w') {g : Nat} (hg : w.heap.size ≤ g) (cs : Array Value) : StpL L w (w'.setRow g cs) :=
  ⟨h.os, h.tape, h.output, by have := h.size; simpa [World.setRow] using this, fun b hb hn => (setRow_other _ g b _ (by omega)).trans (h.block b hb hn)⟩
theorem StpL.below (h : StpL L w w') {B : Nat} (hB : ∀ g ∈ L, B ≤ g) (hs : B ≤ w.heap.size) : Below B w w' := ⟨h.os, h.tape, h.output, h.size, fun b hb => h.block b (by omega) (fun hm => by have := hB b hm; omega)⟩
theorem StpL.keep {g : Nat} {t : TypeId} {cs : Array Value} (h : StpL L w w') (k : Bk w g t cs) (hn : g ∉ L) : Bk w' g t cs := (h.block g k.lt hn).trans k
end
theorem bk_ne {w : World} {a b : Nat} {t1 t2 : TypeId} {c1 c2 : Array Value} (h1 : Bk w a t1 c1) (h2 : Bk w b t2 c2) (hne : t1 ≠ t2) : a ≠ b := by
  rintro rfl
  rw [Bk, h2] at h1
  injection h1 with h1
  injection h1 with _ h1 _
  exact hne h1.symm
theorem own_stp1 {w w' : World} {g base sz n : Nat} {e : TypeId} {v : Value} {xs : List Value} (ho : w.ownsRow base e sz v n xs) (hne : v.ownBlock ≠ some g) (hb : ∀ b, b ≠ g → w'.heap[b]? = w.heap[b]?) : w'.ownsRow base e sz v n xs := by
  refine ⟨ho.1, ?_⟩
  rcases ho.2 with h1 | ⟨g', cap, cur, h1, h2, h3, h4⟩
  · exact .inl h1
  · refine .inr ⟨g', cap, cur, h1, h2, ?_, h4⟩
    rw [hb g' (fun e' => hne (by rw [h1, e']; rfl))]
    exact h3
theorem own_keepb' {w w' : World} {base sz n : Nat} {e : TypeId} {v : Value} {xs : List Value} (h : w.ownsRow base e sz v n xs) (hb : Below w.heap.size w w') : w'.ownsRow base e sz v n xs := by
  rcases h.2 with h1 | ⟨g, cap, cur, h1, h2, h3, h4⟩
  · exact ⟨h.1, .inl h1⟩
  · exact ⟨h.1, .inr ⟨g, cap, cur, h1, h2, (hb.block g (Array.getElem?_eq_some_iff.1 h3).1).trans h3, h4⟩⟩
theorem set_cases {α : Type} {l : List α} {k j : Nat} {x y : α} (hk : k < l.length) (h : (l.set k x)[j]? = some y) : (j = k ∧ y = x) ∨ (j ≠ k ∧ l[j]? = some y) := by
  by_cases e : j = k
  · subst e
    rw [List.getElem?_set_self hk] at h
    injection h with h
    exact .inl ⟨rfl, h.symm⟩
  · rw [List.getElem?_set_ne (fun e' => e e'.symm)] at h
    exact .inr ⟨e, h⟩
abbrev tabC (g M cap go gl gn gh n : Nat) : Array Value := #[.slice (some ⟨g, 0, none⟩) M cap, .slice (some ⟨go, 0, none⟩) n n, .slice (some ⟨gl, 0, none⟩) n n, .slice (some ⟨gn, 0, none⟩) n n, .slice (some ⟨gh, 0, none⟩) n n]
structure TRep (w : World) (gt go gl gn gh n : Nat) (t : TabA) : Prop where
  ns : t.seats.length = n
  tab : ∃ g cap, Bk w gt 58 (tabC g t.m.length cap go gl gn gh n) ∧ OwnInts w 0 (.slice (some ⟨g, 0, none⟩) t.m.length cap) t.m ∧ g ≠ gn
  ops : ∃ cs : Array Value, Bk w go 39 cs ∧ cs.size = n * 4 ∧ ∀ (k : Nat) (s : SeatA), t.seats[k]? = some s → cs[k * 4]? = some (.int .i64 s.op.kind) ∧ cs[k * 4 + 1]? = some (.int .i64 s.op.obj) ∧ cs[k * 4 + 2]? = some (.int .i64 s.op.a) ∧ cs[k * 4 + 3]? = some (.int .i64 s.op.b)
  logs : ∃ cs : Array Value, Bk w gl 78 cs ∧ cs.size = n ∧ ∀ (k : Nat) (s : SeatA), t.seats[k]? = some s → ∃ G cap, cs[k]? = some (.slice G s.log.length cap) ∧ OwnRes w 0 (.slice G s.log.length cap) s.log
  nexts : ∃ cs : Array Value, Bk w gn 3 cs ∧ cs.size = n ∧ ∀ (k : Nat) (s : SeatA), t.seats[k]? = some s → cs[k]? = some (.int .i64 (s.next : Nat))
  hass : ∃ cs : Array Value, Bk w gh 50 cs ∧ cs.size = n ∧ ∀ (k : Nat) (s : SeatA), t.seats[k]? = some s → ∃ G cap, cs[k]? = some (.slice G s.has.length cap) ∧ OwnInts w 0 (.slice G s.has.length cap) s.has ∧ (Value.slice G s.has.length cap).ownBlock ≠ some gn
section
variable {w w' : World} {gt go gl gn gh n : Nat} {t : TabA}
theorem TRep.keep (h : TRep w gt go gl gn gh n t) (hb : Below w.heap.size w w') : TRep w' gt go gl gn gh n t := by
  obtain ⟨g, cap, a1, a2, a3⟩ := h.tab
  obtain ⟨c1, b1, b2, b3⟩ := h.ops
  obtain ⟨c2, d1, d2, d3⟩ := h.logs
  obtain ⟨c3, e1, e2, e3⟩ := h.nexts
  obtain ⟨c4, f1, f2, f3⟩ := h.hass
  refine ⟨h.ns, ⟨g, cap, a1.keep hb, own_keepb' a2 hb, a3⟩, ⟨c1, b1.keep hb, b2, b3⟩, ⟨c2, d1.keep hb, d2, fun k s hs => ?_⟩, ⟨c3, e1.keep hb, e2, e3⟩, ⟨c4, f1.keep hb, f2, fun k s hs => ?_⟩⟩
  · obtain ⟨G, cp, x1, x2⟩ := d3 k s hs
    exact ⟨G, cp, x1, own_keepb' x2 hb⟩
  · obtain ⟨G, cp, x1, x2, x3⟩ := f3 k s hs
    exact ⟨G, cp, x1, own_keepb' x2 hb, x3⟩
theorem TRep.keptT {t0 : TypeId} (h : TRep w gt go gl gn gh n t) (hk : KeptT t0 w w') (n1 : 58 ≠ t0) (n2 : 39 ≠ t0) (n3 : 78 ≠ t0) (n4 : 43 ≠ t0) (n5 : 3 ≠ t0) (n6 : 50 ≠ t0) : TRep w' gt go gl gn gh n t := by
  obtain ⟨g, cap, a1, a2, a3⟩ := h.tab
  obtain ⟨c1, b1, b2, b3⟩ := h.ops
  obtain ⟨c2, d1, d2, d3⟩ := h.logs
  obtain ⟨c3, e1, e2, e3⟩ := h.nexts
  obtain ⟨c4, f1, f2, f3⟩ := h.hass
  refine ⟨h.ns, ⟨g, cap, a1.keptT hk n1, own_keptT a2 hk n5, a3⟩, ⟨c1, b1.keptT hk n2, b2, b3⟩, ⟨c2, d1.keptT hk n3, d2, fun k s hs => ?_⟩, ⟨c3, e1.keptT hk n5, e2, e3⟩, ⟨c4, f1.keptT hk n6, f2, fun k s hs => ?_⟩⟩
  · obtain ⟨G, cp, x1, x2⟩ := d3 k s hs
    exact ⟨G, cp, x1, own_keptT x2 hk n4⟩
  · obtain ⟨G, cp, x1, x2, x3⟩ := f3 k s hs
    exact ⟨G, cp, x1, own_keptT x2 hk n5, x3⟩
theorem TRep.mem {g cap : Nat} {m' : List Int} (h : TRep w gt go gl gn gh n t) (ho : OwnInts w 0 (.slice (some ⟨g, 0, none⟩) m'.length cap) m') (hg : g ≠ gn) : TRep (w.setCell ⟨gt, 0, none⟩ (.slice (some ⟨g, 0, none⟩) m'.length cap)) gt go gl gn gh n ⟨m', t.seats⟩ := by
  obtain ⟨g0, cap0, a1, a2, a3⟩ := h.tab
  obtain ⟨c1, b1, b2, b3⟩ := h.ops
  obtain ⟨c2, d1, d2, d3⟩ := h.logs
  obtain ⟨c3, e1, e2, e3⟩ := h.nexts
  obtain ⟨c4, f1, f2, f3⟩ := h.hass
  have hk := keptT_set a1 0 (.slice (some ⟨g, 0, none⟩) m'.length cap)
  refine ⟨h.ns, ⟨g, cap, a1.stored 0 _, own_keptT ho hk (by decide), hg⟩, ⟨c1, b1.keptT hk (by decide), b2, b3⟩, ⟨c2, d1.keptT hk (by decide), d2, fun k s hs => ?_⟩, ⟨c3, e1.keptT hk (by decide), e2, e3⟩, ⟨c4, f1.keptT hk (by decide), f2, fun k s hs => ?_⟩⟩
  · obtain ⟨G, cp, x1, x2⟩ := d3 k s hs
    exact ⟨G, cp, x1, own_keptT x2 hk (by decide)⟩
  · obtain ⟨G, cp, x1, x2, x3⟩ := f3 k s hs
    exact ⟨G, cp, x1, own_keptT x2 hk (by decide), x3⟩
theorem TRep.log {k : Nat} {s : SeatA} {G : Option Addr} {cap : Nat} {log : Log} (h : TRep w gt go gl gn gh n t) (hs : t.seats[k]? = some s) (ho : OwnRes w 0 (.slice G log.length cap) log) :
    TRep (w.setCell ⟨gl, k, none⟩ (.slice G log.length cap)) gt go gl gn gh n ⟨t.m, t.seats.set k ⟨s.op, log, s.next, s.has⟩⟩ := by
  obtain ⟨g0, cap0, a1, a2, a3⟩ := h.tab
  obtain ⟨c1, b1, b2, b3⟩ := h.ops
  obtain ⟨c2, d1, d2, d3⟩ := h.logs
  obtain ⟨c3, e1, e2, e3⟩ := h.nexts
  obtain ⟨c4, f1, f2, f3⟩ := h.hass
  have hkl : k < t.seats.length := (List.getElem?_eq_some_iff.1 hs).1
  have hk := keptT_set d1 k (.slice G log.length cap)
  refine ⟨by simp [h.ns], ⟨g0, cap0, a1.keptT hk (by decide), own_keptT a2 hk (by decide), a3⟩, ⟨c1, b1.keptT hk (by decide), b2, fun j s' hj => ?_⟩, ⟨_, d1.stored k _, by simp [d2], fun j s' hj => ?_⟩, ⟨c3, e1.keptT hk (by decide), e2, fun j s' hj => ?_⟩, ⟨c4, f1.keptT hk (by decide), f2, fun j s' hj => ?_⟩⟩
  · rcases set_cases hkl hj with ⟨rfl, rfl⟩ | ⟨_, hj⟩
    · exact b3 j s hs
    · exact b3 j s' hj
  · rcases set_cases hkl hj with ⟨rfl, rfl⟩ | ⟨hn, hj⟩
    · exact ⟨G, cap, Array.getElem?_setIfInBounds_self_of_lt (by rw [d2, ← h.ns]; exact hkl), own_keptT ho hk (by decide)⟩
    · obtain ⟨G', cp, x1, x2⟩ := d3 j s' hj
      exact ⟨G', cp, by rw [Array.getElem?_setIfInBounds_ne (fun e => hn e.symm)]; exact x1, own_keptT x2 hk (by decide)⟩
  · rcases set_cases hkl hj with ⟨rfl, rfl⟩ | ⟨_, hj⟩
    · exact e3 j s hs
    · exact e3 j s' hj
  · rcases set_cases hkl hj with ⟨rfl, rfl⟩ | ⟨_, hj⟩
    · obtain ⟨G', cp, x1, x2, x3⟩ := f3 j s hs
      exact ⟨G', cp, x1, own_keptT x2 hk (by decide), x3⟩
    · obtain ⟨G', cp, x1, x2, x3⟩ := f3 j s' hj
      exact ⟨G', cp, x1, own_keptT x2 hk (by decide), x3⟩
theorem TRep.has {k : Nat} {s : SeatA} {G : Option Addr} {cap : Nat} {has : List Int} (h : TRep w gt go gl gn gh n t) (hs : t.seats[k]? = some s) (ho : OwnInts w 0 (.slice G has.length cap) has) (hg : (Value.slice G has.length cap).ownBlock ≠ some gn) :
    TRep (w.setCell ⟨gh, k, none⟩ (.slice G has.length cap)) gt go gl gn gh n ⟨t.m, t.seats.set k ⟨s.op, s.log, s.next, has⟩⟩ := by
  obtain ⟨g0, cap0, a1, a2, a3⟩ := h.tab
  obtain ⟨c1, b1, b2, b3⟩ := h.ops
  obtain ⟨c2, d1, d2, d3⟩ := h.logs
  obtain ⟨c3, e1, e2, e3⟩ := h.nexts
  obtain ⟨c4, f1, f2, f3⟩ := h.hass
  have hkl : k < t.seats.length := (List.getElem?_eq_some_iff.1 hs).1
  have hk := keptT_set f1 k (.slice G has.length cap)
  refine ⟨by simp [h.ns], ⟨g0, cap0, a1.keptT hk (by decide), own_keptT a2 hk (by decide), a3⟩, ⟨c1, b1.keptT hk (by decide), b2, fun j s' hj => ?_⟩, ⟨c2, d1.keptT hk (by decide), d2, fun j s' hj => ?_⟩, ⟨c3, e1.keptT hk (by decide), e2, fun j s' hj => ?_⟩, ⟨_, f1.stored k _, by simp [f2], fun j s' hj => ?_⟩⟩
  · rcases set_cases hkl hj with ⟨rfl, rfl⟩ | ⟨_, hj⟩
    · exact b3 j s hs
    · exact b3 j s' hj
  · rcases set_cases hkl hj with ⟨rfl, rfl⟩ | ⟨hn, hj⟩
    · obtain ⟨G', cp, x1, x2⟩ := d3 j s hs
      exact ⟨G', cp, x1, own_keptT x2 hk (by decide)⟩
    · obtain ⟨G', cp, x1, x2⟩ := d3 j s' hj
      exact ⟨G', cp, x1, own_keptT x2 hk (by decide)⟩
  · rcases set_cases hkl hj with ⟨rfl, rfl⟩ | ⟨_, hj⟩
    · exact e3 j s hs
    · exact e3 j s' hj
  · rcases set_cases hkl hj with ⟨rfl, rfl⟩ | ⟨hn, hj⟩
    · exact ⟨G, cap, Array.getElem?_setIfInBounds_self_of_lt (by rw [f2, ← h.ns]; exact hkl), own_keptT ho hk (by decide), hg⟩
    · obtain ⟨G', cp, x1, x2, x3⟩ := f3 j s' hj
      exact ⟨G', cp, by rw [Array.getElem?_setIfInBounds_ne (fun e => hn e.symm)]; exact x1, own_keptT x2 hk (by decide), x3⟩
theorem TRep.next {k z : Nat} {s : SeatA} (h : TRep w gt go gl gn gh n t) (hs : t.seats[k]? = some s) :
    TRep (w.setCell ⟨gn, k, none⟩ (.int .i64 (z : Nat))) gt go gl gn gh n ⟨t.m, t.seats.set k ⟨s.op, s.log, z, s.has⟩⟩ := by
  obtain ⟨g0, cap0, a1, a2, a3⟩ := h.tab
  obtain ⟨c1, b1, b2, b3⟩ := h.ops
  obtain ⟨c2, d1, d2, d3⟩ := h.logs
  obtain ⟨c3, e1, e2, e3⟩ := h.nexts
  obtain ⟨c4, f1, f2, f3⟩ := h.hass
  have hkl : k < t.seats.length := (List.getElem?_eq_some_iff.1 hs).1
  have hk := keptT_set e1 k (.int .i64 (z : Nat))
  have hb : ∀ b, b ≠ gn → (w.setCell ⟨gn, k, none⟩ (.int .i64 (z : Nat))).heap[b]? = w.heap[b]? := fun b hn => Below.heap_setCell w ⟨gn, k, none⟩ _ b hn
  refine ⟨by simp [h.ns], ⟨g0, cap0, a1.keptT hk (by decide), own_stp1 a2 (by simp only [Value.ownBlock]; intro e; injection e with e; exact a3 e) hb, a3⟩, ⟨c1, b1.keptT hk (by decide), b2, fun j s' hj => ?_⟩, ⟨c2, d1.keptT hk (by decide), d2, fun j s' hj => ?_⟩, ⟨_, e1.stored k _, by simp [e2], fun j s' hj => ?_⟩, ⟨c4, f1.keptT hk (by decide), f2, fun j s' hj => ?_⟩⟩
  · rcases set_cases hkl hj with ⟨rfl, rfl⟩ | ⟨_, hj⟩
    · exact b3 j s hs
    · exact b3 j s' hj
  · rcases set_cases hkl hj with ⟨rfl, rfl⟩ | ⟨hn, hj⟩
    · obtain ⟨G', cp, x1, x2⟩ := d3 j s hs
      exact ⟨G', cp, x1, own_keptT x2 hk (by decide)⟩
    · obtain ⟨G', cp, x1, x2⟩ := d3 j s' hj
      exact ⟨G', cp, x1, own_keptT x2 hk (by decide)⟩
  · rcases set_cases hkl hj with ⟨rfl, rfl⟩ | ⟨hn, hj⟩
    · exact Array.getElem?_setIfInBounds_self_of_lt (by rw [e2, ← h.ns]; exact hkl)
    · rw [Array.getElem?_setIfInBounds_ne (fun e => hn e.symm)]
      exact e3 j s' hj
  · rcases set_cases hkl hj with ⟨rfl, rfl⟩ | ⟨hn, hj⟩
    · obtain ⟨G', cp, x1, x2, x3⟩ := f3 j s hs
      exact ⟨G', cp, x1, own_stp1 x2 x3 hb, x3⟩
    · obtain ⟨G', cp, x1, x2, x3⟩ := f3 j s' hj
      exact ⟨G', cp, x1, own_stp1 x2 x3 hb, x3⟩
abbrev setOpW (w : World) (go k : Nat) (op : Opr) : World := (((w.setCell ⟨go, k * 4, none⟩ (.int .i64 op.kind)).setCell ⟨go, k * 4 + 1, none⟩ (.int .i64 op.obj)).setCell ⟨go, k * 4 + 2, none⟩ (.int .i64 op.a)).setCell ⟨go, k * 4 + 3, none⟩ (.int .i64 op.b)
theorem TRep.op {k : Nat} {s : SeatA} {op : Opr} (h : TRep w gt go gl gn gh n t) (hs : t.seats[k]? = some s) : TRep (setOpW w go k op) gt go gl gn gh n ⟨t.m, t.seats.set k ⟨op, s.log, s.next, s.has⟩⟩ := by
  obtain ⟨g0, cap0, a1, a2, a3⟩ := h.tab
  obtain ⟨c1, b1, b2, b3⟩ := h.ops
  obtain ⟨c2, d1, d2, d3⟩ := h.logs
  obtain ⟨c3, e1, e2, e3⟩ := h.nexts
  obtain ⟨c4, f1, f2, f3⟩ := h.hass
  have hkl : k < t.seats.length := (List.getElem?_eq_some_iff.1 hs).1
  have hkn : k < n := by rw [← h.ns]; exact hkl
  have k1 := b1.stored (k * 4) (.int .i64 op.kind)
  have k2 := k1.stored (k * 4 + 1) (.int .i64 op.obj)
  have k3 := k2.stored (k * 4 + 2) (.int .i64 op.a)
  have k4 := k3.stored (k * 4 + 3) (.int .i64 op.b)
  have hk := (((keptT_set b1 (k * 4) (.int .i64 op.kind)).trans (keptT_set k1 (k * 4 + 1) (.int .i64 op.obj))).trans (keptT_set k2 (k * 4 + 2) (.int .i64 op.a))).trans (keptT_set k3 (k * 4 + 3) (.int .i64 op.b))
  refine ⟨by simp [h.ns], ⟨g0, cap0, a1.keptT hk (by decide), own_keptT a2 hk (by decide), a3⟩, ⟨_, k4, by simp [b2], fun j s' hj => ?_⟩, ⟨c2, d1.keptT hk (by decide), d2, fun j s' hj => ?_⟩, ⟨c3, e1.keptT hk (by decide), e2, fun j s' hj => ?_⟩, ⟨c4, f1.keptT hk (by decide), f2, fun j s' hj => ?_⟩⟩
  · rcases set_cases hkl hj with ⟨rfl, rfl⟩ | ⟨hn, hj⟩
    · refine ⟨?_, ?_, ?_, ?_⟩
      · rw [Array.getElem?_setIfInBounds_ne (by omega), Array.getElem?_setIfInBounds_ne (by omega), Array.getElem?_setIfInBounds_ne (by omega), Array.getElem?_setIfInBounds_self_of_lt (by omega)]
      · rw [Array.getElem?_setIfInBounds_ne (by omega), Array.getElem?_setIfInBounds_ne (by omega), Array.getElem?_setIfInBounds_self_of_lt (by simp; omega)]
      · rw [Array.getElem?_setIfInBounds_ne (by omega), Array.getElem?_setIfInBounds_self_of_lt (by simp; omega)]
      · rw [Array.getElem?_setIfInBounds_self_of_lt (by simp; omega)]
    · obtain ⟨y1, y2, y3, y4⟩ := b3 j s' hj
      have ne : ∀ p q : Nat, p < 4 → q < 4 → k * 4 + p ≠ j * 4 + q := fun p q hp hq => by omega
      refine ⟨?_, ?_, ?_, ?_⟩
      · rw [Array.getElem?_setIfInBounds_ne (by omega), Array.getElem?_setIfInBounds_ne (by omega), Array.getElem?_setIfInBounds_ne (by omega), Array.getElem?_setIfInBounds_ne (by omega)]; exact y1
      · rw [Array.getElem?_setIfInBounds_ne (by omega), Array.getElem?_setIfInBounds_ne (by omega), Array.getElem?_setIfInBounds_ne (by omega), Array.getElem?_setIfInBounds_ne (by omega)]; exact y2
      · rw [Array.getElem?_setIfInBounds_ne (by omega), Array.getElem?_setIfInBounds_ne (by omega), Array.getElem?_setIfInBounds_ne (by omega), Array.getElem?_setIfInBounds_ne (by omega)]; exact y3
      · rw [Array.getElem?_setIfInBounds_ne (by omega), Array.getElem?_setIfInBounds_ne (by omega), Array.getElem?_setIfInBounds_ne (by omega), Array.getElem?_setIfInBounds_ne (by omega)]; exact y4
  · rcases set_cases hkl hj with ⟨rfl, rfl⟩ | ⟨hn, hj⟩
    · obtain ⟨G', cp, x1, x2⟩ := d3 j s hs
      exact ⟨G', cp, x1, own_keptT x2 hk (by decide)⟩
    · obtain ⟨G', cp, x1, x2⟩ := d3 j s' hj
      exact ⟨G', cp, x1, own_keptT x2 hk (by decide)⟩
  · rcases set_cases hkl hj with ⟨rfl, rfl⟩ | ⟨_, hj⟩
    · exact e3 j s hs
    · exact e3 j s' hj
  · rcases set_cases hkl hj with ⟨rfl, rfl⟩ | ⟨_, hj⟩
    · obtain ⟨G', cp, x1, x2, x3⟩ := f3 j s hs
      exact ⟨G', cp, x1, own_keptT x2 hk (by decide), x3⟩
    · obtain ⟨G', cp, x1, x2, x3⟩ := f3 j s' hj
      exact ⟨G', cp, x1, own_keptT x2 hk (by decide), x3⟩
end
/-- A slice of slices of bytes. -/
def SlU8s (w : World) (B : Nat) (A : Option Addr) (l : List (List Nat)) : Prop :=
  0 < l.length → ∃ b o, A = some ⟨b, o, none⟩ ∧ b < B ∧ ∀ k xs, l[k]? = some xs → ∃ A' c, w.cell? ⟨b, o + k, none⟩ = some (.slice A' xs.length c) ∧ SlU8 w B A' xs
theorem SlU8s.below {w w' : World} {B : Nat} {A : Option Addr} {l : List (List Nat)} (h : SlU8s w B A l) (hb : Below B w w') : SlU8s w' B A l := by
  intro hl
  obtain ⟨b, o, e, hbb, hc⟩ := h hl
  refine ⟨b, o, e, hbb, fun k a ha => ?_⟩
  obtain ⟨A', c, h1, h2⟩ := hc k a ha
  exact ⟨A', c, (hb.cell (p := ⟨b, _, none⟩) hbb).trans h1, h2.below hb⟩
end Go.Proofs.Ytbcgjolcfagboaa
