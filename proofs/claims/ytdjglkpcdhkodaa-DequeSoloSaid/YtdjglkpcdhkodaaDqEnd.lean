/- The deque's plain law: a play that is over. No program in sight. -/
import Derived.Test.YtdjglkpcdhkodaaDqY
namespace Go.Proofs.Ytdjglkpcdhkodaa
open Go.RowKit
set_option linter.unusedVariables false

/-- What is known of a play that is over. -/
structure EndOk (l : Ly) (sz : Nat) (row0 : List Int) (t : TabD) : Prop where
  ex : ∃ pl n, DI l sz pl row0 n t
  idle : ∀ who, who < 3 → (t.seat who).op.kind = 0
  ln : t.done.length ≤ 100000
section
variable {l : Ly} {sz : Nat} {row0 : List Int} {t : TabD}
theorem EndOk.recs (h : EndOk l sz row0 t) : recsOf l t = t.done := by
  have hp : ∀ who, who < 3 → pend l who (t.seat who) = [] := fun who hw => by
    unfold pend
    rw [if_pos (h.idle who hw)]
  unfold recsOf pends
  rw [hp 0 (by omega), hp 1 (by omega), hp 2 (by omega)]
  simp
theorem EndOk.ph (h : EndOk l sz row0 t) {who : Nat} (hw : who < 3) : (t.seat who).ph l = .id := by
  unfold SeatD.ph
  rw [if_pos (h.idle who hw)]
theorem EndOk.bd (h : EndOk l sz row0 t) : t.bad = false := by
  obtain ⟨pl, n, hd⟩ := h.ex
  exact hd.bd
theorem EndOk.si (h : EndOk l sz row0 t) : SI t.m .id (t.seat 0).op.a (t.seat 0).next t.done t.step := by
  obtain ⟨pl, n, hd⟩ := h.ex
  have := hd.si
  rw [h.ph (by omega), h.recs] at this
  exact this
/-- The operations in an order that a row answers. -/
theorem EndOk.li (h : EndOk l sz row0 t) : ∃ es : List Ent, rep row0 es = some (Lc t.m) ∧ (es.map (·.1)).Perm (t.done.filter fun d => decide (d.err ≠ 9)) ∧ es.Pairwise (fun e e' => e.2 ≤ e'.2) ∧ ∀ e ∈ es, e.1.first ≤ e.2 ∧ e.2 ≤ e.1.last := by
  obtain ⟨pl, n, hd⟩ := h.ex
  obtain ⟨p, q, pre, post, ci, li, pm, _⟩ := hd.ex
  rw [h.recs] at pm
  rw [h.ph (by omega)] at li
  have hp := li.nf rfl
  subst hp
  obtain ⟨rp, r0, g1, g2, g3⟩ := li.rp
  have e : rp = r0 := g3
  subst e
  simp only [rep, Option.some.injEq] at g2
  subst g2
  refine ⟨pre, g1, by simpa using pm, by simpa using li.so, by simpa using li.it⟩
end
/-- A play that is over. -/
theorem end_ok (p : PlayD) (turns : List Nat) (tk : Int) (t0 : 0 ≤ tk) (ho : p.own.length ≤ 14) (hn : turns.length ≤ 300) : EndOk (playL tk) (playL tk).size.toNat [] (endD (playL tk) p turns) := by
  obtain ⟨hnn, ly, lf⟩ := playL_size tk t0
  have h0 := DI.begin ly p
  have hm : ∀ w ∈ turns.map (· % 3), w < 3 := fun w hw => by
    rw [List.mem_map] at hw
    obtain ⟨x, _, rfl⟩ := hw
    exact Nat.mod_lt _ (by omega)
  have h1 := DI.run ly (by omega) _ h0 hm
  have h2 := DI.all_ended h1 ly (by omega) (K := 900) (fun who hw => by
    have := h1.mu_le hw
    have hl : lim p who ≤ 14 := by unfold lim; split <;> omega
    omega)
  unfold endD
  rw [runD_append]
  refine ⟨⟨p, _, h2.1⟩, h2.2, ?_⟩
  have := h2.1.dn
  rw [List.length_map] at this
  omega
/-! The rows of ends, to be read. -/
def DnAt (w : World) (G : Option Addr) (ds : List DoneD) : Prop := 0 < ds.length → ∃ g, G = some ⟨g, 0, none⟩ ∧ g < w.heap.size ∧ ∀ (k : Nat) (d : DoneD), ds[k]? = some d → ∀ (j : Nat) (v : Value), (doneC d).toList[j]? = some v → w.cell? ⟨g, k * 12 + j, none⟩ = some v
theorem donesC_get : ∀ (ds : List DoneD) (k : Nat) (d : DoneD), ds[k]? = some d → ∀ (j : Nat) (v : Value), (doneC d).toList[j]? = some v → (donesC ds)[k * 12 + j]? = some v := by
  intro ds
  induction ds with
  | nil => intro k d h; cases h
  | cons x ds ih =>
    intro k d h j v hv
    have hx : (doneC x).toList.length = 12 := rfl
    have e : donesC (x :: ds) = (doneC x).toList ++ donesC ds := by simp [donesC]
    rw [e]
    cases k with
    | zero =>
      injection h with h
      subst h
      have hj := (List.getElem?_eq_some_iff.1 hv).1
      rw [Nat.zero_mul, Nat.zero_add, List.getElem?_append_left hj]
      exact hv
    | succ k =>
      rw [List.getElem?_append_right (by omega), hx, show (k + 1) * 12 + j - 12 = k * 12 + j by omega]
      exact ih k d (by simpa using h) j v hv
theorem DnAt.of_own {w : World} {B : Nat} {G : Option Addr} {c : Nat} {ds : List DoneD} (h : OwnDone w B (.slice G ds.length c) ds) : DnAt w G ds := by
  intro hl
  rcases h.2 with ⟨_, h0⟩ | ⟨g, cap, cur, h1, _, h3, _, _, _, h4⟩
  · omega
  · injection h1 with h1 _ _
    refine ⟨g, h1, (Array.getElem?_eq_some_iff.1 h3).1, fun k d hk j v hv => ?_⟩
    have h5 := donesC_get ds k d hk j v hv
    rw [← h4] at h5
    have h6 : cur.toList[k * 12 + j]? = some v := by
      rw [List.getElem?_take] at h5
      split at h5
      · exact h5
      · cases h5
    have := Bk.cell (w := w) (g := g) h3 (k * 12 + j)
    rw [this]
    simpa using h6
theorem DnAt.below {w w' : World} {G : Option Addr} {ds : List DoneD} (h : DnAt w G ds) (hb : Below w.heap.size w w') : DnAt w' G ds := by
  intro hl
  obtain ⟨g, h1, h2, h3⟩ := h hl
  exact ⟨g, h1, Nat.lt_of_lt_of_le h2 hb.size, fun k d hk j v hv => (hb.cell (p := ⟨g, _, none⟩) h2).trans (h3 k d hk j v hv)⟩
/-- A table, to be read: its memory, its ends, no fault. -/
structure TSee (w : World) (gt : Nat) (t : TabD) (gm cm : Nat) (G : Option Addr) (c : Nat) : Prop where
  lt : gt < w.heap.size
  c0 : w.cell? ⟨gt, 0, none⟩ = some (.slice (some ⟨gm, 0, none⟩) t.m.length cm)
  c26 : w.cell? ⟨gt, 26, none⟩ = some (.slice G t.done.length c)
  c27 : w.cell? ⟨gt, 27, none⟩ = some (.bool t.bad)
  mem : Sl w w.heap.size (some ⟨gm, 0, none⟩) t.m.length (ints t.m)
  dn : DnAt w G t.done
theorem TSee.below {w w' : World} {gt gm cm c : Nat} {t : TabD} {G : Option Addr} (h : TSee w gt t gm cm G c) (hb : Below w.heap.size w w') : TSee w' gt t gm cm G c :=
  ⟨Nat.lt_of_lt_of_le h.lt hb.size, (hb.cell (p := ⟨gt, _, none⟩) h.lt).trans h.c0, (hb.cell (p := ⟨gt, _, none⟩) h.lt).trans h.c26, (hb.cell (p := ⟨gt, _, none⟩) h.lt).trans h.c27, h.mem.keepb hb, h.dn.below hb⟩
theorem TRep.see {w : World} {B gt : Nat} {t : TabD} (h : TRep w B gt t) : ∃ gm cm G c, TSee w gt t gm cm G c := by
  obtain ⟨mv, dv, lv, hx⟩ := h
  obtain ⟨g, c, rfl, ho⟩ := hx.mem
  obtain ⟨G, cd, hv⟩ := own_slice' hx.done
  subst hv
  exact ⟨g, c, G, cd, hx.tab.lt, hx.tab.cell 0, hx.tab.cell 26, hx.tab.cell 27, own_sl ho rfl, DnAt.of_own hx.done⟩
end Go.Proofs.Ytdjglkpcdhkodaa
