/- How a play lies in memory: its wishes and turns, the seats with their logs, the steps. -/
import Derived.Test.YtcjaomiihajjbaaPlayM
import Derived.Test.YtcjaomiihajjbaaPlayC
namespace Go.Proofs.Ytcjaomiihajjbaa
open Go.RowKit

/-- Every block of another type than t0 is as it was. -/
def KeptT (t0 : TypeId) (w w' : World) : Prop := ∀ (g : Nat) (cs : Array Value) (t : TypeId) (fr : Nat × Nat), w.heap[g]? = some (.cells cs t fr) → t ≠ t0 → w'.heap[g]? = some (.cells cs t fr)
section
variable {w w' : World} {t0 : TypeId}
theorem keptT_set {b : Nat} {cs : Array Value} (k : Bk w b t0 cs) (i : Nat) (u : Value) : KeptT t0 w (w.setCell ⟨b, i, none⟩ u) := by
  intro g cs' t fr h ht
  have hne : g ≠ b := by
    rintro rfl
    rw [Bk, h] at k
    injection k with k
    injection k with _ k _
    exact ht k
  rw [Below.heap_setCell w ⟨b, i, none⟩ u g hne]
  exact h
theorem keptT_grown {base sz n : Nat} {v : Value} {xs : List Value} (h : w.ownsRow base t0 sz v n xs) (hg : w.grownBy w' v.ownBlock) : KeptT t0 w w' := by
  intro g cs' t fr hc ht
  have hlt : g < w.heap.size := (Array.getElem?_eq_some_iff.1 hc).1
  rw [hg.block g hlt ?_]
  · exact hc
  · rcases h.2 with ⟨rfl, _⟩ | ⟨g', cap, cur, rfl, _, h2, _⟩
    · simp [Value.ownBlock]
    · simp only [Value.ownBlock]
      intro e
      injection e with e
      subst e
      rw [hc] at h2
      injection h2 with h2
      injection h2 with _ h2 _
      exact ht h2
theorem keptT_below (hb : Below w.heap.size w w') : KeptT t0 w w' := by
  intro g cs t fr hc _
  rw [hb.block g (Array.getElem?_eq_some_iff.1 hc).1]
  exact hc
theorem KeptT.trans {w2 : World} (h : KeptT t0 w w') (h' : KeptT t0 w' w2) : KeptT t0 w w2 := fun g cs t fr hc ht => h' g cs t fr (h g cs t fr hc ht) ht
theorem Bk.keptT {g : Nat} {t : TypeId} {cs : Array Value} (k : Bk w g t cs) (h : KeptT t0 w w') (ne : t ≠ t0) : Bk w' g t cs := h g cs t (0, 0) k ne
theorem own_keptT {base sz n : Nat} {e : TypeId} {v : Value} {xs : List Value} (h : w.ownsRow base e sz v n xs) (hk : KeptT t0 w w') (ne : e ≠ t0) : w'.ownsRow base e sz v n xs := by
  rcases h.2 with h1 | ⟨g, cap, cur, h1, h2, h3, h4⟩
  · exact ⟨h.1, .inl h1⟩
  · exact ⟨h.1, .inr ⟨g, cap, cur, h1, h2, hk g cur e (0, 0) h3 ne, h4⟩⟩
end

/-- The seats' row: where each one is, and its log. -/
structure SeatsAt (w : World) (gs : Nat) (ss : List (Nat × List (Int × Bool))) (cs : Array Value) : Prop where
  row : Bk w gs 63 cs
  size : cs.size = ss.length * 2
  at_ : ∀ k x, ss[k]? = some x → ∃ G cap, cs[k * 2]? = some (.int .i64 (x.1 : Nat)) ∧ cs[k * 2 + 1]? = some (.slice G x.2.length cap) ∧ OwnRes w 0 (.slice G x.2.length cap) x.2
section
variable {w w' : World} {gs : Nat} {ss : List (Nat × List (Int × Bool))} {cs : Array Value}
theorem SeatsAt.keep (h : SeatsAt w gs ss cs) (hb : Below w.heap.size w w') : SeatsAt w' gs ss cs :=
  ⟨h.row.keep hb, h.size, fun k x hx => by
    obtain ⟨G, cap, h1, h2, h3⟩ := h.at_ k x hx
    exact ⟨G, cap, h1, h2, own_keepb h3 hb⟩⟩
theorem SeatsAt.keptT {t0 : TypeId} (h : SeatsAt w gs ss cs) (hk : KeptT t0 w w') (n1 : 63 ≠ t0) (n2 : 46 ≠ t0) : SeatsAt w' gs ss cs :=
  ⟨h.row.keptT hk n1, h.size, fun k x hx => by
    obtain ⟨G, cap, h1, h2, h3⟩ := h.at_ k x hx
    exact ⟨G, cap, h1, h2, own_keptT h3 hk n2⟩⟩
theorem SeatsAt.set (h : SeatsAt w gs ss cs) {who a : Nat} {log : List (Int × Bool)} {G : Option Addr} {cap : Nat} (hw : who < ss.length) (ho : OwnRes w 0 (.slice G log.length cap) log) :
    SeatsAt ((w.setCell ⟨gs, who * 2, none⟩ (.int .i64 a)).setCell ⟨gs, who * 2 + 1, none⟩ (.slice G log.length cap)) gs (ss.set who (a, log)) ((cs.setIfInBounds (who * 2) (.int .i64 a)).setIfInBounds (who * 2 + 1) (.slice G log.length cap)) := by
  have hs := h.size
  have k1 := h.row.stored (who * 2) (.int .i64 (a : Nat))
  have hk : KeptT 63 w ((w.setCell ⟨gs, who * 2, none⟩ (.int .i64 a)).setCell ⟨gs, who * 2 + 1, none⟩ (.slice G log.length cap)) := (keptT_set h.row _ _).trans (keptT_set k1 _ _)
  refine ⟨k1.stored _ _, by simp [h.size], fun k x hx => ?_⟩
  by_cases e : k = who
  · subst e
    rw [List.getElem?_set_self hw] at hx
    injection hx with hx
    subst hx
    refine ⟨G, cap, ?_, ?_, own_keptT ho hk (by decide)⟩
    · rw [Array.getElem?_setIfInBounds_ne (by omega), Array.getElem?_setIfInBounds_self_of_lt (by omega)]
    · rw [Array.getElem?_setIfInBounds_self_of_lt (by simp; omega)]
  · rw [List.getElem?_set_ne (by omega)] at hx
    obtain ⟨G', cap', h1, h2, h3⟩ := h.at_ k x hx
    refine ⟨G', cap', ?_, ?_, own_keptT h3 hk (by decide)⟩
    · rw [Array.getElem?_setIfInBounds_ne (by omega), Array.getElem?_setIfInBounds_ne (by omega)]; exact h1
    · rw [Array.getElem?_setIfInBounds_ne (by omega), Array.getElem?_setIfInBounds_ne (by omega)]; exact h2
end
theorem seat_info : (Try.prog.info? 63).map (fun i => (i.zero, i.size, i.bytes)) = some (some (.agg #[.int .i64 0, .slice none 0 0]), 2, 32) := by kernel_rfl
def seatZ (n : Nat) : Array Value := madeCells #[.int .i64 0, .slice none 0 0] (n * 2)
theorem run_make_seats (w : World) (N : Nat) (h : N ≤ 1000000) :
    (Instr.makeSlice 60 (.int .i64 N) (.int .i64 N)).run Try.prog w = .ok (.slice (some ⟨w.heap.size, 0, none⟩) N N) (w.alloc (.cells (seatZ N) 63)) :=
  run_make_row Try.underlying60 seat_info w N h (by omega)
theorem seats_made {w : World} {g n : Nat} (k : Bk w g 63 (seatZ n)) : SeatsAt w g (List.replicate n (0, [])) (seatZ n) := by
  refine ⟨k, by simp [seatZ, size_madeCells], fun i x hx => ?_⟩
  rw [List.getElem?_replicate] at hx
  split at hx
  · injection hx with hx
    subst hx
    rename_i hi
    refine ⟨none, 0, ?_, ?_, World.ownsRow_nil _ _ _ _⟩
    · simp [seatZ, madeCells, show i * 2 < n * 2 by omega]
    · simp [seatZ, madeCells, show i * 2 + 1 < n * 2 by omega, Nat.add_mod]
  · cases hx

theorem resCells_length (l : List (Int × Bool)) : (resCells l).length = l.length * 2 := by
  induction l with
  | nil => rfl
  | cons a l ih =>
    have : resCells (a :: l) = [.int .i64 a.1, .bool a.2] ++ resCells l := rfl
    rw [this, List.length_append, ih]
    simp
    omega
theorem resCells_get (l : List (Int × Bool)) : ∀ (k : Nat) (r : Int × Bool), l[k]? = some r → (resCells l)[k * 2]? = some (.int .i64 r.1) ∧ (resCells l)[k * 2 + 1]? = some (.bool r.2) := by
  induction l with
  | nil => intro k r h; simp at h
  | cons a l ih =>
    intro k r h
    have e : resCells (a :: l) = [.int .i64 a.1, .bool a.2] ++ resCells l := rfl
    rw [e]
    cases k with
    | zero =>
      simp only [List.getElem?_cons_zero, Option.some.injEq] at h
      subst h
      simp
    | succ k =>
      simp only [List.getElem?_cons_succ] at h
      obtain ⟨h1, h2⟩ := ih k r h
      rw [List.getElem?_append_right (by simp; omega), List.getElem?_append_right (by simp; omega)]
      refine ⟨?_, ?_⟩
      · rw [← h1]; congr 1; simp; omega
      · rw [← h2]; congr 1; simp; omega
theorem slRes_of_own {w : World} {base : Nat} {G : Option Addr} {cap : Nat} {log : List (Int × Bool)} (h : OwnRes w base (.slice G log.length cap) log) : SlRes w w.heap.size G log := by
  intro hl
  obtain ⟨g, cap', he, _, hg⟩ := World.ownsRow.form h hl
  injection he with he _ _
  subst he
  refine ⟨g, 0, rfl, hg, fun k r hk => ?_⟩
  obtain ⟨h1, h2⟩ := resCells_get log k r hk
  have hkl := (List.getElem?_eq_some_iff.1 hk).1
  simp only [Nat.zero_add]
  exact ⟨by rw [World.ownsRow.cellAt h (k * 2) (by omega)]; exact h1, by rw [World.ownsRow.cellAt h (k * 2 + 1) (by omega)]; exact h2⟩

/-- A slice of operations. -/
def SlOps (w : World) (B : Nat) (A : Option Addr) (l : List Opr) : Prop :=
  0 < l.length → ∃ b o, A = some ⟨b, o, none⟩ ∧ b < B ∧ ∀ k op, l[k]? = some op → w.cell? ⟨b, o + k * 4, none⟩ = some (.int .i64 op.kind) ∧ w.cell? ⟨b, o + k * 4 + 1, none⟩ = some (.int .i64 op.obj) ∧ w.cell? ⟨b, o + k * 4 + 2, none⟩ = some (.int .i64 op.a) ∧ w.cell? ⟨b, o + k * 4 + 3, none⟩ = some (.int .i64 op.b)
theorem SlOps.below {w w' : World} {B : Nat} {A : Option Addr} {l : List Opr} (h : SlOps w B A l) (hb : Below B w w') : SlOps w' B A l := by
  intro hl
  obtain ⟨b, o, e, hbb, hc⟩ := h hl
  refine ⟨b, o, e, hbb, fun k a ha => ?_⟩
  obtain ⟨h1, h2, h3, h4⟩ := hc k a ha
  exact ⟨(hb.cell (p := ⟨b, _, none⟩) hbb).trans h1, (hb.cell (p := ⟨b, _, none⟩) hbb).trans h2, (hb.cell (p := ⟨b, _, none⟩) hbb).trans h3, (hb.cell (p := ⟨b, _, none⟩) hbb).trans h4⟩
theorem SlOps.more {w : World} {B B' : Nat} {A : Option Addr} {l : List Opr} (h : SlOps w B A l) (hB : B ≤ B') : SlOps w B' A l := by
  intro hl
  obtain ⟨b, o, e, hbb, hc⟩ := h hl
  exact ⟨b, o, e, Nat.lt_of_lt_of_le hbb hB, hc⟩
/-- A slice of slices of operations. -/
def SlWant (w : World) (B : Nat) (A : Option Addr) (l : List (List Opr)) : Prop :=
  0 < l.length → ∃ b o, A = some ⟨b, o, none⟩ ∧ b < B ∧ ∀ k ops, l[k]? = some ops → ∃ A' c, w.cell? ⟨b, o + k, none⟩ = some (.slice A' ops.length c) ∧ SlOps w B A' ops
theorem SlWant.below {w w' : World} {B : Nat} {A : Option Addr} {l : List (List Opr)} (h : SlWant w B A l) (hb : Below B w w') : SlWant w' B A l := by
  intro hl
  obtain ⟨b, o, e, hbb, hc⟩ := h hl
  refine ⟨b, o, e, hbb, fun k a ha => ?_⟩
  obtain ⟨A', c, h1, h2⟩ := hc k a ha
  exact ⟨A', c, (hb.cell (p := ⟨b, _, none⟩) hbb).trans h1, h2.below hb⟩
theorem SlWant.more {w : World} {B B' : Nat} {A : Option Addr} {l : List (List Opr)} (h : SlWant w B A l) (hB : B ≤ B') : SlWant w B' A l := by
  intro hl
  obtain ⟨b, o, e, hbb, hc⟩ := h hl
  refine ⟨b, o, e, Nat.lt_of_lt_of_le hbb hB, fun k a ha => ?_⟩
  obtain ⟨A', c, h1, h2⟩ := hc k a ha
  exact ⟨A', c, h1, h2.more hB⟩
/-- A slice of bytes. -/
def SlU8 (w : World) (B : Nat) (A : Option Addr) (l : List Nat) : Prop :=
  0 < l.length → ∃ b o, A = some ⟨b, o, none⟩ ∧ b < B ∧ ∀ k t, l[k]? = some t → w.cell? ⟨b, o + k, none⟩ = some (.int .u8 (t : Nat)) ∧ t < 256
theorem SlU8.below {w w' : World} {B : Nat} {A : Option Addr} {l : List Nat} (h : SlU8 w B A l) (hb : Below B w w') : SlU8 w' B A l := by
  intro hl
  obtain ⟨b, o, e, hbb, hc⟩ := h hl
  refine ⟨b, o, e, hbb, fun k a ha => ?_⟩
  obtain ⟨h1, h2⟩ := hc k a ha
  exact ⟨(hb.cell (p := ⟨b, _, none⟩) hbb).trans h1, h2⟩
theorem SlU8.more {w : World} {B B' : Nat} {A : Option Addr} {l : List Nat} (h : SlU8 w B A l) (hB : B ≤ B') : SlU8 w B' A l := by
  intro hl
  obtain ⟨b, o, e, hbb, hc⟩ := h hl
  exact ⟨b, o, e, Nat.lt_of_lt_of_le hbb hB, hc⟩
end Go.Proofs.Ytcjaomiihajjbaa
