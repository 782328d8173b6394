/- A play of law18 in plain words, and how its table lies in memory. -/
import Derived.Test.YtdjglkpcdhkodaaDqN
import Derived.Test.YtdjglkpcdhkodaaMemS
import Derived.Test.YtdjglkpcdhkodaaDag
import Derived.Laws.OwnMore
namespace Go.Proofs.Ytdjglkpcdhkodaa
open Go.RowKit
set_option linter.unusedVariables false

structure SeatD where
  op : Opr
  log : Log
  first : Nat
  last : Nat
  next : Nat
structure DoneD where
  who : Nat
  op : Opr
  first : Nat
  last : Nat
  val : Int
  is : Bool
  err : Int
  pt : Int
structure TabD where
  m : List Int
  step : Nat
  seat : Nat → SeatD
  done : List DoneD
  bad : Bool
abbrev op0 : Opr := ⟨0, 0, 0, 0⟩
def upS (f : Nat → SeatD) (who : Nat) (s : SeatD) : Nat → SeatD := fun k => if k = who then s else f k
theorem upS_same (f : Nat → SeatD) (who : Nat) (s : SeatD) : upS f who s who = s := if_pos rfl
theorem upS_other (f : Nat → SeatD) {who k : Nat} (s : SeatD) (h : k ≠ who) : upS f who s k = f k := if_neg h
theorem upS_up (f : Nat → SeatD) (who : Nat) (s s' : SeatD) : upS (upS f who s) who s' = upS f who s' := by
  funext k
  simp only [upS]
  split <;> rfl
theorem upS_id (f : Nat → SeatD) (who : Nat) : upS f who (f who) = f := by
  funext k
  simp only [upS]
  split
  · rename_i h; rw [h]
  · rfl
/-- What is played: the owner's wishes, how often the two others steal. -/
structure PlayD where
  own : List Nat
  s1 : Nat
  s2 : Nat
def wishD (p : PlayD) (who n : Nat) : Opr :=
  if 0 < who then (if n < (if who = 1 then p.s1 else p.s2) % 7 then ⟨10, 0, 0, 0⟩ else op0) else match p.own[n]? with
    | none => op0
    | some x => if x % 3 = 2 then ⟨9, 0, 0, 0⟩ else ⟨8, 0, n + 1, 0⟩
/-- A seat that wants. -/
def wakeD (p : PlayD) (who step : Nat) (s : SeatD) : SeatD :=
  if s.op.kind = 0 then (if (wishD p who s.next).kind = 0 then { s with op := wishD p who s.next } else ⟨wishD p who s.next, [], step, step, s.next + 1⟩) else s
/-- A seat's turn. -/
def turnD (l : Ly) (p : PlayD) (who : Nat) (t : TabD) : TabD :=
  let s := wakeD p who t.step (t.seat who)
  if s.op.kind = 0 then { t with seat := upS t.seat who s } else
    match nextD l s.op s.log with
    | .out val is err pt => { t with seat := upS t.seat who { s with op := op0 }, done := t.done ++ [⟨who, s.op, s.first, s.last, val, is, err, pt⟩] }
    | .ask k c o v => { t with m := (⟨k, c, o, v⟩ : Acc).make t.m, step := t.step + 1, seat := upS t.seat who { s with log := s.log ++ [((⟨k, c, o, v⟩ : Acc).had t.m, (⟨k, c, o, v⟩ : Acc).ok ((⟨k, c, o, v⟩ : Acc).had t.m))], last := t.step } }

/-! The table in memory. -/
def resCells (l : Log) : List Value := l.flatMap fun r => [.int .i64 r.1, .bool r.2]
def OwnRes (w : World) (base : Nat) (v : Value) (l : Log) : Prop := w.ownsRow base 76 2 v l.length (resCells l)
def doneC (d : DoneD) : Array Value := #[.int .i64 (d.who : Nat), .int .i64 d.op.kind, .int .i64 d.op.obj, .int .i64 d.op.a, .int .i64 d.op.b, .int .i64 (d.first : Nat), .int .i64 (d.last : Nat), .int .i64 d.val, .bool d.is, .int .i64 d.err, .int .i64 d.pt, .slice none 0 0]
def donesC (l : List DoneD) : List Value := l.flatMap fun d => (doneC d).toList
def OwnDone (w : World) (base : Nat) (v : Value) (l : List DoneD) : Prop := w.ownsRow base 52 12 v l.length (donesC l)
theorem res_info : (Try.prog.info? 76).map (fun i => (i.zero, i.size, i.bytes)) = some (some (.agg #[.int .i64 0, .bool false]), 2, 16) := by kernel_rfl
theorem res_rowT : ∃ i, RowT Try.prog 41 76 i (.agg #[.int .i64 0, .bool false]) 2 16 := RowT.of Try.underlying41 res_info (by kernel_rfl) (by decide)
theorem resCells_get (l : Log) : ∀ (k : Nat) (r : Int × Bool), l[k]? = some r → (resCells l)[k * 2]? = some (.int .i64 r.1) ∧ (resCells l)[k * 2 + 1]? = some (.bool r.2) := by
  induction l with
  | nil => intro k r h; simp at h
  | cons a l ih =>
    intro k r h
    have e : resCells (a :: l) = [.int .i64 a.1, .bool a.2] ++ resCells l := rfl
    cases k with
    | zero => simp at h; subst h; simp [e]
    | succ k =>
      obtain ⟨h1, h2⟩ := ih k r (by simpa using h)
      rw [e, show (k + 1) * 2 = 2 + k * 2 by omega]
      refine ⟨?_, ?_⟩
      · rw [List.getElem?_append_right (by simp)]; simpa using h1
      · rw [show 2 + k * 2 + 1 = 2 + (k * 2 + 1) by omega, List.getElem?_append_right (by simp)]; simpa using h2
theorem resCells_one (l : Log) : ∀ v ∈ resCells l, v.oneCell' = true := by
  intro v hv
  simp only [resCells, List.mem_flatMap] at hv
  obtain ⟨r, _, hr⟩ := hv
  simp at hr
  rcases hr with rfl | rfl <;> rfl
theorem resCells_snoc (l : Log) (r : Int × Bool) : resCells (l ++ [r]) = resCells l ++ [.int .i64 r.1, .bool r.2] := by simp [resCells]
theorem donesC_snoc (l : List DoneD) (d : DoneD) : donesC (l ++ [d]) = donesC l ++ (doneC d).toList := by simp [donesC]
theorem own_slRes {w : World} {base cap : Nat} {G : Option Addr} {log : Log} (h : OwnRes w base (.slice G log.length cap) log) : SlRes w w.heap.size G log := by
  intro hl
  obtain ⟨hl1, hs⟩ := Src.own h (Nat.le_refl w.heap.size)
  rcases hs with ⟨_, h0, _⟩ | ⟨g, of, rfl, hg, hc⟩
  · omega
  · refine ⟨g, of, rfl, hg, fun k r hk => ?_⟩
    obtain ⟨h1, h2⟩ := resCells_get log k r hk
    have q1 := hc _ _ h1
    have q2 := hc _ _ h2
    first
      | exact ⟨q1, q2⟩
      | (rw [Go.WideShapes.add_plain] at q1 q2; exact ⟨q1, q2⟩)

/-- Every block of another type than t0 is as it was. -/
def KeptT (t0 : TypeId) (w w' : World) : Prop := ∀ (g : Nat) (cs : Array Value) (t : TypeId) (fr : Nat × Nat), w.heap[g]? = some (.cells cs t fr) → t ≠ t0 → w'.heap[g]? = some (.cells cs t fr)
section
variable {w w' : World} {t0 : TypeId}
theorem keptT_set {b : Nat} {cs : Array Value} (k : Bk w b t0 cs) (i : Nat) (u : Value) : KeptT t0 w (w.setCell ⟨b, i, none⟩ u) := by
  intro g cs' t fr h ht
  have hne : g ≠ b := by
    rintro rfl
    rw [Bk, h] at k
    injection k with k
    injection k with _ k _
    exact ht k
  rw [Below.heap_setCell w ⟨b, i, none⟩ u g hne]
  exact h
theorem keptT_row {b : Nat} {cs cs' : Array Value} (k : Bk w b t0 cs) : KeptT t0 w (w.setRow b cs') := by
  intro g c t fr h ht
  have hne : g ≠ b := by
    rintro rfl
    rw [Bk, h] at k
    injection k with k
    injection k with _ k _
    exact ht k
  rw [setRow_other _ _ _ _ hne]
  exact h
theorem keptT_grown {base sz n : Nat} {v : Value} {xs : List Value} (h : w.ownsRow base t0 sz v n xs) (hg : w.grownBy w' v.ownBlock) : KeptT t0 w w' := by
  intro g cs' t fr hc ht
  have hlt : g < w.heap.size := (Array.getElem?_eq_some_iff.1 hc).1
  rw [hg.block g hlt ?_]
  · exact hc
  · rcases h.2 with ⟨rfl, _⟩ | ⟨g', cap, cur, rfl, _, h2, _⟩
    · simp [Value.ownBlock]
    · simp only [Value.ownBlock]
      intro e
      injection e with e
      subst e
      rw [hc] at h2
      injection h2 with h2
      injection h2 with _ h2 _
      exact ht h2
theorem keptT_below (hb : Below w.heap.size w w') : KeptT t0 w w' := by
  intro g cs t fr hc _
  rw [hb.block g (Array.getElem?_eq_some_iff.1 hc).1]
  exact hc
theorem KeptT.trans {w2 : World} (h : KeptT t0 w w') (h' : KeptT t0 w' w2) : KeptT t0 w w2 := fun g cs t fr hc ht => h' g cs t fr (h g cs t fr hc ht) ht
theorem Bk.keptT {g : Nat} {t : TypeId} {cs : Array Value} (k : Bk w g t cs) (h : KeptT t0 w w') (ne : t ≠ t0) : Bk w' g t cs := h g cs t (0, 0) k ne
theorem own_keptT {base sz n : Nat} {e : TypeId} {v : Value} {xs : List Value} (h : w.ownsRow base e sz v n xs) (hk : KeptT t0 w w') (ne : e ≠ t0) : w'.ownsRow base e sz v n xs := by
  rcases h.2 with h1 | ⟨g, cap, cur, h1, h2, h3, h4⟩
  · exact ⟨h.1, .inl h1⟩
  · exact ⟨h.1, .inr ⟨g, cap, cur, h1, h2, hk g cur e (0, 0) h3 ne, h4⟩⟩
theorem own_keepb' {base sz n : Nat} {e : TypeId} {v : Value} {xs : List Value} (h : w.ownsRow base e sz v n xs) (hb : Below w.heap.size w w') : w'.ownsRow base e sz v n xs := by
  rcases h.2 with h1 | ⟨g, cap, cur, h1, h2, h3, h4⟩
  · exact ⟨h.1, .inl h1⟩
  · exact ⟨h.1, .inr ⟨g, cap, cur, h1, h2, (hb.block g (Array.getElem?_eq_some_iff.1 h3).1).trans h3, h4⟩⟩
theorem own_low' {base base' n : Nat} {e : TypeId} {sz : Nat} {v : Value} {xs : List Value} (h : w.ownsRow base e sz v n xs) (hB : base' ≤ base) : w.ownsRow base' e sz v n xs := by
  rcases h.2 with h0 | ⟨g, cap, cur, h1, h2, h3⟩
  · exact ⟨h.1, .inl h0⟩
  · exact ⟨h.1, .inr ⟨g, cap, cur, h1, Nat.le_trans hB h2, h3⟩⟩
end
theorem bk_ne {w : World} {a b : Nat} {t1 t2 : TypeId} {c1 c2 : Array Value} (h1 : Bk w a t1 c1) (h2 : Bk w b t2 c2) (hne : t1 ≠ t2) : a ≠ b := by
  rintro rfl
  rw [Bk, h2] at h1
  injection h1 with h1
  injection h1 with _ h1 _
  exact hne h1.symm

abbrev tabC (mv : Value) (lv : Nat → Value) (dv : Value) (t : TabD) : Array Value := #[mv, .int .i64 (t.step : Nat),
  .int .i64 (t.seat 0).op.kind, .int .i64 (t.seat 0).op.obj, .int .i64 (t.seat 0).op.a, .int .i64 (t.seat 0).op.b,
  .int .i64 (t.seat 1).op.kind, .int .i64 (t.seat 1).op.obj, .int .i64 (t.seat 1).op.a, .int .i64 (t.seat 1).op.b,
  .int .i64 (t.seat 2).op.kind, .int .i64 (t.seat 2).op.obj, .int .i64 (t.seat 2).op.a, .int .i64 (t.seat 2).op.b,
  lv 0, lv 1, lv 2, .int .i64 ((t.seat 0).first : Nat), .int .i64 ((t.seat 1).first : Nat), .int .i64 ((t.seat 2).first : Nat),
  .int .i64 ((t.seat 0).last : Nat), .int .i64 ((t.seat 1).last : Nat), .int .i64 ((t.seat 2).last : Nat),
  .int .i64 ((t.seat 0).next : Nat), .int .i64 ((t.seat 1).next : Nat), .int .i64 ((t.seat 2).next : Nat), dv, .bool t.bad]
section
variable {mv dv : Value} {lv : Nat → Value} {t : TabD} {who : Nat}
theorem tab_at (h : who < 3) : (tabC mv lv dv t)[2 + who * 4]? = some (.int .i64 (t.seat who).op.kind) ∧ (tabC mv lv dv t)[2 + who * 4 + 1]? = some (.int .i64 (t.seat who).op.obj) ∧ (tabC mv lv dv t)[2 + who * 4 + 2]? = some (.int .i64 (t.seat who).op.a) ∧ (tabC mv lv dv t)[2 + who * 4 + 3]? = some (.int .i64 (t.seat who).op.b)
    ∧ (tabC mv lv dv t)[14 + who]? = some (lv who) ∧ (tabC mv lv dv t)[17 + who]? = some (.int .i64 ((t.seat who).first : Nat)) ∧ (tabC mv lv dv t)[20 + who]? = some (.int .i64 ((t.seat who).last : Nat)) ∧ (tabC mv lv dv t)[23 + who]? = some (.int .i64 ((t.seat who).next : Nat)) := by
  have h : who = 0 ∨ who = 1 ∨ who = 2 := by omega
  rcases h with rfl | rfl | rfl <;> exact ⟨rfl, rfl, rfl, rfl, rfl, rfl, rfl, rfl⟩
theorem tab_op (h : who < 3) (op : Opr) : ((((tabC mv lv dv t).setIfInBounds (2 + who * 4) (.int .i64 op.kind)).setIfInBounds (2 + who * 4 + 1) (.int .i64 op.obj)).setIfInBounds (2 + who * 4 + 2) (.int .i64 op.a)).setIfInBounds (2 + who * 4 + 3) (.int .i64 op.b) = tabC mv lv dv { t with seat := upS t.seat who { t.seat who with op := op } } := by
  have h : who = 0 ∨ who = 1 ∨ who = 2 := by omega
  rcases h with rfl | rfl | rfl <;> rfl
def upV (f : Nat → Value) (who : Nat) (v : Value) : Nat → Value := fun k => if k = who then v else f k
theorem tab_log (h : who < 3) (v : Value) (log : Log) : (tabC mv lv dv t).setIfInBounds (14 + who) v = tabC mv (upV lv who v) dv { t with seat := upS t.seat who { t.seat who with log := log } } := by
  have h : who = 0 ∨ who = 1 ∨ who = 2 := by omega
  rcases h with rfl | rfl | rfl <;> rfl
theorem tab_first (h : who < 3) (z : Nat) : (tabC mv lv dv t).setIfInBounds (17 + who) (.int .i64 (z : Nat)) = tabC mv lv dv { t with seat := upS t.seat who { t.seat who with first := z } } := by
  have h : who = 0 ∨ who = 1 ∨ who = 2 := by omega
  rcases h with rfl | rfl | rfl <;> rfl
theorem tab_last (h : who < 3) (z : Nat) : (tabC mv lv dv t).setIfInBounds (20 + who) (.int .i64 (z : Nat)) = tabC mv lv dv { t with seat := upS t.seat who { t.seat who with last := z } } := by
  have h : who = 0 ∨ who = 1 ∨ who = 2 := by omega
  rcases h with rfl | rfl | rfl <;> rfl
theorem tab_next (h : who < 3) (z : Nat) : (tabC mv lv dv t).setIfInBounds (23 + who) (.int .i64 (z : Nat)) = tabC mv lv dv { t with seat := upS t.seat who { t.seat who with next := z } } := by
  have h : who = 0 ∨ who = 1 ∨ who = 2 := by omega
  rcases h with rfl | rfl | rfl <;> rfl
end
/-- The table lies at block gt. -/
structure TabX (w : World) (B gt : Nat) (mv dv : Value) (lv : Nat → Value) (t : TabD) : Prop where
  base : B ≤ gt
  tab : Bk w gt 46 (tabC mv lv dv t)
  mem : ∃ g c, mv = .slice (some ⟨g, 0, none⟩) t.m.length c ∧ OwnInts w 0 mv t.m
  logs : ∀ k, k < 3 → ∃ G c, lv k = .slice G (t.seat k).log.length c ∧ OwnRes w 0 (lv k) (t.seat k).log
  done : OwnDone w B dv t.done
def TRep (w : World) (B gt : Nat) (t : TabD) : Prop := ∃ mv dv lv, TabX w B gt mv dv lv t
section
variable {w w' : World} {B gt : Nat} {mv dv : Value} {lv : Nat → Value} {t : TabD} {who : Nat}
theorem TabX.keep (h : TabX w B gt mv dv lv t) (hb : Below w.heap.size w w') : TabX w' B gt mv dv lv t := by
  obtain ⟨g, c, e, ho⟩ := h.mem
  exact ⟨h.base, h.tab.keep hb, ⟨g, c, e, own_keepb' ho hb⟩, fun k hk => by obtain ⟨G, c, e, ho⟩ := h.logs k hk; exact ⟨G, c, e, own_keepb' ho hb⟩, own_keepb' h.done hb⟩
theorem TRep.keep (h : TRep w B gt t) (hb : Below w.heap.size w w') : TRep w' B gt t := by
  obtain ⟨mv, dv, lv, h⟩ := h
  exact ⟨mv, dv, lv, h.keep hb⟩
theorem TRep.lt (h : TRep w B gt t) : gt < w.heap.size := by
  obtain ⟨mv, dv, lv, h⟩ := h
  exact h.tab.lt
theorem TabX.keptT {t0 : TypeId} (h : TabX w B gt mv dv lv t) (hk : KeptT t0 w w') (n1 : 46 ≠ t0) (n2 : 3 ≠ t0) (n3 : 76 ≠ t0) (n4 : 52 ≠ t0) : TabX w' B gt mv dv lv t := by
  obtain ⟨g, c, e, ho⟩ := h.mem
  exact ⟨h.base, h.tab.keptT hk n1, ⟨g, c, e, own_keptT ho hk n2⟩, fun k hk' => by obtain ⟨G, c, e, ho⟩ := h.logs k hk'; exact ⟨G, c, e, own_keptT ho hk n3⟩, own_keptT h.done hk n4⟩
/-- A table turned, in whatever of its own cells: what it points to is as it was. -/
theorem TabX.turned {t' : TabD} (h : TabX w B gt mv dv lv t) (hk : KeptT 46 w w') (k : Bk w' gt 46 (tabC mv lv dv t')) (hm : t'.m = t.m) (hl : ∀ k, (t'.seat k).log = (t.seat k).log) (hd : t'.done = t.done) : TabX w' B gt mv dv lv t' := by
  obtain ⟨g, c, e, ho⟩ := h.mem
  refine ⟨h.base, k, ⟨g, c, by rw [hm]; exact e, by rw [hm]; exact own_keptT ho hk (by decide)⟩, fun k hk' => ?_, by rw [hd]; exact own_keptT h.done hk (by decide)⟩
  obtain ⟨G, c, e, ho⟩ := h.logs k hk'
  exact ⟨G, c, by rw [hl]; exact e, by rw [hl]; exact own_keptT ho hk (by decide)⟩
theorem upS_log {f : Nat → SeatD} {s : SeatD} (h : s.log = (f who).log) : ∀ k, ((upS f who s) k).log = (f k).log := by
  intro k
  simp only [upS]
  split
  · rename_i e; rw [e]; exact h
  · rfl
/-- The world behind the store of a whole operation. -/
abbrev setOpW (w : World) (gt who : Nat) (op : Opr) : World := (((w.setCell ⟨gt, 2 + who * 4, none⟩ (.int .i64 op.kind)).setCell ⟨gt, 2 + who * 4 + 1, none⟩ (.int .i64 op.obj)).setCell ⟨gt, 2 + who * 4 + 2, none⟩ (.int .i64 op.a)).setCell ⟨gt, 2 + who * 4 + 3, none⟩ (.int .i64 op.b)
theorem setOp_kept {cs : Array Value} (k : Bk w gt 46 cs) (op : Opr) : KeptT 46 w (setOpW w gt who op) :=
  (((keptT_set k _ _).trans (keptT_set (k.stored _ _) _ _)).trans (keptT_set ((k.stored _ _).stored _ _) _ _)).trans (keptT_set (((k.stored _ _).stored _ _).stored _ _) _ _)
theorem TabX.op (h : TabX w B gt mv dv lv t) (hw : who < 3) (op : Opr) : TabX (setOpW w gt who op) B gt mv dv lv { t with seat := upS t.seat who { t.seat who with op := op } } :=
  h.turned (setOp_kept h.tab op) (by
    rw [← tab_op (t := t) hw op]
    exact (((h.tab.stored _ _).stored _ _).stored _ _).stored _ _) rfl (upS_log rfl) rfl
theorem TabX.first (h : TabX w B gt mv dv lv t) (hw : who < 3) (z : Nat) : TabX (w.setCell ⟨gt, 17 + who, none⟩ (.int .i64 (z : Nat))) B gt mv dv lv { t with seat := upS t.seat who { t.seat who with first := z } } :=
  h.turned (keptT_set h.tab _ _) (by rw [← tab_first (t := t) hw z]; exact h.tab.stored _ _) rfl (upS_log rfl) rfl
theorem TabX.last (h : TabX w B gt mv dv lv t) (hw : who < 3) (z : Nat) : TabX (w.setCell ⟨gt, 20 + who, none⟩ (.int .i64 (z : Nat))) B gt mv dv lv { t with seat := upS t.seat who { t.seat who with last := z } } :=
  h.turned (keptT_set h.tab _ _) (by rw [← tab_last (t := t) hw z]; exact h.tab.stored _ _) rfl (upS_log rfl) rfl
theorem TabX.next (h : TabX w B gt mv dv lv t) (hw : who < 3) (z : Nat) : TabX (w.setCell ⟨gt, 23 + who, none⟩ (.int .i64 (z : Nat))) B gt mv dv lv { t with seat := upS t.seat who { t.seat who with next := z } } :=
  h.turned (keptT_set h.tab _ _) (by rw [← tab_next (t := t) hw z]; exact h.tab.stored _ _) rfl (upS_log rfl) rfl
theorem TabX.step (h : TabX w B gt mv dv lv t) (z : Nat) : TabX (w.setCell ⟨gt, 1, none⟩ (.int .i64 (z : Nat))) B gt mv dv lv { t with step := z } :=
  h.turned (keptT_set h.tab _ _) (h.tab.stored 1 (.int .i64 (z : Nat))) rfl (fun _ => rfl) rfl
theorem TabX.log (h : TabX w B gt mv dv lv t) (hw : who < 3) {G : Option Addr} {c : Nat} (log : Log) (ho : OwnRes w 0 (.slice G log.length c) log) : TabX (w.setCell ⟨gt, 14 + who, none⟩ (.slice G log.length c)) B gt mv dv (upV lv who (.slice G log.length c)) { t with seat := upS t.seat who { t.seat who with log := log } } := by
  have hk := keptT_set h.tab (14 + who) (.slice G log.length c)
  obtain ⟨g, c', e, hm⟩ := h.mem
  refine ⟨h.base, by rw [← tab_log (t := t) hw _ log]; exact h.tab.stored _ _, ⟨g, c', e, own_keptT hm hk (by decide)⟩, fun k hk' => ?_, own_keptT h.done hk (by decide)⟩
  by_cases ek : k = who
  · subst ek
    refine ⟨G, c, ?_, ?_⟩
    · simp [upV, upS]
    · simp only [upV, upS, if_pos]
      exact own_keptT ho hk (by decide)
  · obtain ⟨G', c'', e', ho'⟩ := h.logs k hk'
    refine ⟨G', c'', ?_, ?_⟩
    · simp only [upV, upS, if_neg ek]; exact e'
    · simp only [upV, upS, if_neg ek]; exact own_keptT ho' hk (by decide)
theorem TabX.setMem (h : TabX w B gt mv dv lv t) {g c : Nat} (m : List Int) (ho : OwnInts w 0 (.slice (some ⟨g, 0, none⟩) m.length c) m) : TabX (w.setCell ⟨gt, 0, none⟩ (.slice (some ⟨g, 0, none⟩) m.length c)) B gt (.slice (some ⟨g, 0, none⟩) m.length c) dv lv { t with m := m } := by
  have hk := keptT_set h.tab 0 (.slice (some ⟨g, 0, none⟩) m.length c)
  exact ⟨h.base, h.tab.stored 0 _, ⟨g, c, rfl, own_keptT ho hk (by decide)⟩, fun k hk' => by obtain ⟨G, c, e, ho⟩ := h.logs k hk'; exact ⟨G, c, e, own_keptT ho hk (by decide)⟩, own_keptT h.done hk (by decide)⟩
theorem TabX.setDone (h : TabX w B gt mv dv lv t) {dv' : Value} (ds : List DoneD) (ho : OwnDone w B dv' ds) : TabX (w.setCell ⟨gt, 26, none⟩ dv') B gt mv dv' lv { t with done := ds } := by
  have hk := keptT_set h.tab 26 dv'
  obtain ⟨g, c', e, hm⟩ := h.mem
  exact ⟨h.base, h.tab.stored 26 _, ⟨g, c', e, own_keptT hm hk (by decide)⟩, fun k hk' => by obtain ⟨G, c, e, ho⟩ := h.logs k hk'; exact ⟨G, c, e, own_keptT ho hk (by decide)⟩, own_keptT ho hk (by decide)⟩
/-- Blocks below B, and all that are neither tables nor rows of ends, are as they were. -/
structure TStp (B : Nat) (w w' : World) : Prop where
  below : Below B w w'
  kept : ∀ (g : Nat) (cs : Array Value) (ty : TypeId) (fr : Nat × Nat), w.heap[g]? = some (.cells cs ty fr) → ty ≠ 46 → ty ≠ 52 → w'.heap[g]? = some (.cells cs ty fr)
theorem TStp.refl (B : Nat) (w : World) : TStp B w w := ⟨Below.refl _ _, fun _ _ _ _ h _ _ => h⟩
theorem TStp.trans {w2 : World} (h : TStp B w w') (k : TStp B w' w2) : TStp B w w2 := ⟨h.below.trans k.below, fun g cs ty fr hg n1 n2 => k.kept g cs ty fr (h.kept g cs ty fr hg n1 n2) n1 n2⟩
theorem TStp.of_below (hb : Below w.heap.size w w') (hB : B ≤ w.heap.size) : TStp B w w' := ⟨hb.mono hB, fun g cs ty fr hg _ _ => by rw [hb.block g (Array.getElem?_eq_some_iff.1 hg).1]; exact hg⟩
theorem TStp.of_table (hb : Below B w w') (hk : KeptT 46 w w') : TStp B w w' := ⟨hb, fun g cs ty fr hg n1 _ => hk g cs ty fr hg n1⟩
theorem TStp.of_done (hb : Below B w w') (hk : KeptT 52 w w') : TStp B w w' := ⟨hb, fun g cs ty fr hg _ n2 => hk g cs ty fr hg n2⟩
theorem TStp.keep {g : Nat} {ty : TypeId} {cs : Array Value} (h : TStp B w w') (k : Bk w g ty cs) (n1 : ty ≠ 46) (n2 : ty ≠ 52) : Bk w' g ty cs := h.kept g cs ty (0, 0) k n1 n2
theorem TStp.set (hg : B ≤ gt) {cs : Array Value} (k : Bk w gt 46 cs) (i : Nat) (u : Value) : TStp B w (w.setCell ⟨gt, i, none⟩ u) := .of_table ((Below.refl B w).setCell (p := ⟨gt, i, none⟩) hg u) (keptT_set k i u)
theorem TStp.setOp (hg : B ≤ gt) {cs : Array Value} (k : Bk w gt 46 cs) (op : Opr) : TStp B w (setOpW w gt who op) := .of_table (((((Below.refl B w).setCell (p := ⟨gt, _, none⟩) hg _).setCell (p := ⟨gt, _, none⟩) hg _).setCell (p := ⟨gt, _, none⟩) hg _).setCell (p := ⟨gt, _, none⟩) hg _) (setOp_kept k op)
theorem TRep.base (h : TRep w B gt t) : B ≤ gt := by
  obtain ⟨mv, dv, lv, h⟩ := h
  exact h.base
end
end Go.Proofs.Ytdjglkpcdhkodaa
