/- law15.played. Printed by aplayed_gen.py. -/
import Derived.Test.YtbcgjolcfagboaaArU
import Derived.Test.YtbcgjolcfagboaaTurn
namespace Go.Proofs.Ytbcgjolcfagboaa
open Go.RowKit
set_option linter.unusedVariables false
attribute [local go_sem ↓] Go.wp_at_zero Go.wp_at_succ

def stepsC (out : List StepA) : List Value := out.flatMap fun s => (stepC s).toList
theorem stepsC_snoc (out : List StepA) (s : StepA) : stepsC (out ++ [s]) = stepsC out ++ (stepC s).toList := by simp [stepsC]
theorem step_info : (Try.prog.info? 49).map (fun i => (i.zero, i.size, i.bytes)) = some (some (.agg stepZ), 17, 152) := by kernel_rfl
theorem step_news (w : World) (cs : Array Value) : ∀ (j : Nat) (u : Value), cs.toList[j]? = some u → (w.alloc (.cells cs 49)).cell? ((⟨w.heap.size, 0, none⟩ : Addr).add j) = some u := by
  intro j u hu
  rw [Go.WideShapes.add_plain, Nat.zero_add, (Bk.made w 49 cs).cell j]
  simpa using hu
/-- What lies where in a play. -/
structure ARep (w : World) (B b0 bL gt go gl gn gh n : Nat) (pc : Array Value) (l : Ly) (v7 : Value) (ts : TabA × List StepA) : Prop where
  kP : Bk w b0 25 pc
  kL : Bk w bL 31 (lyC l)
  tab : TRep w gt go gl gn gh n ts.1
  out : w.ownsRow B 49 17 v7 ts.2.length (stepsC ts.2)
section
variable {w w' : World} {B b0 bL gt go gl gn gh n : Nat} {pc : Array Value} {l : Ly} {v7 : Value} {ts : TabA × List StepA}
theorem ARep.keep (h : ARep w B b0 bL gt go gl gn gh n pc l v7 ts) (hb : Below w.heap.size w w') : ARep w' B b0 bL gt go gl gn gh n pc l v7 ts :=
  ⟨h.kP.keep hb, h.kL.keep hb, h.tab.keep hb, own_keepb' h.out hb⟩
theorem TRep.tys (h : TRep w gt go gl gn gh n ts.1) : ∃ c1 c2 c3 c4 c5, Bk w gt 58 c1 ∧ Bk w go 39 c2 ∧ Bk w gl 78 c3 ∧ Bk w gn 3 c4 ∧ Bk w gh 50 c5 := by
  obtain ⟨g, cap, a1, a2, a3⟩ := h.tab
  obtain ⟨c1, b1, b2, b3⟩ := h.ops
  obtain ⟨c2, d1, d2, d3⟩ := h.logs
  obtain ⟨c3, e1, e2, e3⟩ := h.nexts
  obtain ⟨c4, f1, f2, f3⟩ := h.hass
  exact ⟨_, _, _, _, _, a1, b1, d1, e1, f1⟩
/-- A row of another type than the table's is as it was behind a turn. -/
theorem own_stpL {base sz k : Nat} {e : TypeId} {v : Value} {xs : List Value} (h : TRep w gt go gl gn gh n ts.1) (st : StpL [gt, go, gl, gn, gh] w w') (ho : w.ownsRow base e sz v k xs) (n1 : 58 ≠ e) (n2 : 39 ≠ e) (n3 : 78 ≠ e) (n4 : 3 ≠ e) (n5 : 50 ≠ e) : w'.ownsRow base e sz v k xs := by
  obtain ⟨c1, c2, c3, c4, c5, k1, k2, k3, k4, k5⟩ := h.tys
  refine ⟨ho.1, ?_⟩
  rcases ho.2 with h1 | ⟨g', cap, cur, h1, h2, h3, h4⟩
  · exact .inl h1
  · refine .inr ⟨g', cap, cur, h1, h2, ?_, h4⟩
    rw [st.block g' (Array.getElem?_eq_some_iff.1 h3).1 ?_]
    · exact h3
    · have kk : Bk w g' e cur := h3
      simp only [List.mem_cons, List.not_mem_nil, or_false, not_or]
      exact ⟨fun q => bk_ne k1 kk n1 q.symm, fun q => bk_ne k2 kk n2 q.symm, fun q => bk_ne k3 kk n3 q.symm, fun q => bk_ne k4 kk n4 q.symm, fun q => bk_ne k5 kk n5 q.symm⟩
theorem TRep.notin (h : TRep w gt go gl gn gh n ts.1) {g : Nat} {t : TypeId} {c : Array Value} (k : Bk w g t c) (n1 : 58 ≠ t) (n2 : 39 ≠ t) (n3 : 78 ≠ t) (n4 : 3 ≠ t) (n5 : 50 ≠ t) : g ∉ [gt, go, gl, gn, gh] := by
  obtain ⟨c1, c2, c3, c4, c5, k1, k2, k3, k4, k5⟩ := h.tys
  simp only [List.mem_cons, List.not_mem_nil, or_false, not_or]
  exact ⟨fun q => bk_ne k1 k n1 q.symm, fun q => bk_ne k2 k n2 q.symm, fun q => bk_ne k3 k n3 q.symm, fun q => bk_ne k4 k n4 q.symm, fun q => bk_ne k5 k n5 q.symm⟩
end
/-! The operations of 's, is := turn(..)', in whatever order: b the call, behind it the move, two extracts, the alloc, the store, the assign. -/
def plP (b : Nat) (i : Nat) : List Nat := if i = b + 1 then [b] else if i = b + 2 then [b + 1] else if i = b + 3 then [b + 1] else if i = b + 5 then [b, b + 2, b + 4] else if i = b + 6 then [b + 3] else []
def plR (b B gt go gl gn gh n : Nat) (t' : TabA) (sc : Array Value) (is : Bool) (i : Nat) (val : Nat → Option Value) (v : Value) (w : World) : Prop :=
  if i = b then v = .tuple #[.agg sc, .bool is] ∧ TRep w gt go gl gn gh n t'
  else if i = b + 1 then v = .tuple #[.agg sc, .bool is]
  else if i = b + 2 then v = .agg sc
  else if i = b + 3 then v = .bool is
  else if i = b + 4 then ∃ g, v = .pointer (some ⟨g, 0, none⟩) ∧ B ≤ g ∧ (val (b + 5) = none → Bk w g 49 stepZ)
  else if i = b + 5 then ∃ g, val (b + 4) = some (.pointer (some ⟨g, 0, none⟩)) ∧ B ≤ g ∧ Bk w g 49 sc
  else if i = b + 6 then v = .bool is
  else True
def plG (b B : Nat) (L : List Nat) (i : Nat) (w1 w2 : World) : Prop := if i = b then StpL L w1 w2 else if i = b + 5 then KeptT 49 w1 w2 ∧ Below B w1 w2 else Below w1.heap.size w1 w2
def plN (b gt go gl gn gh n : Nat) (t : TabA) (i : Nat) (w1 : World) : Prop := i = b → TRep w1 gt go gl gn gh n t
theorem run_take {l : Ly} {n k x : Nat} {want : List (List Nat)} {turns : List Nat} {s0 : TabA × List StepA} (hx : turns[k]? = some x) : runA l want s0 ((turns.take (k + 1)).map (· % n)) = ((turnA l want (x % n) (runA l want s0 ((turns.take k).map (· % n))).1).1, (runA l want s0 ((turns.take k).map (· % n))).2 ++ (turnA l want (x % n) (runA l want s0 ((turns.take k).map (· % n))).1).2.toList) := by
  rw [List.take_add_one, hx, List.map_append]
  exact runA_snoc l want _ _ _
theorem plN_at {b gt go gl gn gh n : Nat} {t : TabA} {w1 : World} (h : plN b gt go gl gn gh n t b w1) : TRep w1 gt go gl gn gh n t := h rfl
theorem plN_keep {b B gt go gl gn gh n : Nat} {t : TabA} {L : List Nat} {i j : Nat} (hij : i ≠ j) {w1 w2 : World} (h : plN b gt go gl gn gh n t i w1) (hg : plG b B L j w1 w2) : plN b gt go gl gn gh n t i w2 := by
  intro e
  subst e
  have h1 := h rfl
  unfold plG at hg
  rw [if_neg (fun q => hij q.symm)] at hg
  split at hg
  · exact h1.keptT hg.1 (by decide) (by decide) (by decide) (by decide) (by decide) (by decide)
  · exact h1.keep hg
theorem plR_keep {b B gt go gl gn gh n : Nat} {t' : TabA} {sc : Array Value} {is : Bool} {L : List Nat} (hL : ∀ g ∈ L, g < B) {i j : Nat} (hij : i ≠ j) {val : Nat → Option Value} {v u : Value} {w1 w2 : World} (hi : val i = some v) (hj : val j = none)
    (h : plR b B gt go gl gn gh n t' sc is i val v w1) (hg : plG b B L j w1 w2) : plR b B gt go gl gn gh n t' sc is i (upd val j u) v w2 := by
  have hv : ∀ k x, val k = some x → upd val j u k = some x := fun k x hk => by
    simp only [upd]
    split
    · rename_i e; subst e; rw [hj] at hk; cases hk
    · exact hk
  have hn : ∀ k, upd val j u k = none → val k = none ∧ k ≠ j := fun k hk => by
    simp only [upd] at hk
    split at hk
    · cases hk
    · rename_i e; exact ⟨hk, e⟩
  have hkeep : ∀ {g : Nat} {t : TypeId} {c : Array Value}, B ≤ g → j ≠ b + 5 → Bk w1 g t c → Bk w2 g t c := by
    intro g t c hBg hne k
    unfold plG at hg
    split at hg
    · exact hg.keep k (fun hm => by have := hL g hm; omega)
    · first
      | exact k.keep hg
      | (rw [if_neg hne] at hg; exact k.keep hg)
  unfold plR at h ⊢
  split
  · rename_i e
    subst e
    rw [if_pos rfl] at h
    refine ⟨h.1, ?_⟩
    unfold plG at hg
    rw [if_neg (fun q => hij q.symm)] at hg
    split at hg
    · exact h.2.keptT hg.1 (by decide) (by decide) (by decide) (by decide) (by decide) (by decide)
    · exact h.2.keep hg
  · rename_i e0
    rw [if_neg e0] at h
    split
    · rename_i e; rw [if_pos e] at h; exact h
    · rename_i e1
      rw [if_neg e1] at h
      split
      · rename_i e; rw [if_pos e] at h; exact h
      · rename_i e2
        rw [if_neg e2] at h
        split
        · rename_i e; rw [if_pos e] at h; exact h
        · rename_i e3
          rw [if_neg e3] at h
          split
          · rename_i e
            rw [if_pos e] at h
            obtain ⟨g, h1, h2, h3⟩ := h
            exact ⟨g, h1, h2, fun q => hkeep h2 (fun e' => (hn _ q).2 e'.symm) (h3 (hn _ q).1)⟩
          · rename_i e4
            rw [if_neg e4] at h
            split
            · rename_i e
              rw [if_pos e] at h
              obtain ⟨g, h1, h2, h3⟩ := h
              exact ⟨g, hv _ _ h1, h2, hkeep h2 (fun e' => hij (e.trans e'.symm)) h3⟩
            · rename_i e5
              rw [if_neg e5] at h
              exact h
theorem StpL.belowR {L : List Nat} {w0 w1 w2 : World} (h : StpL L w0 w1) (hb : Below w0.heap.size w1 w2) : StpL L w0 w2 := ⟨hb.os.trans h.os, hb.tape.trans h.tape, hb.output.trans h.output, Nat.le_trans h.size hb.size, fun b h1 h2 => (hb.block b h1).trans (h.block b h1 h2)⟩
theorem plT_keep {b : Nat} {L : List Nat} {i : Nat} {w0 w1 w2 : World} (h : StpL L w0 w1) (hg : plG b w0.heap.size L i w1 w2) : StpL L w0 w2 := by
  unfold plG at hg
  split at hg
  · exact h.trans hg
  · split at hg
    · exact h.belowR hg.2
    · exact h.trans (StpL.of_below L hg)
def plT1 : Nat → Nat | 12 => 52 | 13 => 39 | 14 => 53 | 15 => 54 | 16 => 9 | 18 => 10 | _ => 85
def plT2 : Nat → Nat | 5 => 75 | 6 => 69 | 7 => 76 | 8 => 77 | 9 => 13 | 11 => 14 | _ => 85
/-- A turn's contract, by what holds of the run. -/
theorem turn_call {l : Ly} (hl : LayOk l) (f : LyFull l) {n B : Nat} (h1 : 1 ≤ n) (h3 : n ≤ 3) (want : List (List Nat)) (hwl : want.length = n) (ws : List Nat) (hws : ∀ x ∈ ws, x < n) (hlen : ws.length ≤ 800) (who : Nat) (hwho : who < n) (W : Option Addr) (cW gt go gl gn gh : Nat) (hB : B ≤ gt ∧ B ≤ go ∧ B ≤ gl ∧ B ≤ gn ∧ B ≤ gh)
    (w2 : World) (hT : TRep w2 gt go gl gn gh n (runA l want (startA l n) ws).1) (hW : SlU8s w2 B W want) :
    Calls Try.prog 19 #[lyV l, ptr gt, .slice W n cW, .int .i64 (who : Nat)] w2 (TurnPost gt go gl gn gh n (turnA l want who (runA l want (startA l n) ws).1) w2) := by
  have hr := run_ok hl n want ws hws (by omega)
  generalize runA l want (startA l n) ws = ts at *
  obtain ⟨L, hai⟩ := hr.inv
  obtain ⟨s0, hs⟩ : ∃ s0, ts.1.seats[who]? = some s0 := ⟨_, List.getElem?_eq_getElem (by rw [hr.ns]; exact hwho)⟩
  have hwt := hr.went
  obtain ⟨t1, -⟩ := turn_inv (want := want) hai hr.gr hs hr.ns hl.lay (by omega) hr.bnd
  have hok : TOk ts.1 := by
    refine ⟨by rw [hai.ml]; exact hl.lay.nd.2, fun s hs => ?_⟩
    have hb := hr.bnd.seat s hs
    have hk := hai.seat s hs
    refine ⟨by omega, by omega, by omega, by have := hk.a6; omega, fun z hz => ?_⟩
    obtain ⟨j, hj⟩ := List.getElem?_of_mem hs
    have := own_range hai hj (v := z) (by simp [SeatA.own, hz])
    have := hl.lay.nn
    omega
  refine aturn_any l gt go gl gn gh n ts.1 W cW want who B s0 w2 f hT hok hW hwl hs hB (by omega) (fun k c o v e => t1 k c o v e ?_)
  intro hk
  unfold nextR at e
  rw [hk] at e
  simp at e
/-! The table in the beginning. -/
theorem oper_make {Q : Exit → Act → World → Prop} {o : Oper} {a : Act} {w : World} {K : Act → World → Prop} {t e : TypeId} (x y : Operand) (ho : o.op = .makeSlice t x y) (N : Nat) (cs : Array Value) (hx : a.eval x = .int .i64 N) (hy : a.eval y = .int .i64 N)
    (hr : (Instr.makeSlice t (.int .i64 N) (.int .i64 N)).run Try.prog w = .ok (.slice (some ⟨w.heap.size, 0, none⟩) N N) (w.alloc (.cells cs e)))
    (h : K (a.put o.dst (.slice (some ⟨w.heap.size, 0, none⟩) N N)) (w.alloc (.cells cs e))) : o.wp Try.prog a w K Q := by
  unfold Oper.wp execOp
  simp only [ho, hx, hy, Sem.run_bind, hr, Result.andThen_ok]
  exact h
def opZ (n : Nat) : Array Value := madeCells #[.int .i64 0, .int .i64 0, .int .i64 0, .int .i64 0] (n * 4)
def slZ (n : Nat) : Array Value := madeCells #[.slice none 0 0] (n * 1)
def inZ (n : Nat) : Array Value := madeCells #[.int .i64 0] (n * 1)
theorem ops_info : (Try.prog.info? 39).map (fun i => (i.zero, i.size, i.bytes)) = some (some (.agg #[.int .i64 0, .int .i64 0, .int .i64 0, .int .i64 0]), 4, 32) := by kernel_rfl
theorem ress_info : (Try.prog.info? 78).map (fun i => (i.zero, i.size, i.bytes)) = some (some (.slice none 0 0), 1, 24) := by kernel_rfl
theorem ints_info' : (Try.prog.info? 50).map (fun i => (i.zero, i.size, i.bytes)) = some (some (.slice none 0 0), 1, 24) := by kernel_rfl
theorem run_make_ops (w : World) (N : Nat) (h : N ≤ 1000000) : (Instr.makeSlice 54 (.int .i64 N) (.int .i64 N)).run Try.prog w = .ok (.slice (some ⟨w.heap.size, 0, none⟩) N N) (w.alloc (.cells (opZ N) 39)) := run_make_row Try.underlying54 ops_info w N h (by omega)
theorem run_make_logs (w : World) (N : Nat) (h : N ≤ 1000000) : (Instr.makeSlice 55 (.int .i64 N) (.int .i64 N)).run Try.prog w = .ok (.slice (some ⟨w.heap.size, 0, none⟩) N N) (w.alloc (.cells (slZ N) 78)) := run_make_row Try.underlying55 ress_info w N h (by omega)
theorem run_make_has (w : World) (N : Nat) (h : N ≤ 1000000) : (Instr.makeSlice 56 (.int .i64 N) (.int .i64 N)).run Try.prog w = .ok (.slice (some ⟨w.heap.size, 0, none⟩) N N) (w.alloc (.cells (slZ N) 50)) := run_make_row Try.underlying56 ints_info' w N h (by omega)
theorem run_make_nexts (w : World) (N : Nat) (h : N ≤ 1000000) : (Instr.makeSlice 50 (.int .i64 N) (.int .i64 N)).run Try.prog w = .ok (.slice (some ⟨w.heap.size, 0, none⟩) N N) (w.alloc (.cells (inZ N) 3)) := run_make_row Try.underlying50 int_info w N h (by omega)
theorem made_get (cs : Array Value) (N k : Nat) (h : k < N) : (madeCells cs N)[k]? = some (cs[k % cs.size]!) := by simp [madeCells, h]
/-- The table as it is made. -/
theorem trep_start {w : World} {gt go gl gn gh g cap n : Nat} {l : Ly} (kt : Bk w gt 58 (tabC g (beginM l).length cap go gl gn gh n)) (ko : Bk w go 39 (opZ n)) (kl : Bk w gl 78 (slZ n)) (kn : Bk w gn 3 (inZ n)) (kh : Bk w gh 50 (slZ n))
    (hown : OwnInts w 0 (.slice (some ⟨g, 0, none⟩) (beginM l).length cap) (beginM l)) (hn : n < (beginM l).length) : TRep w gt go gl gn gh n (startA l n).1 := by
  have hs : ∀ (k : Nat) (s : SeatA), (startA l n).1.seats[k]? = some s → s = seat0 ∧ k < n := by
    intro k s h
    rw [show (startA l n).1.seats = List.replicate n seat0 from rfl, List.getElem?_replicate] at h
    split at h
    · injection h with h; exact ⟨h.symm, by assumption⟩
    · cases h
  have hne : g ≠ gn := by
    rintro rfl
    rcases hown.2 with ⟨h1, _⟩ | ⟨g', cap', cur, h1, _, h2, h3, _, h5, _⟩
    · cases h1
    · injection h1 with h1 _ h6
      injection h1 with h1
      injection h1 with h1
      subst h1
      rw [Bk, h2] at kn
      injection kn with kn
      injection kn with kn
      have : cur.size = n * 1 := by rw [kn]; simp [inZ, size_madeCells]
      have hl : (ints (beginM l)).length = (beginM l).length := ints_length _
      omega
  refine ⟨by simp [startA], ⟨g, cap, kt, hown, hne⟩, ⟨_, ko, by simp [opZ, size_madeCells], fun k s h => ?_⟩, ⟨_, kl, by simp [slZ, size_madeCells], fun k s h => ?_⟩, ⟨_, kn, by simp [inZ, size_madeCells], fun k s h => ?_⟩, ⟨_, kh, by simp [slZ, size_madeCells], fun k s h => ?_⟩⟩
  · obtain ⟨rfl, hk⟩ := hs k s h
    unfold opZ
    rw [made_get _ _ _ (by omega), made_get _ _ _ (by omega), made_get _ _ _ (by omega), made_get _ _ _ (by omega)]
    have e : ∀ q : Nat, q < 4 → (#[.int .i64 0, .int .i64 0, .int .i64 0, .int .i64 0] : Array Value)[(k * 4 + q) % 4]! = .int .i64 0 := by
      intro q hq
      have : (k * 4 + q) % 4 = q := by omega
      rw [this]
      have : q = 0 ∨ q = 1 ∨ q = 2 ∨ q = 3 := by omega
      rcases this with rfl | rfl | rfl | rfl <;> rfl
    exact ⟨congrArg some (e 0 (by omega)), congrArg some (e 1 (by omega)), congrArg some (e 2 (by omega)), congrArg some (e 3 (by omega))⟩
  · obtain ⟨rfl, hk⟩ := hs k s h
    refine ⟨none, 0, ?_, World.ownsRow_nil _ _ _ _⟩
    unfold slZ
    rw [made_get _ _ _ (by omega)]
    simp [Nat.mod_one, seat0]
  · obtain ⟨rfl, hk⟩ := hs k s h
    unfold inZ
    rw [made_get _ _ _ (by omega)]
    simp [Nat.mod_one, seat0]
  · obtain ⟨rfl, hk⟩ := hs k s h
    refine ⟨none, 0, ?_, World.ownsRow_nil _ _ _ _, by simp [Value.ownBlock]⟩
    unfold slZ
    rw [made_get _ _ _ (by omega)]
    simp [Nat.mod_one, seat0]
def mkT : Nat → Nat | 1 => 21 | 3 => 23 | 5 => 25 | 7 => 27 | _ => 29
def mkR (l : Ly) (B n : Nat) (i : Nat) (val : Nat → Option Value) (v : Value) (w : World) : Prop :=
  match i with
  | 1 => ∃ g c, v = memV (some ⟨g, 0, none⟩) (beginM l).length c ∧ OwnInts w 0 (.slice (some ⟨g, 0, none⟩) (beginM l).length c) (beginM l)
  | 3 => ∃ g, v = .slice (some ⟨g, 0, none⟩) n n ∧ B ≤ g ∧ Bk w g 39 (opZ n)
  | 5 => ∃ g, v = .slice (some ⟨g, 0, none⟩) n n ∧ B ≤ g ∧ Bk w g 78 (slZ n)
  | 7 => ∃ g, v = .slice (some ⟨g, 0, none⟩) n n ∧ B ≤ g ∧ Bk w g 3 (inZ n)
  | 9 => ∃ g, v = .slice (some ⟨g, 0, none⟩) n n ∧ B ≤ g ∧ Bk w g 50 (slZ n)
  | _ => True
theorem mkR_keep (l : Ly) (B n : Nat) (i : Nat) (val val' : Nat → Option Value) (v : Value) (w1 w2 : World) (hv : ∀ j u, val j = some u → val' j = some u) (hb : Below w1.heap.size w1 w2) (h : mkR l B n i val v w1) : mkR l B n i val' v w2 := by
  unfold mkR at *
  split
  · obtain ⟨g, c, h1, h2⟩ := h; exact ⟨g, c, h1, own_keepb' h2 hb⟩
  · obtain ⟨g, h1, h2, h3⟩ := h; exact ⟨g, h1, h2, h3.keep hb⟩
  · obtain ⟨g, h1, h2, h3⟩ := h; exact ⟨g, h1, h2, h3.keep hb⟩
  · obtain ⟨g, h1, h2, h3⟩ := h; exact ⟨g, h1, h2, h3.keep hb⟩
  · obtain ⟨g, h1, h2, h3⟩ := h; exact ⟨g, h1, h2, h3.keep hb⟩
  · trivial
/-- What played hands back. -/
def APlayed (n : Nat) (r : TabA × List StepA) (w : World) (e : Ending) (w' : World) : Prop :=
  ∃ A cap gt go gl gn gh, e = .returned (.tuple #[.slice A r.2.length cap, ptr gt]) ∧ w'.ownsRow w.heap.size 49 17 (.slice A r.2.length cap) r.2.length (stepsC r.2) ∧ TRep w' gt go gl gn gh n r.1 ∧ Below w.heap.size w w'
def P1Rel (B b0 bL gt go gl gn gh n : Nat) (pc : Array Value) (l : Ly) (want : List (List Nat)) (turns : List Nat) (w0 : World) (v7 i : Value) (wr : World) : Prop :=
  ∃ k : Nat, k ≤ turns.length ∧ i = .int .i64 k ∧ Below B w0 wr ∧ ARep wr B b0 bL gt go gl gn gh n pc l v7 (runA l want (startA l n) ((turns.take k).map (· % n)))
/-- Whose turns there were, up to seat k's j-th turn alone. -/
def w2A (n : Nat) (turns : List Nat) (k j : Nat) : List Nat := turns.map (· % n) ++ ((List.range k).flatMap fun q => List.replicate 60 q) ++ List.replicate j k
theorem w2A_zero (n : Nat) (turns : List Nat) : w2A n turns 0 0 = turns.map (· % n) := by simp [w2A]
theorem w2A_succ (n : Nat) (turns : List Nat) (k j : Nat) : w2A n turns k (j + 1) = w2A n turns k j ++ [k] := by simp [w2A, List.replicate_succ', List.append_assoc]
theorem w2A_next (n : Nat) (turns : List Nat) (k : Nat) : w2A n turns (k + 1) 0 = w2A n turns k 60 := by simp [w2A, List.range_succ]
theorem w2A_end (n : Nat) (turns : List Nat) : w2A n turns n 0 = whosA n turns := by simp [w2A, whosA]
theorem w2A_lt {n : Nat} (h1 : 1 ≤ n) (turns : List Nat) {k : Nat} (hk : k < n) (j : Nat) : ∀ x ∈ w2A n turns k j, x < n := by
  intro x hx
  simp only [w2A, List.mem_append, List.mem_map, List.mem_flatMap, List.mem_range, List.mem_replicate] at hx
  rcases hx with (⟨y, _, rfl⟩ | ⟨q, hq, _, rfl⟩) | ⟨_, rfl⟩
  · exact Nat.mod_lt _ h1
  · omega
  · exact hk
theorem w2A_length (n : Nat) (turns : List Nat) (k j : Nat) : (w2A n turns k j).length = turns.length + k * 60 + j := by
  unfold w2A
  rw [List.length_append, List.length_append, List.length_map, sixty_length, List.length_replicate]
theorem run_w2 {l : Ly} {n k j : Nat} {want : List (List Nat)} {turns : List Nat} {s0 : TabA × List StepA} : runA l want s0 (w2A n turns k (j + 1)) = ((turnA l want k (runA l want s0 (w2A n turns k j)).1).1, (runA l want s0 (w2A n turns k j)).2 ++ (turnA l want k (runA l want s0 (w2A n turns k j)).1).2.toList) := by
  rw [w2A_succ]
  exact runA_snoc l want _ _ _
def P2Rel (B b0 bL gt go gl gn gh n : Nat) (pc : Array Value) (l : Ly) (want : List (List Nat)) (turns : List Nat) (w0 : World) (v7 i : Value) (wr : World) : Prop :=
  ∃ k : Nat, k ≤ n ∧ i = .int .i64 k ∧ Below B w0 wr ∧ ARep wr B b0 bL gt go gl gn gh n pc l v7 (runA l want (startA l n) (w2A n turns k 0))
def P3Rel (B b0 bL gt go gl gn gh n : Nat) (pc : Array Value) (l : Ly) (want : List (List Nat)) (turns : List Nat) (w0 : World) (k : Nat) (v7 i : Value) (wr : World) : Prop :=
  ∃ j : Nat, j ≤ 60 ∧ i = .int .i64 j ∧ Below B w0 wr ∧ ARep wr B b0 bL gt go gl gn gh n pc l v7 (runA l want (startA l n) (w2A n turns k j))
set_option maxRecDepth 1000000 in
set_option maxHeartbeats 16000000 in
theorem played_any (t : Int) (W : Option Addr) (n c : Nat) (T : Option Addr) (m d : Nat) (want : List (List Nat)) (turns : List Nat) (w : World) (t0 : 0 ≤ t) (t1 : t < 256) (h1 : 1 ≤ n) (h2 : n ≤ 3) (hn : want.length = n) (hm : turns.length = m) (hm2 : m ≤ 200)
    (hW : SlU8s w w.heap.size W want) (hT : SlU8 w w.heap.size T turns) :
    Calls Try.prog 10 #[.agg (playC t W n c T m d)] w (APlayed n (endA (playL n t) n want turns) w) := by
  have HOK := Lib.hid (layOk_of (layB_play n t h1 h2))
  have HFL : Hid (LyFull (playL n t)) := Lib.hid (lyFull_of _ (playCf_can n t h1 (by omega)))
  obtain ⟨l, hl⟩ : ∃ l, playL n t = l := ⟨_, rfl⟩
  rw [hl] at HOK HFL
  rw [hl]
  have HL := Lib.hid hl
  have HW := Lib.hid hW
  have HT := Lib.hid hT
  have HN := Lib.hid hn
  have HM := Lib.hid hm
  clear hl hW hT hn hm
  have k0 := Bk.made w 25 (playC t W n c T m d)
  have hbl := below_al (Below.refl w.heap.size w) (.cells (playC t W n c T m d) 25)
  go_enter Try.func10, Try.ntmps10
  go_wp2_with fail
  (with_reducible refine (where_any t W n c T m d _ t0 t1 h1 (by omega)).mono ?_)
  rintro e w1 ⟨rfl, hb⟩
  replace k0 := k0.keep hb
  replace hbl := below_tr hbl hb
  clear hb
  rw [HL.out]
  go_upto_region 2 with (refine wpList_store_new rfl 31 (.tmp 4) (.tmp 16) rfl rfl w1.heap.size _ _ (lyC l) rfl rfl rfl rfl (by kernel_rfl) rfl (by simp [Value.oneCell']) ?_)
  have kL := Bk.made w1 31 (lyC l)
  have hLs : w.heap.size < w1.heap.size := k0.lt
  replace k0 := k0.alloc (.cells (lyC l) 31)
  replace hbl := below_al hbl (.cells (lyC l) 31)
  generalize w1.alloc (.cells (lyC l) 31) = w2 at *
  generalize w1.heap.size = bL at *
  have q1 := k0.cell 1
  simp at q1
  go_upto_region 3 with fail
  clear q1
  refine wp_region_E (S := fun w' => Below w2.drew.heap.size w2.drew w') (E := fun _ => false) (by kernel_rfl) ?_
  replace k0 := k0.drew
  replace kL := kL.drew
  replace hbl := hbl.drew
  generalize w2.drew = w3 at *
  refine wpAnyE_take (i := 0) (oi := _) (v := .agg (lyC l)) rfl (by kernel_rfl) (by kernel_rfl) (by kernel_rfl) (by kernel_rfl) (fun _ _ _ h => h) (Or.inl ⟨by rfl, ?_⟩) (Below.refl _ _) ?_
  · intro w' hSw
    (try simp only [List.getElem_toArray, List.getElem_cons_zero])
    simp only [execOp, Instr.loadAt, Instr.sureAddr, Sem.run_bind, Sem.run_pure]
    rw [show (Act.eval _ (Operand.tmp 4)) = Value.pointer (some ⟨bL, 0, none⟩) from rfl]
    simp only [Sem.run_pure, Result.andThen_ok, run_loadVar_row w' bL 31 31 (lyC l) (0, 0) _ (kL.keep hSw) Try.underlying31 rfl (by kernel_rfl)]
  (try simp only [List.getElem_toArray, List.getElem_cons_zero, Act.put, List.setIfInBounds_toArray, List.set_cons_zero, List.set_cons_succ])
  refine wpAnyE_take (i := 2) (oi := _) (v := .int .i64 n) rfl (by kernel_rfl) (by kernel_rfl) (by kernel_rfl) (by kernel_rfl) (fun _ _ _ h => h) (Or.inl ⟨by rfl, ?_⟩) (Below.refl _ _) ?_
  · intro w' hSw
    (try simp only [List.getElem_toArray, List.getElem_cons_succ, List.getElem_cons_zero])
    go_simp
  (try simp only [List.getElem_toArray, List.getElem_cons_succ, List.getElem_cons_zero, Act.put, List.setIfInBounds_toArray, List.set_cons_zero, List.set_cons_succ])
  refine wpAnyE_take (i := 4) (oi := _) (v := .int .i64 n) rfl (by kernel_rfl) (by kernel_rfl) (by kernel_rfl) (by kernel_rfl) (fun _ _ _ h => h) (Or.inl ⟨by rfl, ?_⟩) (Below.refl _ _) ?_
  · intro w' hSw
    (try simp only [List.getElem_toArray, List.getElem_cons_succ, List.getElem_cons_zero])
    go_simp
  (try simp only [List.getElem_toArray, List.getElem_cons_succ, List.getElem_cons_zero, Act.put, List.setIfInBounds_toArray, List.set_cons_zero, List.set_cons_succ])
  refine wpAnyE_take (i := 6) (oi := _) (v := .int .i64 n) rfl (by kernel_rfl) (by kernel_rfl) (by kernel_rfl) (by kernel_rfl) (fun _ _ _ h => h) (Or.inl ⟨by rfl, ?_⟩) (Below.refl _ _) ?_
  · intro w' hSw
    (try simp only [List.getElem_toArray, List.getElem_cons_succ, List.getElem_cons_zero])
    go_simp
  (try simp only [List.getElem_toArray, List.getElem_cons_succ, List.getElem_cons_zero, Act.put, List.setIfInBounds_toArray, List.set_cons_zero, List.set_cons_succ])
  refine wpAnyE_take (i := 8) (oi := _) (v := .int .i64 n) rfl (by kernel_rfl) (by kernel_rfl) (by kernel_rfl) (by kernel_rfl) (fun _ _ _ h => h) (Or.inl ⟨by rfl, ?_⟩) (Below.refl _ _) ?_
  · intro w' hSw
    (try simp only [List.getElem_toArray, List.getElem_cons_succ, List.getElem_cons_zero])
    go_simp
  (try simp only [List.getElem_toArray, List.getElem_cons_succ, List.getElem_cons_zero, Act.put, List.setIfInBounds_toArray, List.set_cons_zero, List.set_cons_succ])
  refine wpAnyE_dagB (U := [1, 3, 5, 7, 9]) (tmp := mkT) (pre := fun _ => []) (R := mkR l w3.heap.size n) (by kernel_rfl) (fun _ _ => rfl) (fun w2 h => h) (mkR_keep l w3.heap.size n) (fun i hi => ?_) 3 (fun val w4 hall hb4 => ?_)
  · simp only [List.mem_cons, List.not_mem_nil, or_false] at hi
    rcases hi with rfl | rfl | rfl | rfl | rfl
    · refine ⟨_, rfl, fun val w2 K hb2 hpre hK => ?_⟩
      simp only [actOf] at hK ⊢
      go_simp
      have hnn := HOK.out.lay.nn
      have hss := HOK.out.sz
      (with_reducible refine (begin_any l _ HFL.out hnn.1 (by omega) (by omega) hss.2 HOK.out.err).mono ?_)
      rintro e w5 ⟨g, cap, rfl, hown, hb⟩
      exact hK _ _ ⟨g, cap, rfl, hown⟩ hb
    all_goals
      refine ⟨_, rfl, fun val w2 K hb2 hpre hK => ?_⟩
      simp only [actOf] at hK ⊢
      refine oper_make _ _ rfl n _ rfl rfl (by first | exact run_make_ops _ n (by omega) | exact run_make_logs _ n (by omega) | exact run_make_nexts _ n (by omega) | exact run_make_has _ n (by omega)) ?_
      exact hK _ _ ⟨_, rfl, hb2.size, Bk.made _ _ _⟩ (below_al (Below.refl _ _) _)
  obtain ⟨v1, e1, g, cap, rfl, hown⟩ := hall 1 (by simp)
  obtain ⟨v3, e3, go, rfl, hgo, ko⟩ := hall 3 (by simp)
  obtain ⟨v5, e5, gl, rfl, hgl, kl⟩ := hall 5 (by simp)
  obtain ⟨v7, e7, gn, rfl, hgn, kn⟩ := hall 7 (by simp)
  obtain ⟨v9, e9, gh, rfl, hgh, kh⟩ := hall 9 (by simp)
  clear hall
  simp only [actOf, lstOf, e1, e3, e5, e7, e9, mkT, Option.isSome_some, if_true]
  clear e1 e3 e5 e7 e9
  (try simp only [Act.put, List.setIfInBounds_toArray, List.set_cons_zero, List.set_cons_succ])
  have hB3 : w.heap.size < w3.heap.size := k0.lt
  replace hbl := below_tr hbl hb4
  replace k0 := k0.keep hb4
  replace kL := kL.keep hb4
  refine wpAnyE_take (i := 10) (oi := _) (v := .agg (tabC g (beginM l).length cap go gl gn gh n)) rfl (by kernel_rfl) (by kernel_rfl) (by kernel_rfl) (by kernel_rfl) (fun _ _ _ h => h) (Or.inl ⟨by rfl, ?_⟩) hb4 ?_
  · intro w' hSw
    (try simp only [List.getElem_toArray, List.getElem_cons_succ, List.getElem_cons_zero])
    go_simp
  (try simp only [List.getElem_toArray, List.getElem_cons_succ, List.getElem_cons_zero, Act.put, List.setIfInBounds_toArray, List.set_cons_zero, List.set_cons_succ])
  refine wpAnyE_one (i := 11) (o := _) (by kernel_rfl) rfl (fun K hK => ?_)
  (try simp only [List.getElem_toArray, List.getElem_cons_succ, List.getElem_cons_zero])
  go_simp
  have kt := Bk.made w4 58 (tabC g (beginM l).length cap go gl gn gh n)
  have hb5 := below_al (Below.refl w4.heap.size w4) (.cells (tabC g (beginM l).length cap go gl gn gh n) 58)
  refine hK.out _ _ (fun _ => below_tr hb4 hb5) ?_
  clear hK K
  (try simp only [List.getElem_toArray, List.getElem_cons_succ, List.getElem_cons_zero, Act.put, List.setIfInBounds_toArray, List.set_cons_zero, List.set_cons_succ])
  have hrep : ARep (w4.alloc (.cells (tabC g (beginM l).length cap go gl gn gh n) 58)) w.heap.size w.heap.size bL w4.heap.size go gl gn gh n (playC t W n c T m d) l (.slice none 0 0) (startA l n) := by
    refine ⟨k0.keep hb5, kL.keep hb5, trep_start kt (ko.keep hb5) (kl.keep hb5) (kn.keep hb5) (kh.keep hb5) (own_keepb' hown hb5) ?_, World.ownsRow_nil _ _ _ _⟩
    have := HOK.out.sz
    rw [beginM_length]
    omega
  have hbl5 := below_tr hbl hb5
  have hbb : w3.heap.size ≤ w4.heap.size := hb4.size
  have hb35 := below_tr hb4 hb5
  clear k0 kL ko kl kn kh kt hown hbl hb4 hb5
  generalize w4.alloc (.cells (tabC g (beginM l).length cap go gl gn gh n) 58) = w5 at *
  generalize w4.heap.size = gt at *
  refine wpAnyE_take (i := 12) (oi := _) (v := ptr gt) rfl (by kernel_rfl) (by kernel_rfl) (by kernel_rfl) (by kernel_rfl) (fun _ _ _ h => h) (Or.inl ⟨by rfl, ?_⟩) hb35 ?_
  · intro w' hSw
    (try simp only [List.getElem_toArray, List.getElem_cons_succ, List.getElem_cons_zero])
    go_simp
  (try simp only [List.getElem_toArray, List.getElem_cons_succ, List.getElem_cons_zero, Act.put, List.setIfInBounds_toArray, List.set_cons_zero, List.set_cons_succ])
  refine wpAnyE_done (by kernel_rfl) ?_ _
  have HREP := Lib.hid hrep
  have HB : Hid (w.heap.size ≤ gt ∧ w.heap.size ≤ go ∧ w.heap.size ≤ gl ∧ w.heap.size ≤ gn ∧ w.heap.size ≤ gh) := Lib.hid (by omega)
  clear hrep hgo hgl hgn hgh hbb hb35
  go_wp2_with fail
  go_loopw [7, 8] (fun v7 i wr => P1Rel w.heap.size w.heap.size bL gt go gl gn gh n (playC t W n c T m d) l want turns w v7 i wr) (fun _ i _ => turns.length - (intOf i).toNat)
  case atStart => exact ⟨0, Nat.zero_le _, rfl, hbl5, HREP.out⟩
  case round =>
    have HREP0 := HREP
    clear HREP
    obtain ⟨k, hk, rfl, hb, hrep⟩ := hrel
    have kP := hrep.kP
    have kL := hrep.kL
    have q1 := kP.cell 1
    have q2 := kP.cell 2
    simp at q1 q2
    by_cases hlt : k < m
    · have g1 : (k : Int) < m := by omega
      obtain ⟨x, hx⟩ : ∃ x, turns[k]? = some x := ⟨_, List.getElem?_eq_getElem (by rw [HM.out]; exact hlt)⟩
      obtain ⟨bT, oT, rfl, hbT, hcT⟩ := HT.out (by rw [HM.out]; omega)
      obtain ⟨hc, hx256⟩ := hcT k x hx
      have HX := Lib.hid hx
      have HRU := Lib.hid hrep
      clear hcT hx hrep hk
      go_upto_region 8 with fail
      clear q1 q2
      have HREP : Hid (ARep wr.drew w.heap.size w.heap.size bL gt go gl gn gh n (playC t W n c (some ⟨bT, oT, none⟩) m d) l u7 (runA l want (startA l n) ((turns.take k).map (· % n)))) := Lib.hid (HRU.out.keep (Below.refl wr.heap.size wr).drew)
      refine wp_region_E (S := fun w' => StpL [gt, go, gl, gn, gh] wr.drew w') (E := fun _ => false) (by kernel_rfl) ?_
      replace kP := kP.drew
      replace kL := kL.drew
      replace hb := hb.drew
      clear HRU
      generalize wr.drew = w3 at *
      obtain ⟨ts, hts⟩ : ∃ ts, runA l want (startA l n) ((turns.take k).map (· % n)) = ts := ⟨_, rfl⟩
      rw [hts] at HREP
      have hnP := HREP.out.tab.notin kP (by decide) (by decide) (by decide) (by decide) (by decide)
      have hnL := HREP.out.tab.notin kL (by decide) (by decide) (by decide) (by decide) (by decide)
      have hB3 : w.heap.size < w3.heap.size := kP.lt
      have HGL2 : Hid (∀ g ∈ [gt, go, gl, gn, gh], w.heap.size ≤ g) := Lib.hid (by
        have := HB.out
        intro g hg
        simp only [List.mem_cons, List.not_mem_nil, or_false] at hg
        omega)
      have hcT : ∀ w', StpL [gt, go, gl, gn, gh] w3 w' → w'.cell? ⟨bT, oT + k, none⟩ = some (.int .u8 (x : Nat)) := fun w' st => ((st.below HGL2.out (by omega)).cell (p := ⟨bT, oT + k, none⟩) hbT).trans ((hb.cell (p := ⟨bT, oT + k, none⟩) hbT).trans hc)
      clear hc
      refine wpAnyE_take (i := 0) (oi := _) (v := .agg (lyC l)) rfl (by kernel_rfl) (by kernel_rfl) (by kernel_rfl) (by kernel_rfl) (fun _ _ _ h => h) (Or.inl ⟨by rfl, ?_⟩) (StpL.refl _ _) ?_
      · intro w' hSw
        (try simp only [List.getElem_toArray, List.getElem_cons_zero])
        simp only [execOp, Instr.loadAt, Instr.sureAddr, Sem.run_bind, Sem.run_pure]
        rw [show (Act.eval _ (Operand.tmp 4)) = Value.pointer (some ⟨bL, 0, none⟩) from rfl]
        simp only [Sem.run_pure, Result.andThen_ok, run_loadVar_row w' bL 31 31 (lyC l) (0, 0) _ (hSw.keep kL hnL) Try.underlying31 rfl (by kernel_rfl)]
      (try simp only [List.getElem_toArray, List.getElem_cons_zero, Act.put, List.setIfInBounds_toArray, List.set_cons_zero, List.set_cons_succ])
      refine wpAnyE_take (i := 1) (oi := _) (v := ptr gt) rfl (by kernel_rfl) (by kernel_rfl) (by kernel_rfl) (by kernel_rfl) (fun _ _ _ h => h) (Or.inl ⟨by rfl, ?_⟩) (StpL.refl _ _) ?_
      · intro w' hSw
        (try simp only [List.getElem_toArray, List.getElem_cons_succ, List.getElem_cons_zero])
        go_simp
      (try simp only [List.getElem_toArray, List.getElem_cons_succ, List.getElem_cons_zero, Act.put, List.setIfInBounds_toArray, List.set_cons_zero, List.set_cons_succ])
      refine wpAnyE_take (i := 2) (oi := _) (v := .pointer (some ⟨w.heap.size, 1, none⟩)) rfl (by kernel_rfl) (by kernel_rfl) (by kernel_rfl) (by kernel_rfl) (fun _ _ _ h => h) (Or.inl ⟨by rfl, ?_⟩) (StpL.refl _ _) ?_
      · intro w' hSw
        (try simp only [List.getElem_toArray, List.getElem_cons_succ, List.getElem_cons_zero])
        go_simp
      (try simp only [List.getElem_toArray, List.getElem_cons_succ, List.getElem_cons_zero, Act.put, List.setIfInBounds_toArray, List.set_cons_zero, List.set_cons_succ])
      refine wpAnyE_take (i := 3) (oi := _) (v := .slice W n c) rfl (by kernel_rfl) (by kernel_rfl) (by kernel_rfl) (by kernel_rfl) (fun _ _ _ h => h) (Or.inl ⟨by rfl, ?_⟩) (StpL.refl _ _) ?_
      · intro w' hSw
        have s1 := (hSw.keep kP hnP).cell 1
        (try simp at s1)
        (try simp only [List.getElem_toArray, List.getElem_cons_succ, List.getElem_cons_zero])
        go_simp
      (try simp only [List.getElem_toArray, List.getElem_cons_succ, List.getElem_cons_zero, Act.put, List.setIfInBounds_toArray, List.set_cons_zero, List.set_cons_succ])
      refine wpAnyE_take (i := 4) (oi := _) (v := .pointer (some ⟨w.heap.size, 2, none⟩)) rfl (by kernel_rfl) (by kernel_rfl) (by kernel_rfl) (by kernel_rfl) (fun _ _ _ h => h) (Or.inl ⟨by rfl, ?_⟩) (StpL.refl _ _) ?_
      · intro w' hSw
        (try simp only [List.getElem_toArray, List.getElem_cons_succ, List.getElem_cons_zero])
        go_simp
      (try simp only [List.getElem_toArray, List.getElem_cons_succ, List.getElem_cons_zero, Act.put, List.setIfInBounds_toArray, List.set_cons_zero, List.set_cons_succ])
      refine wpAnyE_take (i := 5) (oi := _) (v := .slice (some ⟨bT, oT, none⟩) m d) rfl (by kernel_rfl) (by kernel_rfl) (by kernel_rfl) (by kernel_rfl) (fun _ _ _ h => h) (Or.inl ⟨by rfl, ?_⟩) (StpL.refl _ _) ?_
      · intro w' hSw
        have s1 := (hSw.keep kP hnP).cell 2
        (try simp at s1)
        (try simp only [List.getElem_toArray, List.getElem_cons_succ, List.getElem_cons_zero])
        go_simp
      (try simp only [List.getElem_toArray, List.getElem_cons_succ, List.getElem_cons_zero, Act.put, List.setIfInBounds_toArray, List.set_cons_zero, List.set_cons_succ])
      refine wpAnyE_take (i := 6) (oi := _) (v := .int .i64 k) rfl (by kernel_rfl) (by kernel_rfl) (by kernel_rfl) (by kernel_rfl) (fun _ _ _ h => h) (Or.inl ⟨by rfl, ?_⟩) (StpL.refl _ _) ?_
      · intro w' hSw
        (try simp only [List.getElem_toArray, List.getElem_cons_succ, List.getElem_cons_zero])
        go_simp
      (try simp only [List.getElem_toArray, List.getElem_cons_succ, List.getElem_cons_zero, Act.put, List.setIfInBounds_toArray, List.set_cons_zero, List.set_cons_succ])
      refine wpAnyE_take (i := 7) (oi := _) (v := .pointer (some ⟨bT, oT + k, none⟩)) rfl (by kernel_rfl) (by kernel_rfl) (by kernel_rfl) (by kernel_rfl) (fun _ _ _ h => h) (Or.inl ⟨by rfl, ?_⟩) (StpL.refl _ _) ?_
      · intro w' hSw
        (try simp only [List.getElem_toArray, List.getElem_cons_succ, List.getElem_cons_zero])
        go_simp
      (try simp only [List.getElem_toArray, List.getElem_cons_succ, List.getElem_cons_zero, Act.put, List.setIfInBounds_toArray, List.set_cons_zero, List.set_cons_succ])
      refine wpAnyE_take (i := 8) (oi := _) (v := .int .u8 (x : Nat)) rfl (by kernel_rfl) (by kernel_rfl) (by kernel_rfl) (by kernel_rfl) (fun _ _ _ h => h) (Or.inl ⟨by rfl, ?_⟩) (StpL.refl _ _) ?_
      · intro w' hSw
        have s1 := hcT w' hSw
        (try simp at s1)
        (try simp only [List.getElem_toArray, List.getElem_cons_succ, List.getElem_cons_zero])
        go_simp
      (try simp only [List.getElem_toArray, List.getElem_cons_succ, List.getElem_cons_zero, Act.put, List.setIfInBounds_toArray, List.set_cons_zero, List.set_cons_succ])
      refine wpAnyE_take (i := 9) (oi := _) (v := .int .i64 (x : Nat)) rfl (by kernel_rfl) (by kernel_rfl) (by kernel_rfl) (by kernel_rfl) (fun _ _ _ h => h) (Or.inl ⟨by rfl, ?_⟩) (StpL.refl _ _) ?_
      · intro w' hSw
        have wx : IntKind.i64.wrap (x : Int) = x := IntWalk.i64_in _ (by omega)
        (try simp only [List.getElem_toArray, List.getElem_cons_succ, List.getElem_cons_zero])
        go_simp
      (try simp only [List.getElem_toArray, List.getElem_cons_succ, List.getElem_cons_zero, Act.put, List.setIfInBounds_toArray, List.set_cons_zero, List.set_cons_succ])
      refine wpAnyE_take (i := 10) (oi := _) (v := .int .i64 n) rfl (by kernel_rfl) (by kernel_rfl) (by kernel_rfl) (by kernel_rfl) (fun _ _ _ h => h) (Or.inl ⟨by rfl, ?_⟩) (StpL.refl _ _) ?_
      · intro w' hSw
        (try simp only [List.getElem_toArray, List.getElem_cons_succ, List.getElem_cons_zero])
        go_simp
      (try simp only [List.getElem_toArray, List.getElem_cons_succ, List.getElem_cons_zero, Act.put, List.setIfInBounds_toArray, List.set_cons_zero, List.set_cons_succ])
      refine wpAnyE_take (i := 11) (oi := _) (v := .int .i64 ((x % n : Nat) : Nat)) rfl (by kernel_rfl) (by kernel_rfl) (by kernel_rfl) (by kernel_rfl) (fun _ _ _ h => h) (Or.inl ⟨by rfl, ?_⟩) (StpL.refl _ _) ?_
      · intro w' hSw
        have gz : ¬ n = 0 := by omega
        (try simp only [List.getElem_toArray, List.getElem_cons_succ, List.getElem_cons_zero])
        go_simp
        rw [Int.tmod_eq_emod_of_nonneg (by omega)]
      (try simp only [List.getElem_toArray, List.getElem_cons_succ, List.getElem_cons_zero, Act.put, List.setIfInBounds_toArray, List.set_cons_zero, List.set_cons_succ])
      have HW1 : Hid (∀ x ∈ (turns.take k).map (· % n), x < n) := Lib.hid (fun y hy => by
        simp only [List.mem_map] at hy
        obtain ⟨z, _, rfl⟩ := hy
        exact Nat.mod_lt _ h1)
      have HW2 : Hid (((turns.take k).map (· % n)).length ≤ 800) := Lib.hid (by simp; have := HM.out; omega)
      obtain ⟨who, hwho⟩ : ∃ y, x % n = y := ⟨_, rfl⟩
      rw [hwho]
      have HWHO := Lib.hid hwho
      have hwn : who < n := by rw [← hwho]; exact Nat.mod_lt _ h1
      clear hx256
      have HCALL : Hid (∀ w2, TRep w2 gt go gl gn gh n ts.1 → Below w.heap.size w w2 → Calls Try.prog 19 #[lyV l, ptr gt, .slice W n c, .int .i64 (who : Nat)] w2 (TurnPost gt go gl gn gh n (turnA l want who ts.1) w2)) := Lib.hid (fun w2 hT2 hb2 => by
        have h := turn_call HOK.out HFL.out (B := w.heap.size) h1 h2 want HN.out ((turns.take k).map (· % n)) HW1.out HW2.out who hwn W c gt go gl gn gh HB.out w2 (by rw [hts]; exact hT2) (HW.out.below hb2)
        rw [hts] at h
        exact h)
      have HSTEP : Hid ((turnA l want who ts.1) = turnA l want who ts.1) := Lib.hid rfl
      obtain ⟨r, hr⟩ : ∃ r, turnA l want who ts.1 = r := ⟨_, rfl⟩
      rw [hr] at HCALL
      obtain ⟨t', ht'⟩ : ∃ y, r.1 = y := ⟨_, rfl⟩
      obtain ⟨is, his⟩ : ∃ y, r.2.isSome = y := ⟨_, rfl⟩
      obtain ⟨st, hst⟩ : ∃ y, r.2.getD step0 = y := ⟨_, rfl⟩
      obtain ⟨sc, hsc⟩ : ∃ y, stepC st = y := ⟨_, rfl⟩
      have HSC : Hid (sc = stepC st) := Lib.hid hsc.symm
      have HSC1 : Hid (sc.all (·.oneCell') = true) := Lib.hid (by rw [← hsc]; simp [Value.oneCell'])
      obtain ⟨t0', ht0⟩ : ∃ y, ts.1 = y := ⟨_, rfl⟩
      have HTS := Lib.hid (And.intro hts (And.intro hr (And.intro ht' (And.intro his (And.intro hst ht0)))))
      have HCALL : Hid (∀ w2, TRep w2 gt go gl gn gh n t0' → Below w.heap.size w w2 → Calls Try.prog 19 #[lyV l, ptr gt, .slice W n c, .int .i64 (who : Nat)] w2 fun e w' => e = .returned (.tuple #[.agg sc, .bool is]) ∧ TRep w' gt go gl gn gh n t' ∧ StpL [gt, go, gl, gn, gh] w2 w') := Lib.hid (fun w2 hT2 hb2 => by
        have h := HCALL.out w2 (by rw [ht0]; exact hT2) hb2
        refine h.mono fun e w' he => ?_
        obtain ⟨e1, e2, e3⟩ := he
        rw [hst, his, hsc] at e1
        rw [ht'] at e2
        exact ⟨e1, e2, e3⟩)
      have HTAB : Hid (TRep w3 gt go gl gn gh n t0') := Lib.hid (by rw [← ht0]; exact HREP.out.tab)
      have HGL : Hid (∀ g ∈ [gt, go, gl, gn, gh], g < w3.heap.size) := Lib.hid (by
        obtain ⟨c1, c2, c3, c4, c5, k1, k2, k3, k4, k5⟩ := HREP.out.tab.tys
        have := k1.lt; have := k2.lt; have := k3.lt; have := k4.lt; have := k5.lt
        intro g hg
        simp only [List.mem_cons, List.not_mem_nil, or_false] at hg
        omega)
      clear hts hr ht' his hst ht0 hsc HSTEP hwho hwn
      refine wpAnyE_dag (U := [12, 13, 14, 15, 16, 17, 18]) (tmp := plT1) (pre := plP 12) (T := fun w' => StpL [gt, go, gl, gn, gh] w3 w') (N := plN 12 gt go gl gn gh n t0') (G := plG 12 w3.heap.size [gt, go, gl, gn, gh]) (R := plR 12 w3.heap.size gt go gl gn gh n t' sc is) (by kernel_rfl) (fun _ _ => rfl) (fun w2 h => h) (StpL.refl _ _) (fun i hi w2 w4 h1 h2 => plT_keep h1 h2) (fun i hi e => HTAB.out) (fun i hi j hj hij w1 w2 hT hN hG => plN_keep hij hN hG)
        (fun i hi j hj hij val v u w2 w4 hT hvi hvj hp hr hg => plR_keep HGL.out hij hvi hvj hr hg) (fun i hi o ho val w4 K hvn hT hN hpre hK => ?_) 0 (fun val w4 hall hT => ?_)
      · simp only [List.mem_cons, List.not_mem_nil, or_false] at hi
        rcases hi with rfl | rfl | rfl | rfl | rfl | rfl | rfl
        · obtain rfl := Option.some.inj ho
          simp only [show plP 12 12 = [] from rfl, actOf] at hK ⊢
          go_simp
          (with_reducible refine (HCALL.out w4 (plN_at hN) (below_trans hb (hT.below HGL2.out (Nat.le_of_lt hB3)))).mono ?_)
          rintro e w5 ⟨rfl, hT5, hst⟩
          exact hK _ _ ⟨rfl, hT5⟩ hst
        · obtain rfl := Option.some.inj ho
          obtain ⟨v, e, rfl, -⟩ := hpre 12 (by simp [plP])
          simp only [show plP 12 13 = [12] from rfl, actOf, e, plT1] at hK ⊢
          go_simp
          exact hK _ _ rfl (Below.refl _ _)
        · obtain rfl := Option.some.inj ho
          obtain ⟨v, e, rfl⟩ := hpre 13 (by simp [plP])
          simp only [show plP 12 14 = [13] from rfl, actOf, e, plT1] at hK ⊢
          go_simp
          exact hK _ _ rfl (Below.refl _ _)
        · obtain rfl := Option.some.inj ho
          obtain ⟨v, e, rfl⟩ := hpre 13 (by simp [plP])
          simp only [show plP 12 15 = [13] from rfl, actOf, e, plT1] at hK ⊢
          go_simp
          exact hK _ _ rfl (Below.refl _ _)
        · obtain rfl := Option.some.inj ho
          simp only [show plP 12 16 = [] from rfl, actOf] at hK ⊢
          go_simp
          exact hK _ _ ⟨_, rfl, hT.size, fun _ => Bk.made _ _ _⟩ (below_al (Below.refl _ _) _)
        · obtain rfl := Option.some.inj ho
          obtain ⟨v, e, -⟩ := hpre 12 (by simp [plP])
          obtain ⟨v2, e2, rfl⟩ := hpre 14 (by simp [plP])
          obtain ⟨v4, e4, ga, rfl, hga, k4⟩ := hpre 16 (by simp [plP])
          have ka := k4 hvn
          simp only [show plP 12 17 = [12, 14, 16] from rfl, actOf, e, e2, e4, plT1] at hK ⊢
          (try simp only [List.getElem_toArray, List.getElem_cons_succ, List.getElem_cons_zero])
          refine wp_store_row 49 (.tmp 9) (.tmp 53) rfl ga sc rfl rfl 49 stepZ ka (by rw [HSC.out]; kernel_rfl) (by rw [HSC.out]; rfl) HSC1.out ?_
          exact hK undef _ ⟨ga, by simp [upd, e4], hga, setRow_heap _ _ _ _ _ _ ka⟩ ⟨keptT_row ka, below_setRowB ⟨rfl, rfl, rfl, Nat.le_refl _, fun _ _ => rfl⟩ hga _⟩
        · obtain rfl := Option.some.inj ho
          obtain ⟨v, e, rfl⟩ := hpre 15 (by simp [plP])
          simp only [show plP 12 18 = [15] from rfl, actOf, e, plT1] at hK ⊢
          go_simp
          exact hK _ _ rfl (Below.refl _ _)
      obtain ⟨v0, e0, rfl, hT4⟩ := hall 12 (by simp)
      obtain ⟨v1, e1, rfl⟩ := hall 13 (by simp)
      obtain ⟨v2, e2, rfl⟩ := hall 14 (by simp)
      obtain ⟨v3, e3, rfl⟩ := hall 15 (by simp)
      obtain ⟨v4, e4, ga, rfl, hga, -⟩ := hall 16 (by simp)
      obtain ⟨v5, e5, gb, h5, hgb, kb⟩ := hall 17 (by simp)
      obtain ⟨v6, e6, rfl⟩ := hall 18 (by simp)
      rw [e4] at h5
      injection h5 with h5
      injection h5 with h5
      injection h5 with h5
      injection h5 with h5
      subst h5
      clear hall
      refine wpAnyE_done (by simp only [lstOf, e0, e1, e2, e3, e4, e5, e6, Option.isSome_some, if_true]; kernel_rfl) ?_ _
      simp only [actOf, e0, e1, e2, e3, e4, e5, e6, plT1]
      clear e0 e1 e2 e3 e4 e5 e6
      (try simp only [Act.put, List.setIfInBounds_toArray, List.set_cons_zero, List.set_cons_succ, List.set_nil])
      have hb4 := below_trans hb (hT.below HGL2.out (Nat.le_of_lt hB3))
      have kP4 := hT.keep kP hnP
      have kL4 := hT.keep kL hnL
      have ho4 := own_stpL HREP.out.tab hT HREP.out.out (by decide) (by decide) (by decide) (by decide) (by decide)
      clear hT hcT kP kL hnP hnL HCALL HTAB HGL hb
      cases is with
      | false =>
        go_wp2_with fail
        have e : runA l want (startA l n) ((turns.take (k + 1)).map (· % n)) = (t', ts.2) := by
          have h := HTS.out
          rw [run_take HX.out, h.1, HWHO.out, h.2.1, h.2.2.1]
          have h4 := h.2.2.2.1
          have : r.2 = none := by cases hr2 : r.2 <;> simp_all
          rw [this]
          simp
        refine ⟨⟨k + 1, by rw [HM.out]; omega, by go_num, hb4, ?_⟩, by rw [HM.out]; simp [intOf]; omega⟩
        rw [e]
        exact ⟨kP4, kL4, hT4, ho4⟩
      | true =>
        have hsc := HSC.out
        subst hsc
        have ho5 := World.ownsRow.alloc ho4 (.cells (stepC st) 49)
        have hb5 := below_al hb4 (.cells (stepC st) 49)
        have hoc : ∀ u ∈ (stepC st).toList, u.oneCell' = true := fun u hu => (Array.all_eq_true_iff_forall_mem.1 HSC1.out) u (by simpa using hu)
        have hsz : (stepC st).size = 17 := rfl
        obtain ⟨no, hno⟩ : ∃ y, ts.2.length = y := ⟨_, rfl⟩
        have hno2 : no ≤ 1000 := by
          rw [← hno]
          have h0 := HW2.out
          have := (run_ok HOK.out n want ((turns.take k).map (· % n)) HW1.out (by omega)).len
          rw [HTS.out.1] at this
          omega
        have hno3 : ARep w3 w.heap.size w.heap.size bL gt go gl gn gh n (playC t W n c (some ⟨bT, oT, none⟩) m d) l u7 ts := HREP.out
        rw [hno] at ho4 ho5
        obtain ⟨so, hso⟩ : ∃ y, stepsC ts.2 = y := ⟨_, rfl⟩
        rw [hso] at ho4 ho5
        have HSO := Lib.hid (And.intro hno hso)
        clear hno hso hno3
        obtain ⟨i0, hi0, hz0, hz1, hz2⟩ := info_parts step_info
        go_wp2_with (first
          | (refine wpList_load_row rfl 49 (.tmp 9) rfl ga rfl 49 (stepC st) (0, 0) _ kb Try.underlying49 rfl (by kernel_rfl) ?_)
          | (at_builtin; go_must (refine wpList_append_own_at _ rfl (.tmp 56) (.tmp 58) _ rfl w.heap.size 49 i0 _ 17 152 Try.underlying33 hi0 hz0 hz1 hz2 rfl (by omega) u7 no so rfl ho5 ⟨w4.heap.size, 0, none⟩ 1 1 (stepC st).toList rfl rfl (step_news w4 _) hoc (by simp only [maxLen]; omega) (by omega) (by simp; have := hb4.size; omega) ?_; intro v9 w5 hrow4 hgrow4 _ _)))
        have hk5 := keptT_grown ho5 hgrow4
        have hba := below_al (Below.refl w4.heap.size w4) (.cells (stepC st) 49)
        have e : runA l want (startA l n) ((turns.take (k + 1)).map (· % n)) = (t', ts.2 ++ [st]) := by
          have h := HTS.out
          rw [run_take HX.out, h.1, HWHO.out, h.2.1, h.2.2.1]
          have h4 := h.2.2.2.1
          have h5 := h.2.2.2.2.1
          cases hr2 : r.2 with
          | none => rw [hr2] at h4; simp at h4
          | some q => rw [hr2] at h5; simp at h5; rw [h5]; simp
        refine ⟨⟨k + 1, by rw [HM.out]; omega, by go_num, below_grow hb5 ho5 hgrow4 hb5.size (Nat.le_refl _), ?_⟩, by rw [HM.out]; simp [intOf]; omega⟩
        rw [e]
        refine ⟨(kP4.keep hba).keptT hk5 (by decide), (kL4.keep hba).keptT hk5 (by decide), (hT4.keep hba).keptT hk5 (by decide) (by decide) (by decide) (by decide) (by decide) (by decide), ?_⟩
        dsimp only
        rw [List.length_append, stepsC_snoc, HSO.out.1, HSO.out.2]
        exact hrow4
    · have g1 : decide ((k : Int) < m) = false := by simp; omega
      have hkm : k = turns.length := by have := HM.out; omega
      have HREP : Hid (ARep wr w.heap.size w.heap.size bL gt go gl gn gh n (playC t W n c T m d) l u7 (runA l want (startA l n) (w2A n turns 0 0))) := Lib.hid (by
        rw [hkm, List.take_length] at hrep
        rw [w2A_zero]
        exact hrep)
      clear hrep kP kL hkm hk HREP0
      go_upto_region 12 with fail
      clear q1 q2 g1
      go_loopw [7, 11] (fun v7 v11 wr => P2Rel w.heap.size w.heap.size bL gt go gl gn gh n (playC t W n c T m d) l want turns w v7 v11 wr) (fun _ v11 _ => n - (intOf v11).toNat)
      case atStart => exact ⟨0, Nat.zero_le _, rfl, hb, HREP.out⟩
      case round =>
        clear HREP hlt hb
        obtain ⟨k, hk, rfl, hb, hrep⟩ := hrel
        by_cases hlt : k < n
        · have g1 : (k : Int) < n := by omega
          have HREP := Lib.hid hrep
          clear hrep
          go_upto_region 15 with fail
          go_loopw [7, 12] (fun v7 v12 wr => P3Rel w.heap.size w.heap.size bL gt go gl gn gh n (playC t W n c T m d) l want turns w k v7 v12 wr) (fun _ v12 _ => 60 - (intOf v12).toNat)
          case atStart => exact ⟨0, by omega, rfl, hb, HREP.out⟩
          case round =>
            clear HREP hb
            obtain ⟨j, hj, rfl, hb, hrep⟩ := hrel
            have kP := hrep.kP
            have kL := hrep.kL
            by_cases hlj : j < 60
            · have g2 : (j : Int) < 60 := by omega
              have HREP := Lib.hid hrep
              clear hrep hj hk
              obtain ⟨ts, hts⟩ : ∃ ts, runA l want (startA l n) (w2A n turns k j) = ts := ⟨_, rfl⟩
              rw [hts] at HREP
              have hnP := HREP.out.tab.notin kP (by decide) (by decide) (by decide) (by decide) (by decide)
              have hnL := HREP.out.tab.notin kL (by decide) (by decide) (by decide) (by decide) (by decide)
              have hB3 : w.heap.size < wr.heap.size := kP.lt
              have HGL2 : Hid (∀ g ∈ [gt, go, gl, gn, gh], w.heap.size ≤ g) := Lib.hid (by
                have := HB.out
                intro g hg
                simp only [List.mem_cons, List.not_mem_nil, or_false] at hg
                omega)
              have HW1 : Hid (∀ x ∈ w2A n turns k j, x < n) := Lib.hid (w2A_lt h1 turns hlt j)
              have HW2 : Hid ((w2A n turns k j).length ≤ 800) := Lib.hid (by rw [w2A_length]; have := HM.out; omega)
              obtain ⟨r, hr⟩ : ∃ r, turnA l want k ts.1 = r := ⟨_, rfl⟩
              obtain ⟨t', ht'⟩ : ∃ y, r.1 = y := ⟨_, rfl⟩
              obtain ⟨is, his⟩ : ∃ y, r.2.isSome = y := ⟨_, rfl⟩
              obtain ⟨st, hst⟩ : ∃ y, r.2.getD step0 = y := ⟨_, rfl⟩
              obtain ⟨t0', ht0⟩ : ∃ y, ts.1 = y := ⟨_, rfl⟩
              have HTS := Lib.hid (And.intro hts (And.intro hr (And.intro ht' (And.intro his (And.intro hst ht0)))))
              have HCALL : Hid (∀ w2, TRep w2 gt go gl gn gh n t0' → Below w.heap.size w w2 → Calls Try.prog 19 #[lyV l, ptr gt, .slice W n c, .int .i64 (k : Nat)] w2 fun e w' => e = .returned (.tuple #[.agg (stepC st), .bool is]) ∧ TRep w' gt go gl gn gh n t' ∧ StpL [gt, go, gl, gn, gh] w2 w') := Lib.hid (fun w2 hT2 hb2 => by
                have h := turn_call HOK.out HFL.out (B := w.heap.size) h1 h2 want HN.out (w2A n turns k j) HW1.out HW2.out k hlt W c gt go gl gn gh HB.out w2 (by rw [hts, ht0]; exact hT2) (HW.out.below hb2)
                rw [hts, hr] at h
                refine h.mono fun e w' he => ?_
                obtain ⟨e1, e2, e3⟩ := he
                rw [hst, his] at e1
                rw [ht'] at e2
                exact ⟨e1, e2, e3⟩)
              have HTAB : Hid (TRep wr gt go gl gn gh n t0') := Lib.hid (by rw [← ht0]; exact HREP.out.tab)
              clear hts hr ht' his hst ht0
              have q1 := kP.cell 1
              simp at q1
              go_wp2_with (refine wpList_load_row rfl 31 (.tmp 4) rfl bL rfl 31 (lyC l) (0, 0) _ kL Try.underlying31 rfl (by kernel_rfl) ?_)
              (with_reducible refine (HCALL.out wr HTAB.out hb).mono ?_)
              rintro e w3 ⟨rfl, hT3, hT⟩
              have hb3 := below_trans hb (hT.below HGL2.out (Nat.le_of_lt hB3))
              have kP3 := hT.keep kP hnP
              have kL3 := hT.keep kL hnL
              have ho3 := own_stpL HREP.out.tab hT HREP.out.out (by decide) (by decide) (by decide) (by decide) (by decide)
              have HT3 := Lib.hid hT3
              clear hT g1 kP kL hnP hnL HCALL HTAB hb q1 hT3
              go_upto_region 18 with (refine wpList_store_new rfl 49 (.tmp 13) (.tmp 76) rfl rfl w3.heap.size _ _ (stepC st) rfl rfl rfl rfl (by kernel_rfl) rfl (by simp [Value.oneCell']) ?_)
              have kb := Bk.made w3 49 (stepC st)
              have hbb := below_al (Below.refl w3.heap.size w3) (.cells (stepC st) 49)
              have hb4 := below_al hb3 (.cells (stepC st) 49)
              have kP4 := kP3.keep hbb
              have kL4 := kL3.keep hbb
              have hT4 := HT3.out.keep hbb
              have ho4 := own_keepb' ho3 hbb
              clear hb3 kP3 kL3 HT3 ho3 hbb
              generalize w3.alloc (.cells (stepC st) 49) = w4 at *
              generalize w3.heap.size = ga at *
              cases is with
              | false =>
                go_wp2_with fail
                have e : runA l want (startA l n) (w2A n turns k (j + 1)) = (t', ts.2) := by
                  have h := HTS.out
                  rw [run_w2 (k := k) (j := j), h.1, h.2.1, h.2.2.1]
                  have h4 := h.2.2.2.1
                  have : r.2 = none := by cases hr2 : r.2 <;> simp_all
                  rw [this]
                  simp
                refine ⟨⟨j + 1, by omega, by go_num, hb4, ?_⟩, by simp [intOf]; omega⟩
                rw [e]
                exact ⟨kP4, kL4, hT4, ho4⟩
              | true =>
                have ho5 := World.ownsRow.alloc ho4 (.cells (stepC st) 49)
                have hb5 := below_al hb4 (.cells (stepC st) 49)
                have hoc : ∀ u ∈ (stepC st).toList, u.oneCell' = true := by simp [Value.oneCell']
                obtain ⟨no, hno⟩ : ∃ y, ts.2.length = y := ⟨_, rfl⟩
                have hno2 : no ≤ 1000 := by
                  rw [← hno]
                  have h0 := HW2.out
                  have := (run_ok HOK.out n want (w2A n turns k j) HW1.out (by omega)).len
                  rw [HTS.out.1] at this
                  omega
                rw [hno] at ho4 ho5
                obtain ⟨so, hso⟩ : ∃ y, stepsC ts.2 = y := ⟨_, rfl⟩
                rw [hso] at ho4 ho5
                have HSO := Lib.hid (And.intro hno hso)
                have HT4 := Lib.hid hT4
                clear hno hso hT4
                obtain ⟨i0, hi0, hz0, hz1, hz2⟩ := info_parts step_info
                go_wp2_with (first
                  | (refine wpList_load_row rfl 49 (.tmp 13) rfl ga rfl 49 (stepC st) (0, 0) _ kb Try.underlying49 rfl (by kernel_rfl) ?_)
                  | (at_builtin; go_must (refine wpList_append_own_at _ rfl (.tmp 79) (.tmp 81) _ rfl w.heap.size 49 i0 _ 17 152 Try.underlying33 hi0 hz0 hz1 hz2 rfl (by omega) u7 no so rfl ho5 ⟨w4.heap.size, 0, none⟩ 1 1 (stepC st).toList rfl rfl (step_news w4 _) hoc (by simp only [maxLen]; omega) (by omega) (by simp; have := hb4.size; omega) ?_; intro v9 w5 hrow4 hgrow4 _ _)))
                have hk5 := keptT_grown ho5 hgrow4
                have hba := below_al (Below.refl w4.heap.size w4) (.cells (stepC st) 49)
                have e : runA l want (startA l n) (w2A n turns k (j + 1)) = (t', ts.2 ++ [st]) := by
                  have h := HTS.out
                  rw [run_w2 (k := k) (j := j), h.1, h.2.1, h.2.2.1]
                  have h4 := h.2.2.2.1
                  have h5 := h.2.2.2.2.1
                  cases hr2 : r.2 with
                  | none => rw [hr2] at h4; simp at h4
                  | some q => rw [hr2] at h5; simp at h5; rw [h5]; simp
                refine ⟨⟨j + 1, by omega, by go_num, below_grow hb5 ho5 hgrow4 hb5.size (Nat.le_refl _), ?_⟩, by simp [intOf]; omega⟩
                rw [e]
                refine ⟨(kP4.keep hba).keptT hk5 (by decide), (kL4.keep hba).keptT hk5 (by decide), (HT4.out.keep hba).keptT hk5 (by decide) (by decide) (by decide) (by decide) (by decide) (by decide), ?_⟩
                dsimp only
                rw [List.length_append, stepsC_snoc, HSO.out.1, HSO.out.2]
                exact hrow4
            · have g2 : decide ((j : Int) < 60) = false := by simp; omega
              have hj60 : j = 60 := by omega
              subst hj60
              have HREP := Lib.hid hrep
              clear hrep kP kL
              go_wp2_with fail
              refine ⟨⟨k + 1, by omega, by go_num, hb, ?_⟩, by simp [intOf]; omega⟩
              rw [w2A_next]
              exact HREP.out
        · have g1 : decide ((k : Int) < n) = false := by simp; omega
          have hkn : k = n := by omega
          subst hkn
          have HREP := Lib.hid hrep
          clear hrep
          have ho := HREP.out.out
          obtain ⟨A, cap, rfl⟩ := own_slice ho
          have e : runA l want (startA l k) (w2A k turns k 0) = endA l k want turns := by rw [endA, w2A_end]
          have h := HREP.out
          rw [e] at h
          obtain ⟨no, hno⟩ : ∃ y, (endA l k want turns).2.length = y := ⟨_, rfl⟩
          have e2 : (runA l want (startA l k) (w2A k turns k 0)).2.length = no := by rw [e]; exact hno
          have HX := Lib.hid (And.intro h.out (And.intro h.tab hb))
          rw [e2]
          clear h e hb HREP ho
          go_wp2
          exact bodyPost_ret (v := .tuple #[.slice A no cap, ptr gt]) (by simp [results, Try.results10, go_sem]) rfl ⟨A, cap, gt, go, gl, gn, gh, by rw [hno], by rw [hno]; have := HX.out.1; rwa [hno] at this, HX.out.2.1, HX.out.2.2⟩
end Go.Proofs.Ytbcgjolcfagboaa
