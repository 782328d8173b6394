/- Regions that draw their order. wpAnyE: as the kit's wpAnyH, but S is not asked behind the operations of E (the last store); so a load of the cell that the last store writes may be taken first, too. wpAnyE_app2: 'append(append([]T{}, src...), elem)' in whatever order, once for all. -/
import Derived.Test.YtgjdjgainjedhaaLib
import Derived.Deep.RegionHeld
import Derived.Maps.AppendAt
import Derived.OwnWalk
import Derived.Great.BuildSlice
import Derived.Deep.AppendLies
import Derived.WideShapes
namespace Go.Proofs.Ytgjdjgainjedhaa
open Go.RowKit
set_option linter.unusedVariables false
section
variable {P : Program} {ops : Array Oper} {Q : Exit → Act → World → Prop} {md : Region.Mode} {S : World → Prop} {E : Nat → Bool}

def wpAnyE (P : Program) (md : Region.Mode) (ops : Array Oper) (Q : Exit → Act → World → Prop) (S : World → Prop) (E : Nat → Bool) : Nat → Array Bool → Act → World → Prop
  | 0, listed, a, w => Region.ready md ops listed = [] ∧ Q .normal a w
  | fuel + 1, listed, a, w =>
    (Region.ready md ops listed = [] → Q .normal a w) ∧
    ∀ i ∈ Region.ready md ops listed, wpOp P ops Q i (fun a' w' => (E i = false → S w → S w') ∧ wpAnyE P md ops Q S E fuel (listed.setIfInBounds i true) a' w') a w
theorem wpAny_of_E : ∀ (fuel : Nat) (listed : Array Bool) (a : Act) (w : World), wpAnyE P md ops Q S E fuel listed a w → wpAny P md ops Q fuel listed a w
  | 0, _, _, _, h => h
  | fuel + 1, _, _, _, h => ⟨h.1, fun i hi => wpOp_mono (fun a' w' h' => wpAny_of_E fuel _ a' w' h'.2) (h.2 i hi)⟩
/-- The operations of E wait for number i. -/
def waitsE (md : Region.Mode) (ops : Array Oper) (E : Nat → Bool) (i : Nat) : Bool :=
  (List.range ops.size).all fun j => !E j || j == i || ((ops[j]?).map fun o => o.after.any fun e => Region.binds md e && e.on == i).getD true
theorem waitsE_spec {i : Nat} (h : waitsE md ops E i = true) : ∀ j oj, ops[j]? = some oj → E j = true → j ≠ i → ∃ e ∈ oj.after, Region.binds md e = true ∧ e.on = i := by
  intro j oj hj hE hne
  have hlt : j < ops.size := (Array.getElem?_eq_some_iff.1 hj).1
  have h1 := List.all_eq_true.1 h j (List.mem_range.2 hlt)
  rw [hj, hE] at h1
  have hne' : (j == i) = false := by simp [hne]
  simp only [hne', Bool.not_true, Bool.false_or, Option.map_some, Option.getD_some] at h1
  obtain ⟨k, hk, hk2⟩ := Array.any_eq_true.1 h1
  simp only [Bool.and_eq_true, beq_iff_eq] at hk2
  exact ⟨oj.after[k], Array.getElem_mem hk, hk2.1, hk2.2⟩
theorem wpAnyE_take {i : Nat} {oi : Oper} {v : Value} {fuel : Nat} {listed : Array Bool} {a : Act} {w : World} (hi : ops[i]? = some oi)
    (hs : Region.noSelect ops = true) (hf : Region.free md ops listed i = true) (hr : (Region.ready md ops listed).contains i = true) (hE : waitsE md ops E i = true)
    (hQ : ∀ c a w, Q (.panic c) (a.put oi.dst v) w → Q (.panic c) a w) (hy : YieldsIf P ops S oi v a) (hS : S w)
    (h : wpAnyE P md ops Q S E fuel (listed.setIfInBounds i true) (a.put oi.dst v) w) : wpAnyE P md ops Q S E (fuel + 1) listed a w := by
  have hsel := Region.noSelect_spec hs
  have hwait := waitsE_spec hE
  have key : ∀ (fuel : Nat) (listed : Array Bool) (a : Act) (w : World),
      (∀ j oj, ops[j]? = some oj → j ≠ i → listed.getD j true = false → (∀ e ∈ oj.after, Region.binds md e = true → e.on ≠ i) → oi.apart ops oj = true) →
      i ∈ Region.ready md ops listed → YieldsIf P ops S oi v a → S w →
      wpAnyE P md ops Q S E fuel (listed.setIfInBounds i true) (a.put oi.dst v) w → wpAnyE P md ops Q S E (fuel + 1) listed a w := by
    intro fuel
    induction fuel with
    | zero =>
      intro listed a w _ hr hy hS H
      refine ⟨fun h => (by rw [h] at hr; cases hr), fun j hj => ?_⟩
      by_cases hji : j = i
      · subst hji
        exact hy.wpOp hi hS ⟨fun _ _ => hS, H⟩
      · exact absurd (ready_mono hj hji) (by rw [H.1]; simp)
    | succ fuel ih =>
      intro listed a w hfree hr hy hS H
      refine ⟨fun h => (by rw [h] at hr; cases hr), fun j hj => ?_⟩
      by_cases hji : j = i
      · subst hji
        exact hy.wpOp hi hS ⟨fun _ _ => hS, H⟩
      · obtain ⟨hjun, oj, hoj, hall⟩ := mem_ready.1 hj
        have hnot : ∀ e ∈ oj.after, Region.binds md e = true → e.on ≠ i := fun e he hb heq => by
          have g1 := hall e he hb
          have g0 := (mem_ready.1 hr).1
          rw [heq] at g1
          rcases Nat.lt_or_ge i listed.size with h' | h'
          · simp [h'] at g0 g1; rw [g0] at g1; cases g1
          · simp [Array.getElem?_eq_none h'] at g1
        have hEj : E j = false := by
          cases hc : E j with
          | false => rfl
          | true =>
            obtain ⟨e, he, hb, hon⟩ := hwait j oj hoj hc hji
            exact absurd hon (hnot e he hb)
        have h2 := wpOp_putIf hoj (hfree j oj hoj hji hjun hnot) (fun cs b => hsel i oi cs b hi) (fun cs b => hsel j oj cs b hoj) hQ hy (H.2 j (ready_mono hj hji))
        refine wpOp_mono (fun a' w' h3 => ⟨h3.2.1, ih (listed.setIfInBounds j true) a' w' (fun k ok hk hki hun hno => hfree k ok hk hki ?_ hno) (ready_mono hr (Ne.symm hji)) h3.1 (h3.2.1 hEj hS) ?_⟩) h2
        · by_cases hjk : j = k
          · subst hjk; exact hjun
          · rw [Go.getD_set_ne true hjk] at hun; exact hun
        · rw [Array.setIfInBounds_comm _ _ hji]
          exact h3.2.2
  exact key fuel listed a w (Region.free_spec hi hf) (by simpa using hr) hy hS h
/-- One that reads no memory: whatever the world is. -/
theorem wpAnyE_takeW {i : Nat} {oi : Oper} {v : Value} {fuel : Nat} {listed : Array Bool} {a : Act} {w : World} (hi : ops[i]? = some oi)
    (hs : Region.noSelect ops = true) (hf : Region.free md ops listed i = true) (hr : (Region.ready md ops listed).contains i = true)
    (hQ : ∀ c a w, Q (.panic c) (a.put oi.dst v) w → Q (.panic c) a w) (hy : YieldsIf P ops (fun _ => True) oi v a)
    (h : wpAnyE P md ops Q S E fuel (listed.setIfInBounds i true) (a.put oi.dst v) w) : wpAnyE P md ops Q S E (fuel + 1) listed a w := by
  have hsel := Region.noSelect_spec hs
  have key : ∀ (fuel : Nat) (listed : Array Bool) (a : Act) (w : World),
      (∀ j oj, ops[j]? = some oj → j ≠ i → listed.getD j true = false → (∀ e ∈ oj.after, Region.binds md e = true → e.on ≠ i) → oi.apart ops oj = true) →
      i ∈ Region.ready md ops listed → YieldsIf P ops (fun _ => True) oi v a →
      wpAnyE P md ops Q S E fuel (listed.setIfInBounds i true) (a.put oi.dst v) w → wpAnyE P md ops Q S E (fuel + 1) listed a w := by
    intro fuel
    induction fuel with
    | zero =>
      intro listed a w _ hr hy H
      refine ⟨fun h => (by rw [h] at hr; cases hr), fun j hj => ?_⟩
      by_cases hji : j = i
      · subst hji
        exact hy.wpOp hi trivial ⟨fun _ h => h, H⟩
      · exact absurd (ready_mono hj hji) (by rw [H.1]; simp)
    | succ fuel ih =>
      intro listed a w hfree hr hy H
      refine ⟨fun h => (by rw [h] at hr; cases hr), fun j hj => ?_⟩
      by_cases hji : j = i
      · subst hji
        exact hy.wpOp hi trivial ⟨fun _ h => h, H⟩
      · obtain ⟨hjun, oj, hoj, hall⟩ := mem_ready.1 hj
        have hnot : ∀ e ∈ oj.after, Region.binds md e = true → e.on ≠ i := fun e he hb heq => by
          have g1 := hall e he hb
          have g0 := (mem_ready.1 hr).1
          rw [heq] at g1
          rcases Nat.lt_or_ge i listed.size with h' | h'
          · simp [h'] at g0 g1; rw [g0] at g1; cases g1
          · simp [Array.getElem?_eq_none h'] at g1
        have h2 := wpOp_putIf hoj (hfree j oj hoj hji hjun hnot) (fun cs b => hsel i oi cs b hi) (fun cs b => hsel j oj cs b hoj) hQ hy (H.2 j (ready_mono hj hji))
        refine wpOp_mono (fun a' w' h3 => ⟨h3.2.1, ih (listed.setIfInBounds j true) a' w' (fun k ok hk hki hun hno => hfree k ok hk hki ?_ hno) (ready_mono hr (Ne.symm hji)) h3.1 ?_⟩) h2
        · by_cases hjk : j = k
          · subst hjk; exact hjun
          · rw [Go.getD_set_ne true hjk] at hun; exact hun
        · rw [Array.setIfInBounds_comm _ _ hji]
          exact h3.2.2
  exact key fuel listed a w (Region.free_spec hi hf) (by simpa using hr) hy h
theorem wpAnyE_done {listed : Array Bool} {a : Act} {w : World} (hr : Region.ready md ops listed = []) (h : Q .normal a w) : ∀ fuel, wpAnyE P md ops Q S E fuel listed a w
  | 0 => ⟨hr, h⟩
  | _ + 1 => ⟨fun _ => h, by rw [hr]; simp⟩
/-- Just one may come up. -/
theorem wpAnyE_one {i : Nat} {o : Oper} {fuel : Nat} {listed : Array Bool} {a : Act} {w : World} (hr : Region.ready md ops listed = [i]) (ho : ops[i]? = some o)
    (h : ∀ K' : Act → World → Prop, Shut (∀ a w, (E i = false → S w) → wpAnyE P md ops Q S E fuel (listed.setIfInBounds i true) a w → K' a w) → if Region.wanted o (yielded ops a.tmps) = true then Oper.wp P o a w K' Q else K' (a.put o.dst undef) w) :
    wpAnyE P md ops Q S E (fuel + 1) listed a w := by
  refine ⟨fun h0 => (by rw [hr] at h0; cases h0), fun j hj => ?_⟩
  rw [hr] at hj
  obtain rfl := List.mem_singleton.1 hj
  exact wpOp_step ho (fun K' hK => h K' (fun a w hS hW => hK a w ⟨fun h _ => hS h, hW⟩))
/-- The beginning. -/
theorem wp_region_E {id : Nat} {a : Act} {w : World} (S : World → Prop) (E : Nat → Bool) (hm : P.follows .mixedOrders = true)
    (h : wpAnyE P .any ops Q S E ops.size (Array.replicate ops.size false) a w.drew) : (Code.region id ops true).wp P Q a w :=
  wp_region_any hm (wpAny_of_E _ _ _ _ h)

theorem cell_keep {w w' : World} {p : Addr} {v : Value} (hb : Below w.heap.size w w') (h : w.cell? p = some v) : w'.cell? p = some v := (hb.cell (World.block_lt_of_cell? w p h)).trans h
/-- A slice whose cells are read, below block B. -/
def Src (w : World) (B size : Nat) (U : Option Addr) (n c : Nat) (news : List Value) : Prop :=
  news.length = n * size ∧ ((U = none ∧ n = 0 ∧ c = 0) ∨ ∃ g o, U = some ⟨g, o, none⟩ ∧ g < B ∧ ∀ j u, news[j]? = some u → w.cell? ⟨g, o + j, none⟩ = some u)
theorem Src.below {w w' : World} {B size : Nat} {U : Option Addr} {n c : Nat} {news : List Value} (h : Src w B size U n c news) (hb : Below B w w') : Src w' B size U n c news := by
  refine ⟨h.1, ?_⟩
  rcases h.2 with h2 | ⟨g, o, e, hg, hc⟩
  · exact .inl h2
  · exact .inr ⟨g, o, e, hg, fun j u hu => (hb.cell (p := ⟨g, o + j, none⟩) hg).trans (hc j u hu)⟩
theorem Src.own {w : World} {B b0 size : Nat} {e : TypeId} {U : Option Addr} {n c : Nat} {xs : List Value} (h : w.ownsRow b0 e size (.slice U n c) n xs) (hB : w.heap.size ≤ B) : Src w B size U n c xs := by
  refine ⟨h.1, ?_⟩
  rcases h.2 with ⟨h1, h2⟩ | ⟨g, cap, cur, h1, _, h3, _⟩
  · injection h1 with e1 e2 e3
    exact .inl ⟨e1, h2, e3⟩
  · injection h1 with e1 e2 e3
    subst e1 e3
    refine .inr ⟨g, 0, rfl, Nat.lt_of_lt_of_le (Array.getElem?_eq_some_iff.1 h3).1 hB, fun j u hu => ?_⟩
    have hj := (List.getElem?_eq_some_iff.1 hu).1
    rw [h.1] at hj
    rw [Nat.zero_add]
    exact (World.ownsRow.cellAt h j hj).trans hu
theorem below_grow {B : Nat} {a w w' : World} {base sz n : Nat} {e : TypeId} {v : Value} {xs : List Value} (h : Below B a w) (hr : w.ownsRow base e sz v n xs) (hg : w.grownBy w' v.ownBlock) (hs : B ≤ w.heap.size) (hb : B ≤ base) : Below B a w' :=
  h.grown hg hs (fun k hk => Nat.le_trans hb (World.ownsRow.lt hr _ hk).1)

/-- What is to be known of a type of rows. -/
structure RowT (P : Program) (t e : TypeId) (i : TypeInfo) (z : Value) (size bytes : Nat) : Prop where
  und : P.underlying t = some (.slice e)
  info : P.info? e = some i
  zero : i.zero = some z
  hsize : i.size = size
  hbytes : i.bytes = bytes
  hzs : z.cells.size = size
  pos : 0 < size
theorem RowT.of {P : Program} {t e : TypeId} {z : Value} {size bytes : Nat} (hu : P.underlying t = some (.slice e)) (h : (P.info? e).map (fun i => (i.zero, i.size, i.bytes)) = some (some z, size, bytes)) (hzs : z.cells.size = size) (pos : 0 < size) : ∃ i, RowT P t e i z size bytes := by
  obtain ⟨i, hi, hz⟩ := Option.map_eq_some_iff.1 h
  injection hz with h1 h2
  injection h2 with h2 h3
  exact ⟨i, hu, hi, h1, h2, h3, hzs, pos⟩
variable {t e : TypeId} {inf : TypeInfo} {z : Value} {size bytes : Nat}
/-- An empty row. -/
theorem oper_build0 (T : RowT P t e inf z size bytes) {o : Oper} {a : Act} {w : World} {K : Act → World → Prop} (ho : o.op = .buildSlice t 0 #[])
    (h : K (a.put o.dst (.slice (some ⟨w.heap.size, 0, none⟩) 0 0)) (w.alloc (.cells #[] e))) : o.wp P a w K Q := by
  have hr : (Instr.buildSlice t 0 #[]).run P w = .ok (.slice (some ⟨w.heap.size, 0, none⟩) 0 0) (w.alloc (.cells #[] e)) := by
    simp [Instr.buildSlice, run_underlying T.und, sizeOf, typeInfo, T.info, Instr.fill, newRow]
    congr 2
    apply Array.ext <;> simp
  unfold Oper.wp execOp
  simp only [ho, Sem.run_bind, List.map_toArray, List.map_nil, hr, Result.andThen_ok]
  exact h
theorem own_empty (w : World) (base : Nat) (hb : base ≤ w.heap.size) : (w.alloc (.cells #[] e)).ownsRow base e size (.slice (some ⟨w.heap.size, 0, none⟩) 0 0) 0 [] :=
  World.ownsRow_lit w #[] 0 hb (by simp [maxLen]) (by simp)
/-- A row of one. -/
theorem oper_build1 {o : Oper} {a : Act} {w : World} {K : Act → World → Prop} (x : Operand) (v : Value) (ec : Array Value) (hb : ∀ w : World, (Instr.buildSlice t 1 #[(0, v)]).run P w = .ok (.slice (some ⟨w.heap.size, 0, none⟩) 1 1) (w.alloc (.cells ec e)))
    (ho : o.op = .buildSlice t 1 #[(0, x)]) (hx : a.eval x = v)
    (h : K (a.put o.dst (.slice (some ⟨w.heap.size, 0, none⟩) 1 1)) (w.alloc (.cells ec e))) : o.wp P a w K Q := by
  unfold Oper.wp execOp
  simp only [ho, Sem.run_bind, List.map_toArray, List.map_nil, List.map_cons, hx, hb w, Result.andThen_ok]
  exact h
/-- A slice, appended to a row of one's own. -/
theorem oper_append (T : RowT P t e inf z size bytes) {o : Oper} {a : Act} {w : World} {K : Act → World → Prop} (s x : Operand)
    (ho : o.op = .call { callee := .builtin .append, args := #[s, x], argTypes := #[t, t] })
    (base : Nat) (v : Value) (n0 : Nat) (xs : List Value) (hs : a.eval s = v) (hown : w.ownsRow base e size v n0 xs) {B : Nat} (U : Option Addr) (n c : Nat) (news : List Value) (hx : a.eval x = .slice U n c)
    (hsrc : Src w B size U n c news) (h1 : ∀ u ∈ news, u.oneCell' = true) (hn : (n0 + n) * bytes ≤ 140737488355328) (hn2 : n0 + n ≤ 100000) (hbase : base ≤ w.heap.size)
    (h : ∀ v' w', w'.ownsRow base e size v' (n0 + n) (xs ++ news) → w.grownBy w' v.ownBlock → K (a.put o.dst v') w') : o.wp P a w K Q := by
  have hm : n0 + n ≤ maxLen := by simp only [maxLen]; omega
  rcases hsrc.2 with ⟨rfl, rfl, rfl⟩ | ⟨g, of, rfl, _, hc⟩
  · have hnil : news = [] := List.length_eq_zero_iff.1 (by rw [hsrc.1]; simp)
    subst hnil
    have hr := run_append_owned_none (P := P) w base t o.type e inf size T.und T.info v n0 xs hown
    unfold Oper.wp execOp
    simp only [ho, resolve, invoke, builtin, Sem.run_bind, Sem.run_pure, Result.andThen_ok, List.map_toArray, List.map_cons, List.map_nil, hs, hx, hr]
    exact h v w (by simpa using hown) ⟨rfl, rfl, rfl, Nat.le_refl _, fun _ _ _ => rfl⟩
  · obtain ⟨v', w', hr, h2, h3, _, _⟩ := run_append_own_at (P := P) w base t o.type e inf z size bytes T.und T.info T.zero T.hsize T.hbytes T.hzs T.pos v n0 xs hown ⟨g, of, none⟩ n c news hsrc.1 (fun j u hu => by rw [Go.WideShapes.add_plain]; exact hc j u hu) h1 hm hn hbase
    unfold Oper.wp execOp
    simp only [ho, resolve, invoke, builtin, Sem.run_bind, Sem.run_pure, Result.andThen_ok, List.map_toArray, List.map_cons, List.map_nil, hs, hx, hr]
    exact h v' w' h2 h3
theorem wpOp_of {i : Nat} {o : Oper} {K : Act → World → Prop} {a : Act} {w : World} (ho : ops[i]? = some o) (hg : o.guard = none) (h : o.wp P a w K Q) : wpOp P ops Q i K a w := by
  unfold wpOp
  simp only [ho]
  rw [if_pos (by unfold Region.wanted; rw [hg])]
  exact .inl h
theorem row_src {w : World} {g : Nat} {ec : Array Value} {e : TypeId} {B size : Nat} (h : Bk w g e ec) (hs : ec.size = size) (hB : g < B) : Src w B size (some ⟨g, 0, none⟩) 1 1 ec.toList := by
  refine ⟨by simp [hs], .inr ⟨g, 0, rfl, hB, fun j u hu => ?_⟩⟩
  rw [Nat.zero_add, h.cell j]
  simpa using hu
/-- **append(append([]T{}, src...), elem)**, whatever comes first: A the empty row, B the first append, C the row of one, D the second append. -/
theorem wpAnyE_app2 (T : RowT P t e inf z size bytes) {fuel : Nat} {listed : Array Bool} {a : Act} {w : World} (iA iB iC iD tA tB tC tD : Nat) (xs xe : Operand) {oA oB oC oD : Oper}
    (hA : ops[iA]? = some oA) (hB : ops[iB]? = some oB) (hC : ops[iC]? = some oC) (hD : ops[iD]? = some oD)
    (sA : (oA.dst = some tA ∧ oA.op = .buildSlice t 0 #[] ∧ oA.guard = none)) (sB : (oB.dst = some tB ∧ oB.op = .call { callee := .builtin .append, args := #[.tmp tA, xs], argTypes := #[t, t] } ∧ oB.guard = none))
    (sC : (oC.dst = some tC ∧ oC.op = .buildSlice t 1 #[(0, xe)] ∧ oC.guard = none)) (sD : (oD.dst = some tD ∧ oD.op = .call { callee := .builtin .append, args := #[.tmp tB, .tmp tC], argTypes := #[t, t] } ∧ oD.guard = none))
    (r0 : Region.ready md ops listed = [iA, iC]) (r1 : Region.ready md ops (listed.setIfInBounds iA true) = [iB, iC]) (r2 : Region.ready md ops (listed.setIfInBounds iC true) = [iA])
    (r3 : Region.ready md ops ((listed.setIfInBounds iA true).setIfInBounds iB true) = [iC]) (r4 : Region.ready md ops ((listed.setIfInBounds iA true).setIfInBounds iC true) = [iB])
    (r5 : Region.ready md ops (((listed.setIfInBounds iA true).setIfInBounds iB true).setIfInBounds iC true) = [iD])
    (hap : tA ≠ tB ∧ tA ≠ tC ∧ tB ≠ tC ∧ xs ≠ .tmp tA ∧ xs ≠ .tmp tC ∧ xe ≠ .tmp tA ∧ xe ≠ .tmp tB ∧ iA ≠ iC ∧ iB ≠ iC) (hsz : tA < a.tmps.size ∧ tB < a.tmps.size ∧ tC < a.tmps.size)
    (B : Nat) (hBw : B ≤ w.heap.size) (hS : S w) (hSk : ∀ w1 w2, Below B w1 w2 → S w1 → S w2)
    (U : Option Addr) (n c : Nat) (news : List Value) (hx : a.eval xs = .slice U n c) (hsrc : Src w B size U n c news) (h1 : ∀ u ∈ news, u.oneCell' = true)
    (ve : Value) (ec : Array Value) (he : a.eval xe = ve) (hb : ∀ w : World, (Instr.buildSlice t 1 #[(0, ve)]).run P w = .ok (.slice (some ⟨w.heap.size, 0, none⟩) 1 1) (w.alloc (.cells ec e))) (hes : ec.size = size) (h2 : ∀ u ∈ ec.toList, u.oneCell' = true)
    (hn : (n + 1) * bytes ≤ 140737488355328) (hn2 : n + 1 ≤ 100000)
    (h : ∀ vA vB vC vD w', w'.ownsRow B e size vD (n + 1) (news ++ ec.toList) → Below B w w' → S w' → wpAnyE P md ops Q S E fuel ((((listed.setIfInBounds iA true).setIfInBounds iB true).setIfInBounds iC true).setIfInBounds iD true) ((((a.put (some tA) vA).put (some tB) vB).put (some tC) vC).put (some tD) vD) w') :
    wpAnyE P md ops Q S E (fuel + 4) listed a w := by
  obtain ⟨n1, n2, n3, n4, n5, n6, n7, n8, n9⟩ := hap
  obtain ⟨z1, z2, z3⟩ := hsz
  have ev : ∀ (a : Act) (tt : Nat) (v : Value) (x : Operand), x ≠ .tmp tt → (a.put (some tt) v).eval x = a.eval x := fun a tt v x hne => Act.eval_put (fun d hd => by injection hd with hd; subst hd; exact hne)
  have same : ∀ (a : Act) (tt : Nat) (v : Value), tt < a.tmps.size → (a.put (some tt) v).eval (.tmp tt) = v := fun a tt v hlt => by
    simp [Act.eval, Act.put, hlt]
  have szp : ∀ (a : Act) (tt : Nat) (v : Value), (a.put (some tt) v).tmps.size = a.tmps.size := fun a tt v => by simp [Act.put]
  have comm : ∀ (a : Act) (x y : Nat) (v u : Value), x ≠ y → (a.put (some x) v).put (some y) u = (a.put (some y) u).put (some x) v := fun a x y v u hne => Act.put_comm a v u (fun d hd hd' => by injection hd with hd; injection hd' with hd'; omega)
  have sz2 : ∀ w', Below B w w' → B ≤ w'.heap.size := fun w' hh => Nat.le_trans hBw hh.size
  -- the last append
  have goD : ∀ (vA vB : Value) (gC : Nat) (w' : World), w'.ownsRow B e size vB n news → Bk w' gC e ec → Below B w w' →
      wpAnyE P md ops Q S E (fuel + 1) (((listed.setIfInBounds iA true).setIfInBounds iB true).setIfInBounds iC true) (((a.put (some tA) vA).put (some tB) vB).put (some tC) (.slice (some ⟨gC, 0, none⟩) 1 1)) w' := by
    intro vA vB gC w' hBo kC hbel
    refine ⟨fun h0 => (by rw [r5] at h0; cases h0), fun j hj => ?_⟩
    rw [r5] at hj
    obtain rfl := List.mem_singleton.1 hj
    refine wpOp_of hD sD.2.2 (oper_append T (.tmp tB) (.tmp tC) sD.2.1 B vB n news ?_ hBo (B := w'.heap.size) (some ⟨gC, 0, none⟩) 1 1 ec.toList ?_ (row_src kC hes kC.lt) h2 hn hn2 (sz2 _ hbel) ?_)
    · rw [ev _ _ _ _ (by simpa using n3)]; exact same _ _ _ (by rw [szp]; exact z2)
    · exact same _ _ _ (by rw [szp, szp]; exact z3)
    · intro vD w2 hown hg
      have hb2 := below_grow hbel hBo hg (sz2 _ hbel) (Nat.le_refl _)
      have hS2 := hSk _ _ hb2 hS
      rw [sD.1]
      exact ⟨fun _ _ => hS2, h vA vB _ vD w2 hown hb2 hS2⟩
  refine ⟨fun h0 => (by rw [r0] at h0; cases h0), fun j hj => ?_⟩
  rw [r0] at hj
  rcases List.mem_cons.1 hj with rfl | hj
  · -- A first
    refine wpOp_of hA sA.2.2 (oper_build0 T sA.2.1 ?_)
    rw [sA.1]
    have hAo := own_empty (e := e) (size := size) w B hBw
    have bA : Below B w (w.alloc (.cells #[] e)) := (Below.refl _ _).alloc hBw _
    have szA : w.heap.size < (w.alloc (.cells #[] e)).heap.size := by simp
    generalize w.alloc (.cells #[] e) = wA at *
    generalize w.heap.size = gA at *
    refine ⟨fun _ _ => hSk _ _ bA hS, fun h0 => (by rw [r1] at h0; cases h0), fun j hj => ?_⟩
    rw [r1] at hj
    rcases List.mem_cons.1 hj with rfl | hj
    · -- A, B, C
      refine wpOp_of hB sB.2.2 (oper_append T (.tmp tA) xs sB.2.1 B _ 0 [] (same _ _ _ z1) hAo (B := B) U n c news (by rw [ev _ _ _ _ n4]; exact hx) (hsrc.below bA) h1 (by rw [Nat.zero_add]; exact Nat.le_trans (Nat.mul_le_mul_right _ (Nat.le_succ n)) hn) (by omega) (sz2 _ bA) ?_)
      intro vB wB hBo hg
      rw [Nat.zero_add, List.nil_append] at hBo
      have bB := below_grow bA hAo hg (sz2 _ bA) (Nat.le_refl _)
      rw [sB.1]
      refine ⟨fun _ _ => hSk _ _ bB hS, fun h0 => (by rw [r3] at h0; cases h0), fun j hj => ?_⟩
      rw [r3] at hj
      obtain rfl := List.mem_singleton.1 hj
      refine wpOp_of hC sC.2.2 (oper_build1 xe ve ec hb sC.2.1 (by rw [ev _ _ _ _ n7, ev _ _ _ _ n6]; exact he) ?_)
      rw [sC.1]
      have bC := bB.alloc (sz2 _ bB) (.cells ec e)
      exact ⟨fun _ _ => hSk _ _ bC hS, goD _ vB _ _ (hBo.alloc _) (Bk.made wB e ec) bC⟩
    · -- A, C, B
      obtain rfl := List.mem_singleton.1 hj
      refine wpOp_of hC sC.2.2 (oper_build1 xe ve ec hb sC.2.1 (by rw [ev _ _ _ _ n6]; exact he) ?_)
      rw [sC.1]
      have bC := bA.alloc (sz2 _ bA) (.cells ec e)
      have kC := Bk.made wA e ec
      have hAo2 := hAo.alloc (.cells ec e)
      refine ⟨fun _ _ => hSk _ _ bC hS, fun h0 => (by rw [r4] at h0; cases h0), fun j hj => ?_⟩
      rw [r4] at hj
      obtain rfl := List.mem_singleton.1 hj
      refine wpOp_of hB sB.2.2 (oper_append T (.tmp tA) xs sB.2.1 B _ 0 [] (by rw [ev _ _ _ _ (by simpa using n2)]; exact same _ _ _ z1) hAo2 (B := B) U n c news (by rw [ev _ _ _ _ n5, ev _ _ _ _ n4]; exact hx) (hsrc.below bC) h1 (by rw [Nat.zero_add]; exact Nat.le_trans (Nat.mul_le_mul_right _ (Nat.le_succ n)) hn) (by omega) (sz2 _ bC) ?_)
      intro vB wB hBo hg
      rw [Nat.zero_add, List.nil_append] at hBo
      have bB := below_grow bC hAo2 hg (sz2 _ bC) (Nat.le_refl _)
      have kC2 : Bk wB wA.heap.size e ec := (hg.block _ kC.lt (fun e' => by simp only [Value.ownBlock, Option.some.injEq] at e'; omega)).trans kC
      rw [sB.1, comm _ _ _ _ _ (Ne.symm n3), Array.setIfInBounds_comm _ _ n9.symm]
      exact ⟨fun _ _ => hSk _ _ bB hS, goD _ vB _ _ hBo kC2 bB⟩
  · -- C first
    obtain rfl := List.mem_singleton.1 hj
    refine wpOp_of hC sC.2.2 (oper_build1 xe ve ec hb sC.2.1 he ?_)
    rw [sC.1]
    have bC : Below B w (w.alloc (.cells ec e)) := (Below.refl _ _).alloc hBw _
    have kC := Bk.made w e ec
    generalize w.alloc (.cells ec e) = wC at *
    generalize w.heap.size = gC at *
    refine ⟨fun _ _ => hSk _ _ bC hS, fun h0 => (by rw [r2] at h0; cases h0), fun j hj => ?_⟩
    rw [r2] at hj
    obtain rfl := List.mem_singleton.1 hj
    refine wpOp_of hA sA.2.2 (oper_build0 T sA.2.1 ?_)
    have hAo := own_empty (e := e) (size := size) wC B (sz2 _ bC)
    have bA := bC.alloc (sz2 _ bC) (.cells #[] e)
    have kC2 := kC.alloc (.cells #[] e)
    have zC := kC.lt
    generalize wC.alloc (.cells #[] e) = wA at *
    generalize wC.heap.size = gA at *
    rw [sA.1, comm _ _ _ _ _ (Ne.symm n2), Array.setIfInBounds_comm _ _ n8.symm]
    refine ⟨fun _ _ => hSk _ _ bA hS, fun h0 => (by rw [r4] at h0; cases h0), fun j hj => ?_⟩
    rw [r4] at hj
    obtain rfl := List.mem_singleton.1 hj
    refine wpOp_of hB sB.2.2 (oper_append T (.tmp tA) xs sB.2.1 B _ 0 [] (by rw [ev _ _ _ _ (by simpa using n2)]; exact same _ _ _ z1) hAo (B := B) U n c news (by rw [ev _ _ _ _ n5, ev _ _ _ _ n4]; exact hx) (hsrc.below bA) h1 (by rw [Nat.zero_add]; exact Nat.le_trans (Nat.mul_le_mul_right _ (Nat.le_succ n)) hn) (by omega) (sz2 _ bA) ?_)
    intro vB wB hBo hg
    rw [Nat.zero_add, List.nil_append] at hBo
    have bB := below_grow bA hAo hg (sz2 _ bA) (Nat.le_refl _)
    have kC3 : Bk wB gC e ec := (hg.block _ kC2.lt (fun e' => by simp only [Value.ownBlock, Option.some.injEq] at e'; omega)).trans kC2
    rw [sB.1, comm _ _ _ _ _ (Ne.symm n3), Array.setIfInBounds_comm _ _ n9.symm]
    exact ⟨fun _ _ => hSk _ _ bB hS, goD _ vB _ _ hBo kC3 bB⟩
end
end Go.Proofs.Ytgjdjgainjedhaa
