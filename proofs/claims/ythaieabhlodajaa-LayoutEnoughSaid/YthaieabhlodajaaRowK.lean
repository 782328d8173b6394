/- Rows of uses: a part of a block is loaded whole; append of uses. -/
import Derived.Test.YthaieabhlodajaaLayG
import Derived.Maps.AppendAt
import Derived.OwnWalk
import Derived.Great.BuildSlice
import Derived.Deep.AppendLies
namespace Go.Proofs.Ythaieabhlodajaa
open Go.RowKit

theorem run_loadVar_sub {P : Program} (w : World) (g o : Nat) (ty : TypeId) (cs : Array Value) (d : TypeDesc) (hc : ∀ (j : Nat) (v : Value), cs[j]? = some v → w.cell? ⟨g, o + j, none⟩ = some v)
    (hu : P.underlying ty = some d) (hd : (match d with | .struct _ | .array _ _ => true | _ => false) = true) (hi : (P.info? ty).map (·.size) = some cs.size) :
    (loadVar ty ⟨g, o, none⟩).run P w = .ok (.agg cs) w := by
  have hl : (loadCells ⟨g, o, none⟩ cs.toList.length).run P w = .ok cs.toList.toArray w :=
    run_loadCells_list (P := P) w ⟨g, o, none⟩ cs.toList (fun j v hv => by
      rw [Go.WideShapes.add_plain]
      exact hc j v (by simpa using hv))
  cases hq : P.info? ty with
  | none => simp [hq] at hi
  | some i =>
    have hs : i.size = cs.size := by simpa [hq] using hi
    have hagg : (isAgg ty).run P w = .ok true w := by
      unfold isAgg
      rw [Sem.run_bind, run_underlying hu w]
      cases d <;> simp_all
    simp only [Array.length_toList, Array.toArray_toList] at hl
    simp [loadVar, Sem.run_bind, hagg, sizeOf, typeInfo, hq, hs, hl]
theorem wpList_load_sub {P : Program} {ops : Array Oper} {rest : List Oper} {o : Oper} {a : Act} {w : World} {Q : Exit → Act → World → Prop} (hgd : o.guard = none) (ty : TypeId) (x : Operand) (ho : o.op = .load ty x)
    (g of : Nat) (hx : a.eval x = .pointer (some ⟨g, of, none⟩)) (cs : Array Value) (d : TypeDesc) (hc : ∀ (j : Nat) (v : Value), cs[j]? = some v → w.cell? ⟨g, of + j, none⟩ = some v)
    (hu : P.underlying ty = some d) (hd : (match d with | .struct _ | .array _ _ => true | _ => false) = true) (hi : (P.info? ty).map (·.size) = some cs.size)
    (h : wpList P ops Q rest (a.put o.dst (.agg cs)) w) : wpList P ops Q (o :: rest) a w :=
  wpList_plain hgd fun _ hK => by
    unfold Oper.wp execOp
    simp only [ho, hx, Instr.loadAt, Instr.sureAddr, Sem.run_bind, Sem.run_pure, Result.andThen_ok, run_loadVar_sub w g of ty cs d hc hu hd hi]
    exact hK _ _ h
theorem own_keepR {w w' : World} {base n : Nat} {e : TypeId} {sz : Nat} {v : Value} {xs : List Value} (h : w.ownsRow base e sz v n xs) (hb : Below w.heap.size w w') : w'.ownsRow base e sz v n xs :=
  World.ownsRow.kept (row := none) h ⟨hb.os, hb.tape, hb.output, hb.size, fun k hk _ => hb.block k hk⟩ (by cases h' : v.ownBlock <;> simp)
theorem Bk.grownX {w w' : World} {g : Nat} {t : TypeId} {cs : Array Value} {row : Option Nat} (h : Bk w g t cs) (hg : w.grownBy w' row) (hne : some g ≠ row) : Bk w' g t cs := (hg.block g h.lt hne).trans h
theorem wp_append_at {P : Program} {o : Oper} {a : Act} {w : World} {K : Act → World → Prop} {Q : Exit → Act → World → Prop} (s x : Operand) (t : TypeId)
    (ho : o.op = .call { callee := .builtin .append, args := #[s, x], argTypes := #[t, t] })
    (base : Nat) (e : TypeId) (i : TypeInfo) (z : Value) (size bytes : Nat) (ht : P.underlying t = some (.slice e)) (hi : P.info? e = some i) (hz : i.zero = some z)
    (hsize : i.size = size) (hby : i.bytes = bytes) (hzs : z.cells.size = size) (hsz : 0 < size)
    (v : Value) (n : Nat) (xs : List Value) (hs : a.eval s = v) (hown : w.ownsRow base e size v n xs)
    (ad : Addr) (m c : Nat) (news : List Value) (hx : a.eval x = .slice (some ad) m c) (hl : news.length = m * size) (hnews : ∀ j u, news[j]? = some u → w.cell? (ad.add j) = some u) (h1 : ∀ u ∈ news, u.oneCell' = true)
    (h63 : n + m ≤ maxLen) (hbytes : (n + m) * bytes ≤ 140737488355328) (hbase : base ≤ w.heap.size)
    (h : ∀ v' w', w'.ownsRow base e size v' (n + m) (xs ++ news) → w.grownBy w' v.ownBlock → K (a.put o.dst v') w') : o.wp P a w K Q := by
  obtain ⟨v', w', hr, h2, h3, h4, h5⟩ := run_append_own_at (P := P) w base t o.type e i z size bytes ht hi hz hsize hby hzs hsz v n xs hown ad m c news hl hnews h1 h63 hbytes hbase
  unfold Oper.wp execOp
  simp only [ho, resolve, invoke, builtin, Sem.run_bind, Sem.run_pure, Result.andThen_ok, List.map_toArray, List.map_cons, List.map_nil, hs, hx, hr]
  exact h v' w' h2 h3
theorem wp_append_no {P : Program} {o : Oper} {a : Act} {w : World} {K : Act → World → Prop} {Q : Exit → Act → World → Prop} (s x : Operand) (t : TypeId)
    (ho : o.op = .call { callee := .builtin .append, args := #[s, x], argTypes := #[t, t] })
    (base : Nat) (e : TypeId) (i : TypeInfo) (size : Nat) (ht : P.underlying t = some (.slice e)) (hi : P.info? e = some i)
    (v : Value) (n : Nat) (xs : List Value) (hs : a.eval s = v) (hown : w.ownsRow base e size v n xs) (hx : a.eval x = .slice none 0 0)
    (h : K (a.put o.dst v) w) : o.wp P a w K Q := by
  have hr := run_append_owned_none (P := P) w base t o.type e i size ht hi v n xs hown
  unfold Oper.wp execOp
  simp only [ho, resolve, invoke, builtin, Sem.run_bind, Sem.run_pure, Result.andThen_ok, List.map_toArray, List.map_cons, List.map_nil, hs, hx, hr]
  exact h

/-- The cells of a row of uses. -/
def flatU (l : List Us) : List Value := l.flatMap fun u => (usC u).toList
theorem flatU_len (l : List Us) : (flatU l).length = l.length * 10 := by
  induction l with
  | nil => rfl
  | cons u l ih =>
    have e : flatU (u :: l) = (usC u).toList ++ flatU l := rfl
    have el : (usC u).toList.length = 10 := rfl
    rw [e, List.length_append, ih, el, List.length_cons]
    omega
theorem flatU_get (l : List Us) : ∀ (k : Nat) (u : Us), l[k]? = some u → ∀ j, j < 10 → (flatU l)[k * 10 + j]? = (usC u)[j]? := by
  induction l with
  | nil => intro k u h; simp at h
  | cons x l ih =>
    intro k u h j hj
    have e : flatU (x :: l) = (usC x).toList ++ flatU l := rfl
    have el : (usC x).toList.length = 10 := rfl
    cases k with
    | zero =>
      simp at h
      subst h
      rw [e, Nat.zero_mul, Nat.zero_add, List.getElem?_append_left (by omega), Array.getElem?_toList]
    | succ k =>
      rw [e, List.getElem?_append_right (by omega), el, show (k + 1) * 10 + j - 10 = k * 10 + j by omega]
      exact ih k u (by simpa using h) j hj
theorem flatU_one (l : List Us) : ∀ v ∈ flatU l, v.oneCell' = true := by
  intro v hv
  obtain ⟨u, _, hu⟩ := List.mem_flatMap.1 hv
  simp at hu
  rcases hu with rfl | rfl | rfl | rfl | rfl | rfl | rfl | rfl | rfl | rfl <;> rfl
theorem flatU_news {w : World} {b o : Nat} {l : List Us} (h : ∀ k u, l[k]? = some u → ∀ j v, (usC u)[j]? = some v → w.cell? ⟨b, o + k * 10 + j, none⟩ = some v) :
    ∀ (j : Nat) (v : Value), (flatU l)[j]? = some v → w.cell? ((⟨b, o, none⟩ : Addr).add j) = some v := by
  intro j v hv
  have hj : j < l.length * 10 := by rw [← flatU_len]; exact (List.getElem?_eq_some_iff.1 hv).1
  obtain ⟨u, hu⟩ : ∃ u, l[j / 10]? = some u := ⟨_, List.getElem?_eq_getElem (by omega)⟩
  have h1 := flatU_get l (j / 10) u hu (j % 10) (by omega)
  rw [show j / 10 * 10 + j % 10 = j by omega, hv] at h1
  have := h (j / 10) u hu (j % 10) v h1.symm
  rw [Go.WideShapes.add_plain]
  rwa [show o + j / 10 * 10 + j % 10 = o + j by omega] at this
theorem slUse_own {w : World} {base cap : Nat} {R : Option Addr} {l : List Us} (h : w.ownsRow base 45 10 (.slice R l.length cap) l.length (flatU l)) : SlUse w w.heap.size R l := by
  intro hl
  obtain ⟨g, cap', hv, _, hg⟩ := World.ownsRow.form h hl
  injection hv with h1 _ h3
  subst h1 h3
  refine ⟨g, 0, rfl, hg, fun k u hu j v hv => ?_⟩
  have hk : k < l.length := (List.getElem?_eq_some_iff.1 hu).1
  have hj : j < 10 := by
    have := (Array.getElem?_eq_some_iff.1 hv).1
    simpa using this
  rw [Nat.zero_add]
  refine (World.ownsRow.cellAt h (k * 10 + j) (by omega)).trans ?_
  rw [flatU_get l k u hu j hj, hv]
theorem flatU_snoc (l : List Us) (u : Us) : flatU (l ++ [u]) = flatU l ++ (usC u).toList := by simp [flatU]
theorem use_info : (Try.prog.info? 45).map (fun i => (i.zero, i.size)) = some (some (.agg #[.int .i64 0, .slice none 0 0, .int .i64 0, .int .i64 0, .int .i64 0, .int .i64 0, .int .i64 0, .int .i64 0, .int .i64 0, .bool false]), 10) := by kernel_rfl
/-- Append of a row of uses to an owned row that is empty. -/
theorem wp_append_uses {o : Oper} {a : Act} {w : World} {K : Act → World → Prop} {Q : Exit → Act → World → Prop} (s x : Operand)
    (ho : o.op = .call { callee := .builtin .append, args := #[s, x], argTypes := #[37, 37] })
    (base : Nat) (v : Value) (hs : a.eval s = v) (hown : w.ownsRow base 45 10 v 0 []) (U : Option Addr) (uc : Nat) (l : List Us) (hx : a.eval x = .slice U l.length uc) (hU : U = none → l.length = 0 ∧ uc = 0)
    (B : Nat) (hl : SlUse w B U l) (hn : l.length ≤ 1000) (hbase : base ≤ w.heap.size)
    (h : ∀ v' w', w'.ownsRow base 45 10 v' l.length (flatU l) → w.grownBy w' v.ownBlock → K (a.put o.dst v') w') : o.wp Try.prog a w K Q := by
  have hinf := use_info
  cases hi : Try.prog.info? 45 with
  | none => rw [hi] at hinf; cases hinf
  | some i =>
    rw [hi] at hinf
    simp only [Option.map_some, Option.some.injEq, Prod.mk.injEq] at hinf
    have hby : (Try.prog.info? 45).map (·.bytes) = some i.bytes := by rw [hi]; rfl
    have hbb : i.bytes ≤ 1000 := by
      have : ((Try.prog.info? 45).map fun i => decide (i.bytes ≤ 1000)) = some true := by kernel_rfl
      rw [hi] at this
      simpa using this
    cases U with
    | none =>
      obtain ⟨h0, rfl⟩ := hU rfl
      have hl0 : l = [] := List.length_eq_zero_iff.1 h0
      subst hl0
      exact wp_append_no s x 37 ho base 45 i 10 Try.underlying37 hi v 0 [] hs hown hx (h v w hown ⟨rfl, rfl, rfl, Nat.le_refl _, fun _ _ _ => rfl⟩)
    | some ad =>
      have hnews : ∀ j u, (flatU l)[j]? = some u → w.cell? (ad.add j) = some u := by
        intro j u hu
        have hlp : 0 < l.length := by
          have := (List.getElem?_eq_some_iff.1 hu).1
          rw [flatU_len] at this
          omega
        obtain ⟨b, o', hA, hb, hc⟩ := hl hlp
        injection hA with hA
        subst hA
        exact flatU_news hc j u hu
      refine wp_append_at s x 37 ho base 45 i _ 10 i.bytes Try.underlying37 hi hinf.1 hinf.2 rfl rfl (by omega) v 0 [] hs hown ad l.length uc (flatU l) hx (flatU_len l) hnews (flatU_one l) (by simp [maxLen]; omega) ?_ hbase ?_
      · have := Nat.mul_le_mul (show 0 + l.length ≤ 1000 by omega) hbb
        omega
      · intro v' w' h1 h2
        rw [Nat.zero_add, List.nil_append] at h1
        exact h v' w' h1 h2
theorem run_build0 (w : World) : (Instr.buildSlice 37 0 #[]).run Try.prog w = .ok (.slice (some ⟨w.heap.size, 0, none⟩) 0 0) (w.alloc (.cells #[] 45)) := by
  have hinf := use_info
  cases hi : Try.prog.info? 45 with
  | none => rw [hi] at hinf; cases hinf
  | some i =>
    simp [Instr.buildSlice, run_underlying Try.underlying37, sizeOf, typeInfo, hi, Instr.fill, newRow]
    congr 2
    apply Array.ext <;> simp
theorem wp_build0 {o : Oper} {a : Act} {w : World} {K : Act → World → Prop} {Q : Exit → Act → World → Prop} (ho : o.op = .buildSlice 37 0 #[])
    (h : K (a.put o.dst (.slice (some ⟨w.heap.size, 0, none⟩) 0 0)) (w.alloc (.cells #[] 45))) : o.wp Try.prog a w K Q := by
  unfold Oper.wp execOp
  simp only [ho, Sem.run_bind, List.map_toArray, List.map_nil, run_build0 w, Result.andThen_ok]
  exact h
theorem own_build0 (w : World) (base : Nat) (hb : base ≤ w.heap.size) : (w.alloc (.cells #[] 45)).ownsRow base 45 10 (.slice (some ⟨w.heap.size, 0, none⟩) 0 0) 0 [] :=
  World.ownsRow_lit w #[] 0 hb (by simp [maxLen]) (by simp)
theorem own_slice_e {w : World} {base n : Nat} {e : TypeId} {sz : Nat} {v : Value} {xs : List Value} (h : w.ownsRow base e sz v n xs) : ∃ G cap, v = .slice G n cap := by
  rcases h.2 with ⟨rfl, rfl⟩ | ⟨g, cap, cur, rfl, _⟩
  · exact ⟨none, 0, rfl⟩
  · exact ⟨_, cap, rfl⟩
/-- Append of one use, that lies in a block of its own. -/
theorem wp_append_use1 {o : Oper} {a : Act} {w : World} {K : Act → World → Prop} {Q : Exit → Act → World → Prop} (s x : Operand)
    (ho : o.op = .call { callee := .builtin .append, args := #[s, x], argTypes := #[37, 37] })
    (base : Nat) (v : Value) (n : Nat) (xs : List Value) (hs : a.eval s = v) (hown : w.ownsRow base 45 10 v n xs) (_hxl : xs.length = n * 10) (u : Us) (g c : Nat) (hx : a.eval x = .slice (some ⟨g, 0, none⟩) 1 c)
    (hk : Bk w g 45 (usC u)) (hn : n ≤ 1000) (hbase : base ≤ w.heap.size)
    (h : ∀ v' w', w'.ownsRow base 45 10 v' (n + 1) (xs ++ (usC u).toList) → w.grownBy w' v.ownBlock → K (a.put o.dst v') w') : o.wp Try.prog a w K Q := by
  have hinf := use_info
  cases hi : Try.prog.info? 45 with
  | none => rw [hi] at hinf; cases hinf
  | some i =>
    rw [hi] at hinf
    simp only [Option.map_some, Option.some.injEq, Prod.mk.injEq] at hinf
    have hbb : i.bytes ≤ 1000 := by
      have : ((Try.prog.info? 45).map fun i => decide (i.bytes ≤ 1000)) = some true := by kernel_rfl
      rw [hi] at this
      simpa using this
    refine wp_append_at s x 37 ho base 45 i _ 10 i.bytes Try.underlying37 hi hinf.1 hinf.2 rfl rfl (by omega) v n xs hs hown ⟨g, 0, none⟩ 1 c (usC u).toList hx rfl ?_ ?_ (by simp [maxLen]; omega) ?_ hbase h
    · intro j v hv
      rw [Go.WideShapes.add_plain, Nat.zero_add, hk.cell j, ← Array.getElem?_toList]
      exact hv
    · have := flatU_one [u]
      simpa [flatU] using this
    · have := Nat.mul_le_mul (show n + 1 ≤ 1001 by omega) hbb
      omega
end Go.Proofs.Ythaieabhlodajaa
