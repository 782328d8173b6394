/- Rows of results: append of a log to an empty row, of one result to a row; an empty row, a row of one. -/
import Derived.Test.YtcjaomiihajjbaaPlayH
import Derived.Maps.AppendAt
import Derived.OwnWalk
import Derived.Great.BuildSlice
import Derived.Deep.AppendLies
namespace Go.Proofs.Ytcjaomiihajjbaa
open Go.RowKit

theorem wp_append_at {P : Program} {o : Oper} {a : Act} {w : World} {K : Act → World → Prop} {Q : Exit → Act → World → Prop} (s x : Operand) (t : TypeId)
    (ho : o.op = .call { callee := .builtin .append, args := #[s, x], argTypes := #[t, t] })
    (base : Nat) (e : TypeId) (i : TypeInfo) (z : Value) (size bytes : Nat) (ht : P.underlying t = some (.slice e)) (hi : P.info? e = some i) (hz : i.zero = some z)
    (hsize : i.size = size) (hby : i.bytes = bytes) (hzs : z.cells.size = size) (hsz : 0 < size)
    (v : Value) (n : Nat) (xs : List Value) (hs : a.eval s = v) (hown : w.ownsRow base e size v n xs)
    (ad : Addr) (m c : Nat) (news : List Value) (hx : a.eval x = .slice (some ad) m c) (hl : news.length = m * size) (hnews : ∀ j u, news[j]? = some u → w.cell? (ad.add j) = some u) (h1 : ∀ u ∈ news, u.oneCell' = true)
    (h63 : n + m ≤ maxLen) (hbytes : (n + m) * bytes ≤ 140737488355328) (hbase : base ≤ w.heap.size)
    (h : ∀ v' w', w'.ownsRow base e size v' (n + m) (xs ++ news) → w.grownBy w' v.ownBlock → K (a.put o.dst v') w') : o.wp P a w K Q := by
  obtain ⟨v', w', hr, h2, h3, h4, h5⟩ := run_append_own_at (P := P) w base t o.type e i z size bytes ht hi hz hsize hby hzs hsz v n xs hown ad m c news hl hnews h1 h63 hbytes hbase
  unfold Oper.wp execOp
  simp only [ho, resolve, invoke, builtin, Sem.run_bind, Sem.run_pure, Result.andThen_ok, List.map_toArray, List.map_cons, List.map_nil, hs, hx, hr]
  exact h v' w' h2 h3
theorem wp_append_no {P : Program} {o : Oper} {a : Act} {w : World} {K : Act → World → Prop} {Q : Exit → Act → World → Prop} (s x : Operand) (t : TypeId)
    (ho : o.op = .call { callee := .builtin .append, args := #[s, x], argTypes := #[t, t] })
    (base : Nat) (e : TypeId) (i : TypeInfo) (size : Nat) (ht : P.underlying t = some (.slice e)) (hi : P.info? e = some i)
    (v : Value) (n : Nat) (xs : List Value) (hs : a.eval s = v) (hown : w.ownsRow base e size v n xs) (hx : a.eval x = .slice none 0 0)
    (h : K (a.put o.dst v) w) : o.wp P a w K Q := by
  have hr := run_append_owned_none (P := P) w base t o.type e i size ht hi v n xs hown
  unfold Oper.wp execOp
  simp only [ho, resolve, invoke, builtin, Sem.run_bind, Sem.run_pure, Result.andThen_ok, List.map_toArray, List.map_cons, List.map_nil, hs, hx, hr]
  exact h
theorem resCells_one (l : List (Int × Bool)) : ∀ v ∈ resCells l, v.oneCell' = true := by
  intro v hv
  obtain ⟨u, _, hu⟩ := List.mem_flatMap.1 hv
  simp at hu
  rcases hu with rfl | rfl <;> rfl
theorem resCells_snoc (l : List (Int × Bool)) (r : Int × Bool) : resCells (l ++ [r]) = resCells l ++ [.int .i64 r.1, .bool r.2] := by simp [resCells]
/-- A log, appended to an empty row of the call's own. -/
theorem wp_append_log {o : Oper} {a : Act} {w : World} {K : Act → World → Prop} {Q : Exit → Act → World → Prop} (s x : Operand)
    (ho : o.op = .call { callee := .builtin .append, args := #[s, x], argTypes := #[61, 61] })
    (base : Nat) (v : Value) (hs : a.eval s = v) (hown : w.ownsRow base 46 2 v 0 []) {b0 : Nat} (U : Option Addr) (uc : Nat) (l : List (Int × Bool)) (hx : a.eval x = .slice U l.length uc)
    (hl : OwnRes w b0 (.slice U l.length uc) l) (hn : l.length ≤ 1000) (hbase : base ≤ w.heap.size)
    (h : ∀ v' w', w'.ownsRow base 46 2 v' l.length (resCells l) → w.grownBy w' v.ownBlock → K (a.put o.dst v') w') : o.wp Try.prog a w K Q := by
  obtain ⟨i, hi, hz0, hz1, hz2⟩ := info_parts res_info
  rcases hl.2 with ⟨h1, h2⟩ | ⟨g, cap, cur, h1, _⟩
  · injection h1 with e1 e2 e3
    subst e1 e3
    have hl0 : l = [] := List.length_eq_zero_iff.1 h2
    subst hl0
    exact wp_append_no s x 61 ho base 46 i 2 Try.underlying61 hi v 0 [] hs hown hx (h v w hown ⟨rfl, rfl, rfl, Nat.le_refl _, fun _ _ _ => rfl⟩)
  · injection h1 with e1 e2 e3
    subst e1 e3
    have hnews : ∀ j u, (resCells l)[j]? = some u → w.cell? ((⟨g, 0, none⟩ : Addr).add j) = some u := by
      intro j u hu
      have hj := (List.getElem?_eq_some_iff.1 hu).1
      rw [resCells_length] at hj
      rw [Go.WideShapes.add_plain, Nat.zero_add]
      exact (World.ownsRow.cellAt hl j hj).trans hu
    refine wp_append_at s x 61 ho base 46 i _ 2 16 Try.underlying61 hi hz0 hz1 hz2 rfl (by omega) v 0 [] hs hown ⟨g, 0, none⟩ l.length uc (resCells l) hx (resCells_length l) hnews (resCells_one l) (by simp [maxLen]; omega) (by omega) hbase ?_
    intro v' w' h1 h2
    rw [Nat.zero_add, List.nil_append] at h1
    exact h v' w' h1 h2
/-- One result, that lies in a block of its own, appended to a row. -/
theorem wp_append_res1 {o : Oper} {a : Act} {w : World} {K : Act → World → Prop} {Q : Exit → Act → World → Prop} (s x : Operand)
    (ho : o.op = .call { callee := .builtin .append, args := #[s, x], argTypes := #[61, 61] })
    (base : Nat) (v : Value) (n : Nat) (xs : List Value) (hs : a.eval s = v) (hown : w.ownsRow base 46 2 v n xs) (r : Int) (b : Bool) (g c : Nat) (hx : a.eval x = .slice (some ⟨g, 0, none⟩) 1 c)
    (hk : Bk w g 46 #[.int .i64 r, .bool b]) (hn : n ≤ 1000) (hbase : base ≤ w.heap.size)
    (h : ∀ v' w', w'.ownsRow base 46 2 v' (n + 1) (xs ++ [.int .i64 r, .bool b]) → w.grownBy w' v.ownBlock → K (a.put o.dst v') w') : o.wp Try.prog a w K Q := by
  obtain ⟨i, hi, hz0, hz1, hz2⟩ := info_parts res_info
  refine wp_append_at s x 61 ho base 46 i _ 2 16 Try.underlying61 hi hz0 hz1 hz2 rfl (by omega) v n xs hs hown ⟨g, 0, none⟩ 1 c [.int .i64 r, .bool b] hx rfl ?_ (res_one r b) (by simp [maxLen]; omega) (by omega) hbase h
  intro j v hv
  rw [Go.WideShapes.add_plain, Nat.zero_add, hk.cell j]
  simpa using hv
theorem run_build0 (w : World) : (Instr.buildSlice 61 0 #[]).run Try.prog w = .ok (.slice (some ⟨w.heap.size, 0, none⟩) 0 0) (w.alloc (.cells #[] 46)) := by
  obtain ⟨i, hi, _⟩ := info_parts res_info
  simp [Instr.buildSlice, run_underlying Try.underlying61, sizeOf, typeInfo, hi, Instr.fill, newRow]
  congr 2
  apply Array.ext <;> simp
theorem wp_build0 {o : Oper} {a : Act} {w : World} {K : Act → World → Prop} {Q : Exit → Act → World → Prop} (ho : o.op = .buildSlice 61 0 #[])
    (h : K (a.put o.dst (.slice (some ⟨w.heap.size, 0, none⟩) 0 0)) (w.alloc (.cells #[] 46))) : o.wp Try.prog a w K Q := by
  unfold Oper.wp execOp
  simp only [ho, Sem.run_bind, List.map_toArray, List.map_nil, run_build0 w, Result.andThen_ok]
  exact h
theorem own_build0 (w : World) (base : Nat) (hb : base ≤ w.heap.size) : (w.alloc (.cells #[] 46)).ownsRow base 46 2 (.slice (some ⟨w.heap.size, 0, none⟩) 0 0) 0 [] :=
  World.ownsRow_lit w #[] 0 hb (by simp [maxLen]) (by simp)
theorem run_build1 (w : World) (r : Int) (b : Bool) : (Instr.buildSlice 61 1 #[(0, .agg #[.int .i64 r, .bool b])]).run Try.prog w = .ok (.slice (some ⟨w.heap.size, 0, none⟩) 1 1) (w.alloc (.cells #[.int .i64 r, .bool b] 46)) := by
  kernel_rfl
theorem wp_build1 {o : Oper} {a : Act} {w : World} {K : Act → World → Prop} {Q : Exit → Act → World → Prop} (x : Operand) (r : Int) (b : Bool) (ho : o.op = .buildSlice 61 1 #[(0, x)]) (hx : a.eval x = .agg #[.int .i64 r, .bool b])
    (h : K (a.put o.dst (.slice (some ⟨w.heap.size, 0, none⟩) 1 1)) (w.alloc (.cells #[.int .i64 r, .bool b] 46))) : o.wp Try.prog a w K Q := by
  unfold Oper.wp execOp
  simp only [ho, Sem.run_bind, List.map_toArray, List.map_nil, List.map_cons, hx, run_build1 w r b, Result.andThen_ok]
  exact h
end Go.Proofs.Ytcjaomiihajjbaa
