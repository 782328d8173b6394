/- ring.Moves in one form: the short form of ring/XRingD. -/
import Derived.Test.YtdjglkpcdhkodaaRingC
import Derived.Test.YtdjglkpcdhkodaaLayC
import Derived.Laws.OwnMore
import Derived.Laws.StructEq
import Derived.Laws.Cover2
import Derived.Deep.AppendLies
namespace Go.Proofs.Ytdjglkpcdhkodaa
open Go.RowKit
set_option linter.unusedVariables false
attribute [local go_sem ↓] Go.wp_at_zero Go.wp_at_succ

theorem wpList_load_rowG {P : Program} {ops : Array Oper} {rest : List Oper} {o : Oper} {a : Act} {w : World} {Q : Exit → Act → World → Prop} (hgd : Region.wanted o (yielded ops a.tmps) = true) (ty : TypeId) (x : Operand) (ho : o.op = .load ty x)
    (g : Nat) (hx : a.eval x = .pointer (some ⟨g, 0, none⟩)) (t : TypeId) (cs : Array Value) (fr : Nat × Nat) (d : TypeDesc) (hg : w.heap[g]? = some (.cells cs t fr))
    (hu : P.underlying ty = some d) (hd : (match d with | .struct _ | .array _ _ => true | _ => false) = true) (hi : (P.info? ty).map (·.size) = some cs.size)
    (h : wpList P ops Q rest (a.put o.dst (.agg cs)) w) : wpList P ops Q (o :: rest) a w := by
  simp only [wpList, hgd, if_true]
  exact .inl (wp_load_row ty x ho g hx t cs fr d hg hu hd hi h)

set_option maxRecDepth 100000 in
set_option maxHeartbeats 4000000 in
theorem moves_any (l : Ly) (s r t b : Int) (w : World) (f : LyFit l) (hb : b ≤ 9223372036854775807) (hr : -9223372036854775808 ≤ r) :
    Calls Try.prog 49 #[lyV l, .int .i64 s, .int .i64 r, .int .i64 t, .int .i64 b] w (MovesPost (movesOf l s r t b) w) := by
  by_cases h1 : ringAt l s r = -1
  · have e : movesOf l s r t b = [] := by unfold movesOf; rw [if_neg (fun h => h.1 h1)]
    rw [e]
    have H1 := Lib.hid h1
    clear h1 e
    go_enter Try.func49, Try.ntmps49
    go_wp2_with (refine wpList_load_row rfl 31 (.tmp 5) rfl w.heap.size rfl 31 (lyC l) (0, 0) _ (Bk.made w _ _) Try.underlying31 rfl (by kernel_rfl) ?_)
    (with_reducible refine (places_no l s r _ f H1.out).mono ?_)
    rintro e w1 ⟨rfl, hb1⟩
    have hbl := below_tr (below_al (Below.refl w.heap.size w) (.cells (lyC l) 31)) hb1
    clear hb1
    go_wp2
    go_ret
    exact movesPost_nil hbl
  · have hof := ringAt_of l s r h1
    have hn := ringsN_in l.c.tasks
    have hr0 : 0 ≤ r ∧ r ≤ 4 := by omega
    by_cases h2 : fitsB r t b = true
    · by_cases h3 : ringAt l s (r + 1) = -1
      · have e : movesOf l s r t b = [] := by unfold movesOf; rw [if_neg (fun h => h.2.2 h3)]
        rw [e]
        have H1 := Lib.hid h1
        have H2 := Lib.hid h2
        have H3 := Lib.hid h3
        clear h1 h2 h3 e hof hn
        go_enter Try.func49, Try.ntmps49
        go_wp2_with (refine wpList_load_row rfl 31 (.tmp 5) rfl w.heap.size rfl 31 (lyC l) (0, 0) _ (Bk.made w _ _) Try.underlying31 rfl (by kernel_rfl) ?_)
        (with_reducible refine (places_ok l s r _ f H1.out).mono ?_)
        rintro e w1 ⟨g, h, rfl, hg, hh, k1, k2, hb1⟩
        have k0 := (Bk.made w 31 (lyC l)).keep hb1
        have hbl := below_tr (below_al (Below.refl w.heap.size w) (.cells (lyC l) 31)) hb1
        clear hb1 k1 k2
        go_wp2_with fail
        (with_reducible refine (fits_any r t b _ (by omega)).mono ?_)
        rintro e w2 ⟨rfl, rfl⟩
        rw [H2.out]
        go_wp2_with (refine wpList_load_row rfl 31 (.tmp 5) rfl w.heap.size rfl 31 (lyC l) (0, 0) _ k0 Try.underlying31 rfl (by kernel_rfl) ?_)
        (with_reducible refine (places_no l s (r + 1) _ f H3.out).mono ?_)
        rintro e w3 ⟨rfl, hb2⟩
        replace hbl := below_tr hbl hb2
        clear hb2 k0
        go_wp2
        go_ret
        exact movesPost_nil hbl
      · have e : movesOf l s r t b = (List.range (b - t).toNat).map (moveAt l s r t) := by unfold movesOf; rw [if_pos ⟨h1, h2, h3⟩]
        rw [e]
        exact moves_go l s r t b w f hb h1 h2 h3
    · have e : movesOf l s r t b = [] := by unfold movesOf; rw [if_neg (fun h => h2 h.2.1)]
      rw [e]
      have h2' : fitsB r t b = false := by simpa using h2
      have H1 := Lib.hid h1
      have H2 := Lib.hid h2'
      clear h1 h2 h2' e hof hn
      go_enter Try.func49, Try.ntmps49
      go_wp2_with (refine wpList_load_row rfl 31 (.tmp 5) rfl w.heap.size rfl 31 (lyC l) (0, 0) _ (Bk.made w _ _) Try.underlying31 rfl (by kernel_rfl) ?_)
      (with_reducible refine (places_ok l s r _ f H1.out).mono ?_)
      rintro e w1 ⟨g, h, rfl, hg, hh, k1, k2, hb1⟩
      have hbl := below_tr (below_al (Below.refl w.heap.size w) (.cells (lyC l) 31)) hb1
      clear hb1 k1 k2
      go_wp2_with fail
      (with_reducible refine (fits_any r t b _ (by omega)).mono ?_)
      rintro e w2 ⟨rfl, rfl⟩
      rw [H2.out]
      go_wp2
      go_ret
      exact movesPost_nil hbl

end Go.Proofs.Ytdjglkpcdhkodaa
