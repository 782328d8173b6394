/- The reference's Moves in one form, and Pairs. -/
import Derived.Test.YtekibkfpamfmoaaRefC
namespace Go.Proofs.Ytekibkfpamfmoaa
open Go.RowKit
attribute [local go_sem ↓] Go.wp_at_zero Go.wp_at_succ

set_option maxRecDepth 100000 in
set_option maxHeartbeats 4000000 in
theorem rmoves_any (l : Ly) (s r t b : Int) (w : World) (f : LyFit l) (hb : b ≤ 9223372036854775807) : Calls Try.prog 16 #[lyV l, .int .i64 s, .int .i64 r, .int .i64 t, .int .i64 b] w (MovesPost (movesOf l s r t b) w) := by
  by_cases h : (decide (ringAt l s r ≠ -1) && fitsB r t b) = true
  · have h12 : ringAt l s r ≠ -1 ∧ fitsB r t b = true := by simpa using h
    have hof := ringAt_of l s r h12.1
    have hn := ringsN_in l.c.tasks
    by_cases h3 : ringAt l s (r + 1) = -1
    · have e : movesOf l s r t b = [] := by unfold movesOf; rw [if_neg (fun h => h.2.2 h3)]
      have hp : placeAt l s (r + 1) 0 = -1 := by unfold placeAt; rw [if_pos (.inl h3)]
      rw [e]
      have H := Lib.hid (And.intro h hp)
      have hr0 : 0 ≤ r ∧ r ≤ 4 := by omega
      clear h h12 h3 e hp hof hn
      go_enter Try.func16, Try.ntmps16
      go_wp2_with (refine wpList_load_row rfl 26 (.tmp 5) rfl w.heap.size rfl 26 (lyC l) (0, 0) _ (Bk.made w _ _) Try.underlying26 rfl (by kernel_rfl) ?_)
      (with_reducible refine (rfits_any l s r t b _ f (by omega)).mono ?_)
      rintro e w1 ⟨rfl, hb1⟩
      rw [H.out.1]
      have k0 := (Bk.made w 26 (lyC l)).keep hb1
      have hbl := below_tr (below_al (Below.refl w.heap.size w) (.cells (lyC l) 26)) hb1
      clear hb1
      go_wp2_with (refine wpList_load_rowG (by rfl) 26 (.tmp 5) rfl w.heap.size rfl 26 (lyC l) (0, 0) _ k0 Try.underlying26 rfl (by kernel_rfl) ?_)
      (with_reducible refine (rplace_any l s (r + 1) 0 _ f).mono ?_)
      rintro e w3 ⟨rfl, hb1⟩
      rw [H.out.2]
      replace hbl := below_tr hbl hb1
      clear hb1 k0
      go_wp2
      go_ret
      exact movesPost_nil hbl
    · have e : movesOf l s r t b = (List.range (b - t).toNat).map (moveAt l s r t) := by unfold movesOf; rw [if_pos ⟨h12.1, h12.2, h3⟩]
      rw [e]
      exact rmoves_go l s r t b w f hb h12.1 h12.2 h3
  · have h' : (decide (ringAt l s r ≠ -1) && fitsB r t b) = false := by simpa using h
    have e : movesOf l s r t b = [] := by
      unfold movesOf
      rw [if_neg]
      rintro ⟨h1, h2, _⟩
      exact h (by simp [h1, h2])
    rw [e]
    have H := Lib.hid h'
    clear h h' e
    go_enter Try.func16, Try.ntmps16
    go_wp2_with (refine wpList_load_row rfl 26 (.tmp 5) rfl w.heap.size rfl 26 (lyC l) (0, 0) _ (Bk.made w _ _) Try.underlying26 rfl (by kernel_rfl) ?_)
    (with_reducible refine (rfits_any l s r t b _ f (by omega)).mono ?_)
    rintro e w1 ⟨rfl, hb1⟩
    rw [H.out]
    have hbl := below_tr (below_al (Below.refl w.heap.size w) (.cells (lyC l) 26)) hb1
    clear hb1
    go_wp2
    go_ret
    exact movesPost_nil hbl

theorem pairCells_get (l : List (Int × Int)) : ∀ k r, l[k]? = some r → (pairCells l)[k * 2]? = some (.int .i64 r.1) ∧ (pairCells l)[k * 2 + 1]? = some (.int .i64 r.2) := by
  induction l with
  | nil => intro k r h; simp at h
  | cons x l ih =>
    intro k r h
    cases k with
    | zero => simp at h; subst h; simp [pairCells]
    | succ k =>
      obtain ⟨h1, h2⟩ := ih k r (by simpa using h)
      have e1 : (k + 1) * 2 = k * 2 + 1 + 1 := by omega
      rw [e1]
      simp only [pairCells, List.flatMap_cons, List.cons_append, List.nil_append, List.getElem?_cons_succ]
      exact ⟨h1, h2⟩
/-- The same row of pairs, twice: Pairs says yes. -/
def PrRel (w : World) (n : Nat) (i : Value) (wr : World) : Prop := ∃ k : Nat, k ≤ n ∧ i = .int .i64 k ∧ Below w.heap.size w wr
set_option maxHeartbeats 2000000 in
theorem pairs_self (A A' : Option Addr) (c c' B B' n : Nat) (ps : List (Int × Int)) (w : World) (hn : ps.length = n) (h : OwnPairs w B (.slice A n c) ps) (h' : OwnPairs w B' (.slice A' n c') ps) (hm : n ≤ 1000000) :
    Calls Try.prog 14 #[.slice A n c, .slice A' n c'] w (BoolBelow true w) := by
  have hne : ((n : Int) != n) = false := by simp
  replace h : w.ownsRow B 47 2 (.slice A n c) n (pairCells ps) := by unfold OwnPairs at h; rwa [hn] at h
  replace h' : w.ownsRow B' 47 2 (.slice A' n c') n (pairCells ps) := by unfold OwnPairs at h'; rwa [hn] at h'
  go_enter Try.func14, Try.ntmps14
  go_wp2
  go_loopw [5, 11, 12, 13, 14, 15, 16, 17, 18, 19, 20, 21, 22, 23, 24, 25] (fun i _ _ _ _ _ _ _ _ _ _ _ _ _ _ _ wr => PrRel w n i wr) (fun i _ _ _ _ _ _ _ _ _ _ _ _ _ _ _ _ => n - (intOf i).toNat)
  case atStart => exact ⟨0, Nat.zero_le _, rfl, Below.refl _ _⟩
  case round =>
    obtain ⟨k, hk, rfl, hbw⟩ := hrel
    by_cases hlt : k < n
    · obtain ⟨⟨x, y⟩, hx⟩ : ∃ x, ps[k]? = some x := ⟨_, List.getElem?_eq_getElem (by omega)⟩
      obtain ⟨q1, q2⟩ := pairCells_get ps k _ hx
      obtain ⟨g, cap, hv, _, hg2⟩ := World.ownsRow.form h (by omega)
      obtain ⟨g', cap', hv', _, hg2'⟩ := World.ownsRow.form h' (by omega)
      injection hv with hA hB1 hB2
      injection hv' with hA' hB3 hB4
      subst hA hA'
      clear hB1 hB2 hB3 hB4
      have c1 := (bcellA hbw hg2).trans ((World.ownsRow.cellAt h (k * 2) (by omega)).trans q1)
      have c2 := (bcellA hbw hg2).trans ((World.ownsRow.cellAt h (k * 2 + 1) (by omega)).trans q2)
      have c3 := (bcellA hbw hg2').trans ((World.ownsRow.cellAt h' (k * 2) (by omega)).trans q1)
      have c4 := (bcellA hbw hg2').trans ((World.ownsRow.cellAt h' (k * 2 + 1) (by omega)).trans q2)
      dsimp only at c1 c2 c3 c4
      have pe := pair_eq x y x y
      simp only [beq_self_eq_true, Bool.and_self] at pe
      have i1 : (k : Int) < n := by omega
      have HB := Lib.hid hbw
      have HH := Lib.hid (And.intro h h')
      clear hx q1 q2 hbw h h' hn
      go_wp2_with fail
      go_quiet (fail)
      go_wp2
      go_roundw
      case rel => exact ⟨k + 1, by omega, by go_num, below_dn HB.out _⟩
      case measure => simp [intOf]; omega
    · obtain rfl : k = n := by omega
      go_wp2
      go_ret
      exact ⟨rfl, hbw⟩
end Go.Proofs.Ytekibkfpamfmoaa
