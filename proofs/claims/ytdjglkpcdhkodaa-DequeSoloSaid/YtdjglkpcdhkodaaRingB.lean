/- ring.places, Place, fits. -/
import Derived.Test.YtdjglkpcdhkodaaRingA
namespace Go.Proofs.Ytdjglkpcdhkodaa
open Go.RowKit
attribute [local go_sem ↓] Go.wp_at_zero Go.wp_at_succ

theorem placesf_any (i a n : Int) (g h : Nat) (w : World) (k1 : Bk w g 3 #[.int .i64 a]) (k2 : Bk w h 3 #[.int .i64 n]) (hi : 0 ≤ i) (hn : 4 ≤ n) (hn1 : n ≤ 131072) (ha : 0 ≤ a) (ha1 : a ≤ 2000000) :
    Calls Try.prog 61 #[.int .i64 i, .pointer (some ⟨g, 0, none⟩), .pointer (some ⟨h, 0, none⟩)] w fun e w' => e = .returned (.int .i64 (a + i % n)) ∧ ∃ m, w' = w.drewN m := by
  have c1 := k1.cell 0
  have c2 := k2.cell 0
  simp at c1 c2
  have hne : (n == 0) = false := by simp; omega
  have hne2 : n ≠ 0 := by omega
  have hm0 : 0 ≤ i % n := Int.emod_nonneg _ (by omega)
  have hm1 : i % n < n := Int.emod_lt_of_pos _ (by omega)
  have hmod : i.tmod n = i % n := Int.tmod_eq_emod_of_nonneg hi
  have hw : IntKind.i64.wrap (i % n) = i % n := IntWalk.i64_in _ (by omega)
  have hw2 : IntKind.i64.wrap (a + i % n) = a + i % n := IntWalk.i64_in _ (by omega)
  clear k1 k2
  go_enter Try.func61, Try.ntmps61
  go_wp2_with fail
  go_quiet (fail)
  go_wp2
  go_ret
  exact ⟨rfl, _, rfl⟩

/-- The value that places hands back, and its two cells. -/
def PlacesOk (a n : Int) (w : World) (e : Ending) (w' : World) : Prop :=
  ∃ g h, e = .returned (.tuple #[.func (.func 61) #[] #[.pointer (some ⟨g, 0, none⟩), .pointer (some ⟨h, 0, none⟩)], .bool true]) ∧ w.heap.size ≤ g ∧ w.heap.size ≤ h ∧ Bk w' g 3 #[.int .i64 a] ∧ Bk w' h 3 #[.int .i64 n] ∧ Below w.heap.size w w'
def PlacesNo (w : World) (e : Ending) (w' : World) : Prop := e = .returned (.tuple #[.nilFunc, .bool false]) ∧ Below w.heap.size w w'

set_option maxRecDepth 100000 in
set_option maxHeartbeats 4000000 in
theorem places_ok (l : Ly) (s r : Int) (w : World) (f : LyFit l) (h : ringAt l s r ≠ -1) : Calls Try.prog 56 #[lyV l, .int .i64 s, .int .i64 r] w (PlacesOk (ringAt l s r) (sizeN r) w) := by
  have hof := ringAt_of l s r h
  have hin := ringAt_in l s r f
  have hn := ringsN_in l.c.tasks
  have hs := sizeN_pos r (by omega) (by omega)
  have hpos : 0 ≤ ringAt l s r := by omega
  have g0 : decide (ringAt l s r < 0) = false := by simp; omega
  have g1 : (sizeN r == 0) = false := by simp; omega
  clear hof hin hn h
  go_enter Try.func56, Try.ntmps56
  go_wp2_with (refine wpList_load_row rfl 31 (.tmp 3) rfl w.heap.size rfl 31 (lyC l) (0, 0) _ (Bk.made w _ _) Try.underlying31 rfl (by kernel_rfl) ?_)
  (with_reducible refine (ring_any l s r _ f).mono ?_)
  rintro e w1 ⟨rfl, hb1⟩
  have hbl := below_tr (below_al (Below.refl w.heap.size w) (.cells (lyC l) 31)) hb1
  clear hb1
  generalize ringAt l s r = a at *
  go_wp2_with fail
  (with_reducible refine (size_any r _).mono ?_)
  rintro e w2 ⟨rfl, rfl⟩
  generalize sizeN r = n at *
  go_wp2
  go_ret2
  exact ⟨_, _, rfl, hbl.size, by have := hbl.size; omega, (Bk.made w2 _ _).alloc _, Bk.new _ (by simp) _ _, below_al (below_al hbl _) _⟩

set_option maxRecDepth 100000 in
set_option maxHeartbeats 4000000 in
theorem places_no (l : Ly) (s r : Int) (w : World) (f : LyFit l) (h : ringAt l s r = -1) : Calls Try.prog 56 #[lyV l, .int .i64 s, .int .i64 r] w (PlacesNo w) := by
  have H := Lib.hid h
  clear h
  go_enter Try.func56, Try.ntmps56
  go_wp2_with (refine wpList_load_row rfl 31 (.tmp 3) rfl w.heap.size rfl 31 (lyC l) (0, 0) _ (Bk.made w _ _) Try.underlying31 rfl (by kernel_rfl) ?_)
  (with_reducible refine (ring_any l s r _ f).mono ?_)
  rintro e w1 ⟨rfl, hb1⟩
  have hbl := below_tr (below_al (Below.refl w.heap.size w) (.cells (lyC l) 31)) hb1
  clear hb1
  rw [H.out]
  go_wp2_with fail
  (with_reducible refine (size_any r _).mono ?_)
  rintro e w2 ⟨rfl, rfl⟩
  generalize sizeN r = n at *
  go_wp2
  go_ret2
  exact ⟨rfl, below_al (below_al hbl _) _⟩

/-- The cell of a place; -1: there is none. -/
def placeAt (l : Ly) (s r i : Int) : Int := if ringAt l s r = -1 ∨ i < 0 then -1 else ringAt l s r + i % sizeN r
set_option maxRecDepth 100000 in
set_option maxHeartbeats 4000000 in
theorem place_any (l : Ly) (s r i : Int) (w : World) (f : LyFit l) : Calls Try.prog 58 #[lyV l, .int .i64 s, .int .i64 r, .int .i64 i] w (IntBelow (placeAt l s r i) w) := by
  by_cases h : ringAt l s r = -1
  · have hv : placeAt l s r i = -1 := by unfold placeAt; rw [if_pos (.inl h)]
    rw [hv]
    have HV := Lib.hid hv
    clear hv
    go_enter Try.func58, Try.ntmps58
    go_wp2_with (refine wpList_load_row rfl 31 (.tmp 4) rfl w.heap.size rfl 31 (lyC l) (0, 0) _ (Bk.made w _ _) Try.underlying31 rfl (by kernel_rfl) ?_)
    (with_reducible refine (places_no l s r _ f h).mono ?_)
    rintro e w1 ⟨rfl, hb1⟩
    have hbl := below_tr (below_al (Below.refl w.heap.size w) (.cells (lyC l) 31)) hb1
    clear hb1 h
    go_wp2
    go_ret
    exact ⟨rfl, hbl⟩
  · have hof := ringAt_of l s r h
    have hin := ringAt_in l s r f
    have hn := ringsN_in l.c.tasks
    have hs := sizeN_pos r (by omega) (by omega)
    have hs1 := sizeN_in r
    have hpos : 0 ≤ ringAt l s r ∧ ringAt l s r ≤ 1010000 := by omega
    have HH := Lib.hid h
    clear hof hin hn h
    by_cases hi : i < 0
    · have hv : placeAt l s r i = -1 := by unfold placeAt; rw [if_pos (.inr hi)]
      rw [hv]
      have HV := Lib.hid hv
      clear hv
      go_enter Try.func58, Try.ntmps58
      go_wp2_with (refine wpList_load_row rfl 31 (.tmp 4) rfl w.heap.size rfl 31 (lyC l) (0, 0) _ (Bk.made w _ _) Try.underlying31 rfl (by kernel_rfl) ?_)
      (with_reducible refine (places_ok l s r _ f HH.out).mono ?_)
      rintro e w1 ⟨g, h, rfl, hg, hh, k1, k2, hb1⟩
      have hbl := below_tr (below_al (Below.refl w.heap.size w) (.cells (lyC l) 31)) hb1
      clear hb1
      go_wp2
      go_ret
      exact ⟨rfl, hbl⟩
    · have hv : placeAt l s r i = ringAt l s r + i % sizeN r := by unfold placeAt; rw [if_neg (by have := HH.out; omega)]
      have HV := Lib.hid hv
      clear hv
      have hi' : 0 ≤ i := by omega
      have g0 : decide (i < 0) = false := by simp; omega
      go_enter Try.func58, Try.ntmps58
      go_wp2_with (refine wpList_load_row rfl 31 (.tmp 4) rfl w.heap.size rfl 31 (lyC l) (0, 0) _ (Bk.made w _ _) Try.underlying31 rfl (by kernel_rfl) ?_)
      (with_reducible refine (places_ok l s r _ f HH.out).mono ?_)
      rintro e w1 ⟨g, h, rfl, hg, hh, k1, k2, hb1⟩
      have hbl := below_tr (below_al (Below.refl w.heap.size w) (.cells (lyC l) 31)) hb1
      clear hb1
      go_wp2_with fail
      (with_reducible refine (placesf_any i _ _ g h _ k1 k2 hi' hs hs1.2 hpos.1 (by omega)).mono ?_)
      rintro e w2 ⟨rfl, m, rfl⟩
      go_wp2
      go_ret
      rw [HV.out]
      exact ⟨rfl, below_dn hbl m⟩

/-- May a ring have all places from a top to ahead of a bottom? -/
def fitsB (r t b : Int) : Bool := decide (0 ≤ t) && (decide (t ≤ b) && decide (b - t ≤ sizeN r))
def BoolSame (b : Bool) (w : World) (e : Ending) (w' : World) : Prop := e = .returned (.bool b) ∧ w' = w
theorem fits_any (r t b : Int) (w : World) (hb : b ≤ 9223372036854775807) : Calls Try.prog 57 #[.int .i64 r, .int .i64 t, .int .i64 b] w (BoolSame (fitsB r t b) w) := by
  by_cases h0 : 0 ≤ t
  · by_cases h1 : t ≤ b
    · have e : fitsB r t b = decide (b - t ≤ sizeN r) := by simp [fitsB, h0, h1]
      rw [e]
      clear e
      go_enter Try.func57, Try.ntmps57
      go_wp2_with fail
      (with_reducible refine (size_any r _).mono ?_)
      rintro e w2 ⟨rfl, rfl⟩
      generalize sizeN r = n at *
      go_wp2
      go_ret
      exact ⟨rfl, rfl⟩
    · have e : fitsB r t b = false := by simp [fitsB, h1]
      rw [e]
      clear e
      have g0 : decide (t ≤ b) = false := by simp; omega
      have g1 : decide (0 ≤ t) = true := by simp; omega
      go_enter Try.func57, Try.ntmps57
      go_wp2
      go_ret
      exact ⟨rfl, rfl⟩
  · have e : fitsB r t b = false := by simp [fitsB, h0]
    rw [e]
    clear e
    have g1 : decide (0 ≤ t) = false := by simp; omega
    go_enter Try.func57, Try.ntmps57
    go_wp2
    go_ret
    exact ⟨rfl, rfl⟩
end Go.Proofs.Ytdjglkpcdhkodaa
