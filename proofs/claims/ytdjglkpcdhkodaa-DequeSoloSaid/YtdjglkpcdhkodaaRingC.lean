/- ring.Moves. -/
import Derived.Test.YtdjglkpcdhkodaaRingB
import Derived.Maps.AppendAt
import Derived.OwnWalk
namespace Go.Proofs.Ytdjglkpcdhkodaa
open Go.RowKit
attribute [local go_sem ↓] Go.wp_at_zero Go.wp_at_succ

def pairCells (l : List (Int × Int)) : List Value := l.flatMap fun r => [.int .i64 r.1, .int .i64 r.2]
def OwnPairs (w : World) (base : Nat) (v : Value) (rs : List (Int × Int)) : Prop := w.ownsRow base 90 2 v rs.length (pairCells rs)
theorem pair_info : (Try.prog.info? 90).map (fun i => (i.zero, i.size, i.bytes)) = some (some (.agg #[.int .i64 0, .int .i64 0]), 2, 16) := by kernel_rfl
theorem Bk.drewN {w : World} {g : Nat} {t : TypeId} {cs : Array Value} (h : Bk w g t cs) (n : Nat) : Bk (w.drewN n) g t cs := h
theorem own_slice' {w : World} {base n : Nat} {e : TypeId} {sz : Nat} {v : Value} {xs : List Value} (h : w.ownsRow base e sz v n xs) : ∃ G cap, v = .slice G n cap := by
  rcases h.2 with ⟨rfl, rfl⟩ | ⟨g, cap, cur, rfl, _⟩
  · exact ⟨none, 0, rfl⟩
  · exact ⟨_, cap, rfl⟩
theorem own_low {w : World} {B B' n : Nat} {e : TypeId} {sz : Nat} {v : Value} {xs : List Value} (h : w.ownsRow B e sz v n xs) (hB : B' ≤ B) : w.ownsRow B' e sz v n xs := by
  rcases h.2 with h0 | ⟨g, cap, cur, h1, h2, h3⟩
  · exact ⟨h.1, .inl h0⟩
  · exact ⟨h.1, .inr ⟨g, cap, cur, h1, Nat.le_trans hB h2, h3⟩⟩
theorem two_news (w : World) (x y : Int) : ∀ (j : Nat) (u : Value), [Value.int .i64 x, .int .i64 y][j]? = some u → (w.alloc (.cells #[.int .i64 x, .int .i64 y] 90)).cell? ((⟨w.heap.size, 0, none⟩ : Addr).add j) = some u := by
  intro j u hu
  rw [Go.WideShapes.add_plain, Nat.zero_add, (Bk.made w 90 #[.int .i64 x, .int .i64 y]).cell j]
  simpa using hu
theorem two_one (x y : Int) : ∀ u ∈ [Value.int .i64 x, .int .i64 y], u.oneCell' = true := by
  intro u hu
  simp at hu
  rcases hu with rfl | rfl <;> rfl

def moveAt (l : Ly) (s r t : Int) (k : Nat) : Int × Int := (placeAt l s r (t + k), placeAt l s (r + 1) (t + k))
/-- What is moved. -/
def movesOf (l : Ly) (s r t b : Int) : List (Int × Int) := if ringAt l s r ≠ -1 ∧ fitsB r t b = true ∧ ringAt l s (r + 1) ≠ -1 then (List.range (b - t).toNat).map (moveAt l s r t) else []
def MovesPost (ps : List (Int × Int)) (w : World) (e : Ending) (w' : World) : Prop := ∃ A c, e = .returned (.slice A ps.length c) ∧ OwnPairs w' w.heap.size (.slice A ps.length c) ps ∧ Below w.heap.size w w'
theorem movesPost_nil {w w' : World} (h : Below w.heap.size w w') : MovesPost [] w (.returned (.slice none 0 0)) w' := ⟨none, 0, rfl, World.ownsRow_nil _ _ _ _, h⟩

def MvRel (w4 : World) (n : Nat) (F : Nat → Int × Int) (v i : Value) (wr : World) : Prop :=
  ∃ k : Nat, k ≤ n ∧ i = .int .i64 k ∧ Below w4.heap.size w4 wr ∧ wr.ownsRow w4.heap.size 90 2 v k (pairCells ((List.range k).map F))
theorem pairs_snoc (F : Nat → Int × Int) (k : Nat) : pairCells ((List.range (k + 1)).map F) = pairCells ((List.range k).map F) ++ [.int .i64 (F k).1, .int .i64 (F k).2] := by
  simp [pairCells, List.range_succ, List.flatMap_append]

set_option maxRecDepth 100000 in
set_option maxHeartbeats 4000000 in
theorem moves_go (l : Ly) (s r t b : Int) (w : World) (f : LyFit l) (hb : b ≤ 9223372036854775807) (h1 : ringAt l s r ≠ -1) (h2 : fitsB r t b = true) (h3 : ringAt l s (r + 1) ≠ -1) :
    Calls Try.prog 49 #[lyV l, .int .i64 s, .int .i64 r, .int .i64 t, .int .i64 b] w (MovesPost ((List.range (b - t).toNat).map (moveAt l s r t)) w) := by
  obtain ⟨i0, hi0, hz0, hz1, hz2⟩ := info_parts pair_info
  have hof := ringAt_of l s r h1
  have hin := ringAt_in l s r f
  have hin2 := ringAt_in l s (r + 1) f
  have hn := ringsN_in l.c.tasks
  have hs := sizeN_pos r (by omega) (by omega)
  have hs1 := sizeN_in r
  have hsx := sizeN_pos (r + 1) (by omega) (by omega)
  have hs2 := sizeN_in (r + 1)
  have hf : 0 ≤ t ∧ t ≤ b ∧ b - t ≤ sizeN r := by simpa [fitsB] using h2
  have hA : ∀ k : Nat, moveAt l s r t k = (ringAt l s r + (t + k) % sizeN r, ringAt l s (r + 1) + (t + k) % sizeN (r + 1)) := by
    intro k
    unfold moveAt placeAt
    rw [if_neg (by omega), if_neg (by omega)]
  obtain ⟨n, hnn⟩ : ∃ n : Nat, b = t + n := ⟨(b - t).toNat, by omega⟩
  have hnt : (b - t).toNat = n := by omega
  rw [hnt]
  generalize moveAt l s r t = F at *
  have H1 := Lib.hid h1
  have H2 := Lib.hid h2
  have H3 := Lib.hid h3
  have HA := Lib.hid hA
  have HN := Lib.hid hnn
  have hr0 : 0 ≤ r ∧ r ≤ 4 := by omega
  have p1 : 0 ≤ ringAt l s r ∧ ringAt l s r ≤ 1010000 := by omega
  have p2 : 0 ≤ ringAt l s (r + 1) ∧ ringAt l s (r + 1) ≤ 1010000 := by omega
  have hnb : (n : Int) ≤ 131072 := by omega
  have htb : t + n ≤ 9223372036854775807 := by omega
  have hbn1 : b - t ≤ n := by omega
  have hbn2 : n ≤ b - t := by omega
  obtain ⟨ht0, ht1, _⟩ := hf
  clear h1 h2 h3 hA hnt hin hin2 hof hn hnn
  go_enter Try.func49, Try.ntmps49
  go_wp2_with (refine wpList_load_row rfl 31 (.tmp 5) rfl w.heap.size rfl 31 (lyC l) (0, 0) _ (Bk.made w _ _) Try.underlying31 rfl (by kernel_rfl) ?_)
  (with_reducible refine (places_ok l s r _ f H1.out).mono ?_)
  rintro e w1 ⟨g, h, rfl, hg, hh, k1, k2, hb1⟩
  have k0 := (Bk.made w 31 (lyC l)).keep hb1
  have hbl := below_tr (below_al (Below.refl w.heap.size w) (.cells (lyC l) 31)) hb1
  clear hb1
  go_wp2_with fail
  (with_reducible refine (fits_any r t b _ (by omega)).mono ?_)
  rintro e w2 ⟨rfl, rfl⟩
  rw [H2.out]
  go_wp2_with (refine wpList_load_row rfl 31 (.tmp 5) rfl w.heap.size rfl 31 (lyC l) (0, 0) _ k0 Try.underlying31 rfl (by kernel_rfl) ?_)
  (with_reducible refine (places_ok l s (r + 1) _ f H3.out).mono ?_)
  rintro e w3 ⟨g', h', rfl, hg', hh', k3, k4, hb2⟩
  replace k1 := k1.keep hb2
  replace k2 := k2.keep hb2
  replace hbl := below_tr hbl hb2
  clear hb2 k0
  generalize ringAt l s r = a at *
  generalize ringAt l s (r + 1) = a' at *
  generalize sizeN r = z at *
  generalize sizeN (r + 1) = z' at *
  have e1 := k1.lt
  have e2 := k2.lt
  have e3 := k3.lt
  have e4 := k4.lt
  clear hg hh hg' hh'
  go_wp2_with fail
  go_loopw [14, 15, 45, 46, 47, 48, 49, 50, 51, 52, 53, 54, 55, 56, 57, 58, 59, 60, 61, 62] (fun v _ i _ _ _ _ _ _ _ _ _ _ _ _ _ _ _ _ _ wr => MvRel w3 n F v i wr) (fun _ _ i _ _ _ _ _ _ _ _ _ _ _ _ _ _ _ _ _ _ => n - (intOf i).toNat)
  case atStart => exact ⟨0, Nat.zero_le _, rfl, Below.refl _ _, World.ownsRow_nil _ _ _ _⟩
  case round =>
    obtain ⟨k, hk, rfl, hbw, hown⟩ := hrel
    by_cases hlt : k < n
    · have g0 : decide ((k : Int) < b - t) = true := by simp; omega
      replace k1 := k1.below hbw e1
      replace k2 := k2.below hbw e2
      replace k3 := k3.below hbw e3
      replace k4 := k4.below hbw e4
      have HO := Lib.hid hown
      have HB := Lib.hid hbw
      clear hown hbw
      go_wp2_with fail
      (with_reducible refine (placesf_any (t + k) a z g h _ k1 k2 (by omega) hs hs1.2 p1.1 (by omega)).mono ?_)
      rintro e w4 ⟨rfl, m, rfl⟩
      replace k3 := k3.drewN m
      replace k4 := k4.drewN m
      replace HO := Lib.hid (show (wr.drewN m).ownsRow _ _ _ _ _ _ from HO.out)
      replace HB := Lib.hid (below_dn HB.out m)
      clear k1 k2
      generalize wr.drewN m = w4 at *
      go_wp2_with fail
      (with_reducible refine (placesf_any (t + k) a' z' g' h' _ k3 k4 (by omega) hsx hs2.2 p2.1 (by omega)).mono ?_)
      rintro e w5 ⟨rfl, m', rfl⟩
      replace HO := Lib.hid (show (w4.drewN m').ownsRow _ _ _ _ _ _ from HO.out)
      replace HB := Lib.hid (below_dn HB.out m')
      clear k3 k4
      generalize w4.drewN m' = w5 at *
      have hsn := pairs_snoc F k
      rw [HA.out k] at hsn
      dsimp only at hsn
      generalize a + (t + (k : Int)) % z = x at *
      generalize a' + (t + (k : Int)) % z' = y at *
      have HS := Lib.hid hsn
      have hrow := World.ownsRow.alloc HO.out (.cells #[.int .i64 x, .int .i64 y] 90)
      have hsz := HB.out.size
      clear hsn
      go_wp2_with (at_builtin; go_must (refine wpList_append_own_at _ rfl (.tmp 48) (.tmp 60) _ rfl w3.heap.size 90 i0 _ 2 16 Try.underlying48 hi0 hz0 hz1 hz2 rfl (by omega) u14 k _ rfl hrow ⟨w5.heap.size, 0, none⟩ 1 1 [.int .i64 x, .int .i64 y] rfl rfl (two_news w5 x y) (two_one x y) (by simp only [maxLen]; omega) (by omega) (by simp; omega) ?_; intro v9 w6 hrow6 hgrow6 _ _))
      go_roundw
      case rel =>
        refine ⟨k + 1, by omega, by go_num, ?_, ?_⟩
        · exact (below_al HB.out _).grown hgrow6 (by simp; omega) (fun j hj => by have := (World.ownsRow.lt hrow _ hj).1; omega)
        · rw [HS.out]
          exact hrow6
      case measure => simp [intOf]; omega
    · obtain rfl : k = n := by omega
      have g0 : decide ((k : Int) < b - t) = false := by simp; omega
      have HO := Lib.hid hown
      have HB := Lib.hid hbw
      clear hown hbw
      go_wp2
      go_ret
      obtain ⟨G, cap, rfl⟩ := own_slice' HO.out
      refine ⟨G, cap, by simp, ?_, below_tr hbl HB.out⟩
      have := own_low HO.out hbl.size
      simpa [OwnPairs] using this
end Go.Proofs.Ytdjglkpcdhkodaa
