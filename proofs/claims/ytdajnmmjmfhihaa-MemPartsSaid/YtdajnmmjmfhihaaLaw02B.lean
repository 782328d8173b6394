/- The walk of MemAll. -/
import Derived.Test.YtdajnmmjmfhihaaLaw02S
namespace Go.Proofs.Ytdajnmmjmfhihaa
open Go.RowKit
attribute [local go_sem ↓] Go.wp_at_zero Go.wp_at_succ

theorem allCellsOut_length (zs : List Int) (l : List Acc) : (allCellsOut zs l).length = zs.length := by unfold allCellsOut; split <;> simp [allCells_length]
theorem same_self (X Y : Option Addr) (n cx cy : Nat) (zs : List Int) (w : World) (B B' : Nat) (h : MemAt w B X n cx zs) (h' : MemAt w B' Y n cy zs) (hB : B ≤ w.heap.size) (hB' : B' ≤ w.heap.size) (hm : n ≤ 1000000) :
    Calls Try.prog 16 #[memV X n cx, memV Y n cy] w (BoolBelow true w) := by
  have e := h.1
  subst e
  have := rsame_any X Y cx cy zs zs w (h.sl hB) (h'.sl hB') hm hm
  simpa using this
theorem told_self (R S : Option Addr) (n d d' : Nat) (rs : List (Int × Bool)) (w : World) (B B' : Nat) (h : OwnRes w B (.slice R n d) rs) (h' : OwnRes w B' (.slice S n d') rs) (hn : rs.length = n) (hm : n ≤ 1000000) :
    Calls Try.prog 19 #[.slice R n d, .slice S n d'] w (BoolBelow true w) := by
  subst hn
  have := told_any R S d d' rs rs w (slres_of_own h) (slres_of_own h') hm hm
  simpa using this
theorem ownRes_n {w : World} {B n d : Nat} {R : Option Addr} {rs : List (Int × Bool)} (h : OwnRes w B (.slice R rs.length d) rs) (hn : rs.length = n) : OwnRes w B (.slice R n d) rs := by subst hn; exact h

set_option maxRecDepth 100000 in
set_option maxHeartbeats 8000000 in
theorem alls_any (A B : Option Addr) (c d : Nat) (zs : List Int) (l : List Acc) (w : World) (h : Sl w w.heap.size A zs.length (ints zs)) (hl : SlAcc w w.heap.size B l) :
    Calls Try.prog 4 #[memV A zs.length c, .slice B l.length d] w (BoolBelow true w) := by
  by_cases h1 : 100 < zs.length
  · go_enter Try.func4, Try.ntmps4
    go_wp2_with (go_at_call 10; refine (shown_any _).mono ?_; rintro e w1 ⟨rfl, hb⟩; have k0 := (Bk.made w 24 #[.slice A zs.length c]).keep hb; have hbl := below_tr (below_al (Below.refl w.heap.size w) _) hb; have c0 := k0.cell 0; simp at c0; clear hb)
    go_ret
    exact ⟨rfl, hbl⟩
  · by_cases h2 : 40 < l.length
    · go_enter Try.func4, Try.ntmps4
      go_wp2_with (go_at_call 10; refine (shown_any _).mono ?_; rintro e w1 ⟨rfl, hb⟩; have k0 := (Bk.made w 24 #[.slice A zs.length c]).keep hb; have hbl := below_tr (below_al (Below.refl w.heap.size w) _) hb; have c0 := k0.cell 0; simp at c0; clear hb)
      go_ret
      exact ⟨rfl, hbl⟩
    · have HM := Lib.hid h
      have HL := Lib.hid hl
      clear h hl
      go_enter Try.func4, Try.ntmps4
      go_wp2_with fail
      refine (shown_any _).mono ?_
      rintro e w1 ⟨rfl, hb⟩
      have k0 := (Bk.made w 24 #[.slice A zs.length c]).keep hb
      have hbl := below_tr (below_al (Below.refl w.heap.size w) _) hb
      have c0 := k0.cell 0
      simp at c0
      clear hb
      go_wp2_with fail
      (with_reducible refine (all_any A B w1.heap.size c d zs l _ (Nat.le_refl _) (MemAt.of_sl (HM.out.keepb hbl)) (HL.out.keepb hbl) (by omega) (by omega)).mono ?_)
      rintro e w2 ⟨X, cx, R, dr, rfl, hMx, hR, hb⟩
      have hlen : (allToldOut zs l).length ≤ 1000000 := by unfold allToldOut; split <;> simp [allTold_length]; omega
      have hR := hR
      generalize hn : (allToldOut zs l).length = n at *
      have HN := Lib.hid hn
      clear hn
      replace k0 := k0.keep hb
      replace hbl := below_tr hbl hb
      have hs1 := hb.size
      clear hb c0
      have c0 := k0.cell 0
      simp at c0
      have l0 := k0.lt
      go_wp2_with fail
      have kx := Bk.made w2 24 #[.slice X zs.length cx]
      have hbx := below_al (Below.refl w2.heap.size w2) (.cells #[.slice X zs.length cx] 24)
      replace hMx := hMx.keep hs1 hbx
      replace hR := own_keepb hR hbx
      replace hbl := below_tr hbl hbx
      have hs2 := hbx.size
      clear hbx k0 c0 l0
      generalize w2.alloc (.cells #[.slice X zs.length cx] 24) = w3 at *
      (with_reducible refine (rall_any A B c d zs l _ (MemAt.of_sl (HM.out.keepb hbl)) (HL.out.keepb hbl) (by omega) (by omega)).mono ?_)
      rintro e w4 ⟨Y, cy, S, ds, rfl, hMy, hS, hb⟩
      have hn2 := HN.out
      rw [hn2] at *
      replace kx := kx.keep hb
      replace hMx := hMx.keep (Nat.le_trans hs1 hs2) hb
      replace hR := own_keepb hR hb
      replace hbl := below_tr hbl hb
      have hs3 := hb.size
      clear hb hn2
      have c0 := kx.cell 0
      simp at c0
      have l0 := kx.lt
      go_wp2_with fail
      have hbx := below_al (Below.refl w4.heap.size w4) (.cells #[.slice Y zs.length cy] 24)
      (with_reducible refine (same_self X Y zs.length cx cy (allCellsOut zs l) _ w1.heap.size w3.heap.size (hMx.keep (by omega) hbx) (hMy.keep (by omega) hbx) (by simp; omega) (by simp; omega) (by omega)).mono ?_)
      rintro e w5 ⟨rfl, hb⟩
      replace hbl := below_tr (below_tr hbl hbx) hb
      replace hR := own_keepb (own_keepb hR hbx) hb
      replace hS := own_keepb (own_keepb hS hbx) hb
      clear hb hbx c0 l0
      have hR' : OwnRes w5 w1.heap.size (.slice R n dr) (allToldOut zs l) := hR
      have hS' : OwnRes w5 w3.heap.size (.slice S (allToldOut zs l).length ds) (allToldOut zs l) := hS
      clear hR hS
      go_wp2_with fail
      (with_reducible refine (told_self R S n dr ds (allToldOut zs l) _ _ _ hR' (ownRes_n hS' HN.out) HN.out hlen).mono ?_)
      rintro e w6 ⟨rfl, hb⟩
      replace hbl := below_tr hbl hb
      clear hb hR' hS'
      go_wp2
      go_ret
      exact ⟨rfl, hbl⟩
end Go.Proofs.Ytdajnmmjmfhihaa
