/- EraSafe. -/
import Derived.Test.YtgjdjgainjedhaaESh
namespace Go.Proofs.Ytgjdjgainjedhaa
open Go.RowKit
set_option linter.unusedVariables false
attribute [local go_sem ↓] Go.wp_at_zero Go.wp_at_succ

set_option maxRecDepth 1000000 in
set_option maxHeartbeats 8000000 in
theorem safe_law (tN : Int) (X : Option Addr) (n c : Nat) (T : Option Addr) (m d : Nat) (want : List (List Nat)) (turns : List Nat) (w : World) (t0 : 0 ≤ tN) (t1 : tN < 256) (hn : want.length = n) (hm : turns.length = m) (hW : SlU8s w w.heap.size X want) (hT : SlU8 w w.heap.size T turns) :
    Calls Try.prog 3 #[.agg (playC tN X n c T m d)] w (BoolBelow true w) := by
  have kP := Bk.made w 25 (playC tN X n c T m d)
  have hbl := below_al (Below.refl w.heap.size w) (.cells (playC tN X n c T m d) 25)
  have HW := Lib.hid (And.intro hW (And.intro hT (And.intro hn (And.intro hm (And.intro t0 t1)))))
  clear hW hT hn hm t0 t1
  go_enter Try.func3, Try.ntmps3
  go_wp2_with fail
  generalize w.alloc (.cells (playC tN X n c T m d) 25) = w1 at *
  obtain ⟨bP, hbP⟩ : ∃ z, w.heap.size = z := ⟨_, rfl⟩
  rw [hbP] at kP ⊢
  clear hbP
  (with_reducible refine (shown_any _).mono ?_)
  rintro e w2 ⟨rfl, hb⟩
  replace kP := kP.keep hb
  replace hbl := below_tr hbl hb
  clear hb
  go_wp2_with (refine wpList_load_row rfl 25 (.tmp 1) rfl bP rfl 25 (playC tN X n c T m d) (0, 0) _ kP Try.underlying25 rfl (by kernel_rfl) ?_)
  (with_reducible refine (few_any tN X n c T m d want _ HW.out.2.2.1 ((HW.out.1.below hbl).more hbl.size)).mono ?_)
  rintro e w3 ⟨b, rfl, hb, hfew⟩
  replace kP := kP.keep hb
  replace hbl := below_tr hbl hb
  clear hb
  cases b with
  | false =>
    have HB := Lib.hid hbl
    clear hbl hfew
    go_wp2_with fail
    go_ret
    exact ⟨rfl, HB.out⟩
  | true =>
    obtain ⟨f1, f2, f3, f4⟩ := hfew rfl
    have HF := Lib.hid (And.intro f1 (And.intro f2 (And.intro f3 f4)))
    clear f1 f2 f3 f4 hfew
    go_wp2_with (refine wpList_load_row rfl 25 (.tmp 1) rfl bP rfl 25 (playC tN X n c T m d) (0, 0) _ kP Try.underlying25 rfl (by kernel_rfl) ?_)
    (with_reducible refine (played_any tN X n c T m d want turns _ HW.out.2.2.2.2.1 HW.out.2.2.2.2.2 HF.out.1 HF.out.2.1 HF.out.2.2.1 HW.out.2.2.1 HW.out.2.2.2.1 ((HW.out.1.below hbl).more hbl.size) ((HW.out.2.1.below hbl).more hbl.size) HF.out.2.2.2).mono ?_)
    rintro e w4 ⟨gt, gs, rfl, -, -, hx, hb⟩
    replace hbl := below_tr hbl hb
    clear hb kP
    have hend := (play_ok (layOk_of (layEB_play n tN HF.out.1 HF.out.2.1)) want HF.out.2.2.2 turns (by rw [HW.out.2.2.2.1]; exact HF.out.2.2.1)).2.2.2 n (Nat.le_refl _)
    rw [whosP_end] at hend
    obtain ⟨ss, ti⟩ := hend.ti
    have hbad : (endE (playL n tN) n want turns).bad = false := ti.bad
    clear hend ti
    obtain ⟨gm, cm, cc, kT, -⟩ := hx.mem
    have c2 := kT.cell 2
    have lT := kT.lt
    simp at c2
    rw [hbad] at c2
    have HB := Lib.hid hbl
    clear hbl hbad kT hx
    go_wp2_with fail
    go_ret
    exact ⟨rfl, HB.out⟩
end Go.Proofs.Ytgjdjgainjedhaa
