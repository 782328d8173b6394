/- The walk of WordTurns. -/
import Derived.Test.YtlakhaiphbmffaaL2
import Derived.Test.YtlakhaiphbmffaaLib
import Derived.Test.YtlakhaiphbmffaaOpenS
import Derived.BigRegion
import Derived.Deep.RegionLaw
namespace Go.Proofs.Ytlakhaiphbmffaa
open Go.RowKit sl
attribute [local go_sem ↓] Go.wp_at_zero Go.wp_at_succ

def TurnsRel (w : World) (F n : Nat) (fi fc : Int) (fm : Bool) (i : Value) (wr : World) : Prop :=
  ∃ (k : Nat) (ai ac : Int) (am : Bool), k ≤ n ∧ i = .int .i64 k ∧ Below w.heap.size w wr ∧ w.heap.size ≤ F ∧ Bk wr F 23 #[.int .i64 fi, .bool fm, .int .i64 fc] ∧ Bk wr (F + 1) 23 #[.int .i64 ai, .bool am, .int .i64 ac]
    ∧ ac = (fc + k) % 268435456

theorem pack_ne (i : Int) (m : Bool) (c k : Int) (o : Bool) (d : Int) (hi0 : 0 ≤ i) (hi : i < 65536) (hc0 : 0 ≤ c) (hc : c < 268435456) (hd0 : 0 ≤ d) (hd : d < 268435456) (h : c ≠ d) : (packI i m c == packI k o d) = false := by
  rw [beq_eq_false_iff_ne]
  intro e
  obtain ⟨_, _, a3⟩ := of_pack i m c hi0 hi hc0 hc
  have b3 : packI k o d / 131072 % 268435456 = d := by
    unfold packI
    cases o <;> simp <;> omega
  rw [e, b3] at a3
  exact h a3.symm

def STurn (w : World) (F : Nat) (fi : Int) (fm : Bool) (fc zz cc : Int) (w' : World) : Prop :=
  Below w.heap.size w w' ∧ Bk w' F 23 #[.int .i64 fi, .bool fm, .int .i64 fc] ∧ Bk w' (F + 1) 23 #[.int .i64 zz, .bool false, .int .i64 cc]
section
variable {w W w1 : World} {F : Nat} {fi : Int} {fm : Bool} {fc zz cc : Int}
theorem STurn.cells (h : STurn w F fi fm fc zz cc W) : W.cell? ⟨F, 0, none⟩ = some (.int .i64 fi) ∧ W.cell? ⟨F, 1, none⟩ = some (.bool fm) ∧ W.cell? ⟨F, 2, none⟩ = some (.int .i64 fc)
    ∧ W.cell? ⟨F + 1, 0, none⟩ = some (.int .i64 zz) ∧ W.cell? ⟨F + 1, 1, none⟩ = some (.bool false) ∧ W.cell? ⟨F + 1, 2, none⟩ = some (.int .i64 cc) :=
  ⟨h.2.1.cell 0, h.2.1.cell 1, h.2.1.cell 2, h.2.2.cell 0, h.2.2.cell 1, h.2.2.cell 2⟩
theorem STurn.keep2 {p : Prop} (hb : Below W.heap.size W w1) (h : STurn w F fi fm fc zz cc W ∧ p) : STurn w F fi fm fc zz cc w1 ∧ w1.cell? ⟨F, 0, none⟩ = some (.int .i64 fi) ∧ w1.cell? ⟨F, 1, none⟩ = some (.bool fm) ∧ w1.cell? ⟨F, 2, none⟩ = some (.int .i64 fc)
    ∧ w1.cell? ⟨F + 1, 0, none⟩ = some (.int .i64 zz) ∧ w1.cell? ⟨F + 1, 1, none⟩ = some (.bool false) ∧ w1.cell? ⟨F + 1, 2, none⟩ = some (.int .i64 cc) := by
  have hs : STurn w F fi fm fc zz cc w1 := ⟨below_tr h.1.1 hb, h.1.2.1.keep hb, h.1.2.2.keep hb⟩
  exact ⟨hs, hs.cells⟩
theorem STurn.drew2 {p : Prop} (h : STurn w F fi fm fc zz cc W ∧ p) : STurn w F fi fm fc zz cc W.drew ∧ W.drew.cell? ⟨F, 0, none⟩ = some (.int .i64 fi) ∧ W.drew.cell? ⟨F, 1, none⟩ = some (.bool fm) ∧ W.drew.cell? ⟨F, 2, none⟩ = some (.int .i64 fc)
    ∧ W.drew.cell? ⟨F + 1, 0, none⟩ = some (.int .i64 zz) ∧ W.drew.cell? ⟨F + 1, 1, none⟩ = some (.bool false) ∧ W.drew.cell? ⟨F + 1, 2, none⟩ = some (.int .i64 cc) := by
  have hs : STurn w F fi fm fc zz cc W.drew := ⟨h.1.1.drew, h.1.2.1.drew, h.1.2.2.drew⟩
  exact ⟨hs, hs.cells⟩
end

set_option maxHeartbeats 4000000 in
theorem turns_any (i : Int) (m : Bool) (c : Int) (A : Option Addr) (n cap : Nat) (zs : List Int) (w : World) (hl : Sl w w.heap.size A n (ints zs)) (hm : n ≤ 9223372036854775807) :
    Calls Try.prog 6 #[refV i m c, .slice A n cap] w (BoolBelow true w) := by
  have ha := Below.refl w.heap.size w
  by_cases h200 : 200 < n
  · go_enter Try.func6, Try.ntmps6
    go_wp2_with (go_at_call 9; refine (awake_any _).mono ?_; rintro e w1 ⟨rfl, hb⟩; replace ha := below_tr (below_al ha _) hb; clear hb)
    go_ret
    exact ⟨rfl, ha⟩
  · go_enter Try.func6, Try.ntmps6
    go_wp2_with (go_at_call 9; refine (awake_any _).mono ?_; rintro e w1 ⟨rfl, hb0⟩; replace ha := below_tr (below_al ha _) hb0; have hk0 := (Bk.made w 23 #[.int .i64 i, .bool m, .int .i64 c]).keep hb0; have c0 := hk0.cell 0; have c1 := hk0.cell 1; have c2 := hk0.cell 2)
    simp at c0 c1 c2
    refine (pack_any _ _ _ _).mono ?_
    rintro e w2 ⟨rfl, hb⟩
    replace ha := below_tr ha hb
    clear hb hb0 hk0 c0 c1 c2
    go_wp2_with fail
    refine (of_any _ _).mono ?_
    rintro e w3 ⟨rfl, hb⟩
    replace ha := below_tr ha hb
    clear hb
    generalize packI i m c % 65536 = fi
    generalize (packI i m c / 65536 % 2 == 1) = fm
    have hf0 : 0 ≤ packI i m c / 131072 % 268435456 := by omega
    have hf1 : packI i m c / 131072 % 268435456 < 268435456 := by omega
    generalize packI i m c / 131072 % 268435456 = fc at *
    go_wp2_with fail
    go_loopw [8] (fun i wr => TurnsRel w w3.heap.size n fi fc fm i wr) (fun i _ => n - (intOf i).toNat)
    case atStart => 
      refine ⟨0, fi, fc, fm, Nat.zero_le _, rfl, below_al (below_al ha _) _, ha.size, (Bk.made _ _ _).alloc _, Bk.new _ (by simp) _ _, by omega⟩
    case round =>
      obtain ⟨k, ai, ac, am, hk, rfl, hbw, hF, hkF, hkA, hac⟩ := hrel
      by_cases hlt : k < n
      · obtain ⟨b, o, u, hA, hbl, hu, hcl⟩ := (hl.below hbw).at_ hlt
        obtain ⟨z, hz, rfl⟩ := ints_get hu
        subst hA
        have f0 := hkF.cell 0; have f1 := hkF.cell 1; have f2 := hkF.cell 2
        have a0 := hkA.cell 0; have a1 := hkA.cell 1; have a2 := hkA.cell 2
        have r0 := hkA.free 0; have r1 := hkA.free 1; have r2 := hkA.free 2
        simp at f0 f1 f2 a0 a1 a2
        have hlA := hkA.lt
        have HH := Lib.hid hac
        have HK := Lib.hid (And.intro hkF hkA)
        have HB := Lib.hid (And.intro hbw ha)
        have HL := Lib.hid hl
        clear hac hkF hkA hbw ha hl hu hz
        go_wp2_with fail
        go_region_with (go_at_call 14; refine (turn_any _ _ _ _ _).mono ?_; rintro e w4 ⟨rfl, hb4⟩; have q0 := (bcellA (o := 0) hb4 hlA).trans a0; have q1 := (bcellA (o := 1) hb4 hlA).trans a1; have q2 := (bcellA (o := 2) hb4 hlA).trans a2; have s0 := (hb4.frozen (p := ⟨w3.heap.size + 1, 0, none⟩) hlA).trans r0; have s1 := (hb4.frozen (p := ⟨w3.heap.size + 1, 1, none⟩) hlA).trans r1; have s2 := (hb4.frozen (p := ⟨w3.heap.size + 1, 2, none⟩) hlA).trans r2)
        all_goals
          have hbd : Below wr.heap.size wr w4 := below_undrew hb4
          have kF := ((((HK.out.1).keep hbd).other (p := ⟨w3.heap.size + 1, 0, none⟩) (by simp) (.int .i64 (z % 65536))).other (p := ⟨w3.heap.size + 1, 1, none⟩) (by simp) (.bool false)).other (p := ⟨w3.heap.size + 1, 2, none⟩) (by simp) (.int .i64 ((ac + 1) % 268435456))
          have kA := ((((HK.out.2).keep hbd).stored 0 (.int .i64 (z % 65536))).stored 1 (.bool false)).stored 2 (.int .i64 ((ac + 1) % 268435456))
          have kB : Below w.heap.size w (((w4.setCell ⟨w3.heap.size + 1, 0, none⟩ (.int .i64 (z % 65536))).setCell ⟨w3.heap.size + 1, 1, none⟩ (.bool false)).setCell ⟨w3.heap.size + 1, 2, none⟩ (.int .i64 ((ac + 1) % 268435456))) :=
            below_set (below_set (below_set (below_tr HB.out.1 hbd) (by simp; omega) _) (by simp; omega) _) (by simp; omega) _
          simp only [List.setIfInBounds_toArray, List.set_cons_zero, List.set_cons_succ] at kA
          clear q0 q1 q2 s0 s1 s2 a0 a1 a2 r0 r1 r2 f0 f1 f2 hcl hb4 hbd HB HL
          generalize (((w4.setCell ⟨w3.heap.size + 1, 0, none⟩ (.int .i64 (z % 65536))).setCell ⟨w3.heap.size + 1, 1, none⟩ (.bool false)).setCell ⟨w3.heap.size + 1, 2, none⟩ (.int .i64 ((ac + 1) % 268435456))) = W5 at *
          have hac0 := HH.out
          have hc0 : 0 ≤ (ac + 1) % 268435456 := by omega
          have hc1 : (ac + 1) % 268435456 < 268435456 := by omega
          have hc2 : (ac + 1) % 268435456 = (fc + ↑k + 1) % 268435456 := by omega
          have hz0 : 0 ≤ z % 65536 := by omega
          have hz1 : z % 65536 < 65536 := by omega
          clear hac0 HH HK
          generalize (ac + 1) % 268435456 = cc at *
          generalize z % 65536 = zz at *
          have n1 : (packI zz false cc == packI fi fm fc) = false := pack_ne zz false cc fi fm fc hz0 hz1 hc0 hc1 hf0 hf1 (by omega)
          have n2 : (cc != (IntKind.i64.wrap (IntKind.i64.wrap (fc + ↑k) + 1)).tmod 268435456) = false := by
            rw [IntWalk.i64_in (fc + ↑k) (by omega), IntWalk.i64_in _ (by omega), Int.tmod_eq_emod_of_nonneg (by omega), ← hc2]
            simp
          have HC := Lib.hid hc2
          clear hc2
          have f0 := kF.cell 0; have f1 := kF.cell 1; have f2 := kF.cell 2
          have a0 := kA.cell 0; have a1 := kA.cell 1; have a2 := kA.cell 2
          have hS : STurn w w3.heap.size fi fm fc zz cc W5 := ⟨kB, kF, kA⟩
          have hcells := hS.cells
          clear kB kF kA
          go_wp2_with fail
          go_region_held3 (fun w' => STurn w w3.heap.size fi fm fc zz cc w' ∧ w'.cell? ⟨w3.heap.size, 0, none⟩ = some (.int .i64 fi) ∧ w'.cell? ⟨w3.heap.size, 1, none⟩ = some (.bool fm) ∧ w'.cell? ⟨w3.heap.size, 2, none⟩ = some (.int .i64 fc)
              ∧ w'.cell? ⟨w3.heap.size + 1, 0, none⟩ = some (.int .i64 zz) ∧ w'.cell? ⟨w3.heap.size + 1, 1, none⟩ = some (.bool false) ∧ w'.cell? ⟨w3.heap.size + 1, 2, none⟩ = some (.int .i64 cc))
            (first | exact STurn.keep2 (by assumption) (by assumption) | exact STurn.drew2 (by assumption) | exact ⟨hS, hcells⟩ | exact STurn.drew2 ⟨hS, hcells⟩)
            (first | (go_at_call 10; refine (pack_any _ _ _ _).mono ?_; rintro e w6 ⟨rfl, hb6⟩))
          rename_i hh
          obtain ⟨hT, _⟩ := hh
          clear hcells hS
          go_wp2
          go_roundw
          case rel => exact ⟨k + 1, zz, cc, false, by omega, by go_num, hT.1, hF, hT.2.1, hT.2.2, by have := HC.out; omega⟩
          case measure => simp [intOf]; omega
      · obtain rfl : k = n := by omega
        go_wp2
        go_ret
        exact ⟨rfl, hbw⟩
end Go.Proofs.Ytlakhaiphbmffaa
