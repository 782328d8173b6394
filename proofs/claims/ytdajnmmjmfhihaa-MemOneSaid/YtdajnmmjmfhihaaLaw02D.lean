/- The walk of MemOne. -/
import Derived.Test.YtdajnmmjmfhihaaLaw02C
namespace Go.Proofs.Ytdajnmmjmfhihaa
open Go.RowKit
attribute [local go_sem ↓] Go.wp_at_zero Go.wp_at_succ

theorem cas_yes (s z : Int) : ({ kind := 3, cell := 0, old := s, new := z } : Acc).err 1 = 0 ∧ ({ kind := 3, cell := 0, old := s, new := z } : Acc).okOut [s] = true ∧
    ({ kind := 3, cell := 0, old := s, new := z } : Acc).cellsOut [s] = [z] := by
  have he : ({ kind := 3, cell := 0, old := s, new := z } : Acc).err 1 = 0 := by simp [Acc.err, Acc.right]
  refine ⟨he, ?_, ?_⟩
  · simp [Acc.okOut, he, Acc.ok, Acc.had]
  · simp [Acc.cellsOut, he, Acc.make, Acc.next, Acc.had]
theorem cas_no (s t z : Int) (h : t ≠ s) : ({ kind := 3, cell := 0, old := s, new := z } : Acc).err 1 = 0 ∧ ({ kind := 3, cell := 0, old := s, new := z } : Acc).okOut [t] = false ∧
    ({ kind := 3, cell := 0, old := s, new := z } : Acc).cellsOut [t] = [t] := by
  have he : ({ kind := 3, cell := 0, old := s, new := z } : Acc).err 1 = 0 := by simp [Acc.err, Acc.right]
  refine ⟨he, ?_, ?_⟩
  · simp [Acc.okOut, he, Acc.ok, Acc.had, h]
  · simp [Acc.cellsOut, he, Acc.make, Acc.next, Acc.had, h]

def OneRel (w : World) (I n : Nat) (nv z0 : Int) (t7 i : Value) (wr : World) : Prop :=
  ∃ (k : Nat) (s : Int) (wt : Int) (X : Option Addr) (cx : Nat), k ≤ n ∧ i = .int .i64 k ∧ t7 = .int .i64 wt ∧ Below w.heap.size w wr ∧ w.heap.size ≤ I ∧ Bk wr (I + 1) 24 #[.slice X 1 cx] ∧ MemAt wr w.heap.size X 1 cx [s] ∧
    ((k = 0 ∧ s = nv ∧ wt = 0) ∨ (0 < k ∧ s = z0 ∧ wt = 1 ∧ z0 ≠ nv))

set_option maxHeartbeats 8000000 in
theorem one_any (nv : Int) (A : Option Addr) (n c : Nat) (zs : List Int) (w : World) (hzl : zs.length = n) (_hm : n ≤ maxLen) (h : Sl w w.heap.size A n (ints zs)) (_hb : ∀ z ∈ zs, -9223372036854775808 ≤ z ∧ z ≤ 9223372036854775807) (_h1 : -9223372036854775808 ≤ nv) (_h2 : nv ≤ 9223372036854775807) :
    Calls Try.prog 9 #[.int .i64 nv, .slice A n c] w (BoolBelow true w) := by
  clear _hm _hb _h1 _h2
  by_cases h20 : 20 < n
  · clear hzl
    go_enter Try.func9, Try.ntmps9
    go_wp2_with (go_at_call 10; refine (shown_any _).mono ?_; rintro e w1 ⟨rfl, hb⟩)
    go_ret
    exact ⟨rfl, hb⟩
  by_cases h0 : n = 0
  · subst h0
    clear hzl
    go_enter Try.func9, Try.ntmps9
    go_wp2_with (go_at_call 10; refine (shown_any _).mono ?_; rintro e w1 ⟨rfl, hb⟩)
    go_ret
    exact ⟨rfl, hb⟩
  · have h0' : ((n : Int) == 0) = false := by simp; omega
    have hpos : 0 < n := by omega
    obtain ⟨z0, hz0⟩ : ∃ z0, zs[0]? = some z0 := ⟨_, List.getElem?_eq_getElem (by omega)⟩
    have HZ := Lib.hid hz0
    clear hzl h0 hz0
    go_enter Try.func9, Try.ntmps9
    go_wp2_with fail
    refine (shown_any _).mono ?_
    rintro e w1 ⟨rfl, hbl⟩
    go_wp2_with fail
    go_loopw [7, 8] (fun t i wr => OneRel w w1.heap.size n nv z0 t i wr) (fun _ i _ => n - (intOf i).toNat)
    case atStart => exact ⟨0, nv, 0, some ⟨w1.heap.size, 0, none⟩, 1, Nat.zero_le _, rfl, rfl, below_al (below_al hbl _) _, hbl.size, Bk.new _ (by simp) _ _, ⟨rfl, .inr (own_lit1 ((Bk.made _ _ _).alloc _) hbl.size)⟩, .inl ⟨rfl, rfl, rfl⟩⟩
    case round =>
      obtain ⟨k, s, wt, X, cx, hk, rfl, rfl, hbw, hI, kM, hM, hcase⟩ := hrel
      by_cases hlt : k < n
      · obtain ⟨b, o, u, hA, hbb, hu, hcl⟩ := (h.below hbw).at_ hlt
        subst hA
        obtain ⟨z, hz, rfl⟩ := ints_get hu
        have HZ2 := Lib.hid hz
        have i1 : (k : Int) < n := by omega
        have i2 : (0 : Int) ≤ k := by omega
        by_cases hzn : z = nv
        · subst hzn
          go_wp2
          go_ret
          exact ⟨rfl, hbw⟩
        have hzb : (z == nv) = false := by simpa using hzn
        have c6 := kM.cell 0
        simp at c6
        have hlw := kM.lt
        have hbw2 : b < wr.heap.size := Nat.lt_of_lt_of_le hbb hbw.size
        have HS : Hid (∀ w' : World, Below wr.heap.size wr w' → (Below wr.heap.size wr w' ∧ w'.cell? ⟨w1.heap.size + 1, 0, none⟩ = some (.slice X 1 cx) ∧ w'.cell? ⟨b, o + k, none⟩ = some (.int .i64 z))) := by
          intro w' hb
          exact ⟨hb, (bcellA hb hlw).trans c6, (bcellA hb hbw2).trans hcl⟩
        have HN : Hid (∀ w' : World, Below wr.heap.size wr w' → Calls Try.prog 11 #[.agg #[.slice X 1 cx], .agg #[.int .i64 3, .int .i64 0, .int .i64 nv, .int .i64 z]] w' (Did2 1 w.heap.size ⟨3, 0, nv, z⟩ [s] w')) := by
          intro w' hb
          exact do_any X w.heap.size cx [s] ⟨3, 0, nv, z⟩ w' (Nat.le_trans hbw.size hb.size) (hM.keep hbw.size hb) (by simp)
        have hb0 := Below.refl wr.heap.size wr
        have HB := Lib.hid hbw
        have HK := Lib.hid kM
        have HCA := Lib.hid (And.intro hcase hzn)
        clear hbw kM hM hz hu h hcase hzn
        go_upto_region 11 with fail
        go_cut [9, 10, 11] (fun s9 s10 s11 wx => DoCut w.heap.size ⟨3, 0, nv, z⟩ 1 [s] wr s9 s10 s11 wx)
        case first =>
          go_region_held3 (fun w' => Below wr.heap.size wr w' ∧ w'.cell? ⟨w1.heap.size + 1, 0, none⟩ = some (.slice X 1 cx) ∧ w'.cell? ⟨b, o + k, none⟩ = some (.int .i64 z))
            ((refine HS.out _ ?_; repeat (first | exact hbc | exact hb0 | apply Below.drew | apply below_al | (refine below_setB ?_ (by omega) _ _))))
            (first | (go_at_call 11; refine (HN.out _ (‹Below wr.heap.size wr _ ∧ _›.1)).mono ?_; rintro e w2 ⟨X', c', rfl, hM2, hb2⟩; have hbc := below_tr (‹Below wr.heap.size wr _ ∧ _›.1) hb2; have bc := bcells (below_undrew hb2); have bf := bfrozens (below_undrew hb2); (try have hq1 : wr.heap.size < w2.heap.size := by (have := (below_undrew hb2).size; simp at this; omega)); (try have hq2 : wr.heap.size + 1 < w2.heap.size := by (have := (below_undrew hb2).size; simp at this; omega))))
          all_goals (go_wp2_with fail; go_meet)
          all_goals (first | exact docut1 hbc hM2 HB.out.size | exact docut2 hbc hM2 HB.out.size | exact docut3 hb2 hM2 HB.out.size | exact docut4 hb2 hM2 HB.out.size | exact docut5 hb2 hM2 HB.out.size | exact docut6 hb2 hM2 HB.out.size)
        case rest =>
          obtain ⟨p, q, X', cx', rfl, rfl, rfl, hp, hq, hpq, kp, kq, hM3, hb3⟩ := hcut
          have kM := HK.out.keep hb3
          have hbl3 := below_tr HB.out hb3
          have c0 := kM.cell 0
          have f0 := kM.free 0
          have cp := kp.cell 0
          have cq1 := kq.cell 1
          simp at c0 cp cq1
          have kM2 := kM.stored 0 (.slice X' 1 cx')
          have hM4 := hM3.far kM (by decide) (by omega) 0 (.slice X' 1 cx')
          have hbl4 := below_setB hbl3 (b := w1.heap.size + 1) (by omega) 0 (.slice X' 1 cx')
          have hqI : ¬ q = w1.heap.size + 1 := by omega
          have HR := Lib.hid (And.intro hbl4 (And.intro kM2 hM4))
          clear HS HN HK HB hcl c6 hbl3 kM kp kq kM2 hM3 hM4 hbl4 hb3 hb0
          obtain ⟨hcase, hzn⟩ := HCA.out
          rcases hcase with ⟨rfl, rfl, rfl⟩ | ⟨hk0, rfl, rfl, hne⟩
          · obtain ⟨g1, g2, g3⟩ := cas_yes s z
            rw [g1]
            rw [g2] at cq1
            have HG := Lib.hid (And.intro g3 hzn)
            have hzz : z = z0 := by
              have a1 := HZ.out
              have a2 := HZ2.out
              rw [a1] at a2
              injection a2 with a2
              exact a2.symm
            have HZZ := Lib.hid hzz
            clear g1 g2 g3 HCA hzn hzz
            go_wp2
            go_roundw
            case rel =>
              obtain ⟨g3, hzn⟩ := HG.out
              have hM4 := HR.out.2.2
              rw [g3] at hM4
              exact ⟨1, z, 1, X', cx', by omega, rfl, rfl, HR.out.1, hI, HR.out.2.1, hM4, .inr ⟨by omega, HZZ.out, rfl, by rw [← HZZ.out]; exact hzn⟩⟩
            case measure => simp [intOf]; omega
          · obtain ⟨g1, g2, g3⟩ := cas_no nv s z hne
            rw [g1]
            rw [g2] at cq1
            have hk1 : ((k : Int) == 0) = false := by simp; omega
            have HG := Lib.hid (And.intro g3 hne)
            clear g1 g2 g3 HCA hzn hne
            go_wp2
            go_roundw
            case rel =>
              obtain ⟨g3, hne⟩ := HG.out
              have hM4 := HR.out.2.2
              rw [g3] at hM4
              exact ⟨k + 1, s, 1, X', cx', by omega, by go_num, rfl, HR.out.1, hI, HR.out.2.1, hM4, .inr ⟨by omega, rfl, rfl, hne⟩⟩
            case measure => simp [intOf]; omega
      · obtain rfl : k = n := by omega
        rcases hcase with ⟨rfl, _⟩ | ⟨_, rfl, rfl, _⟩
        · omega
        obtain ⟨b, o, u, hA, hbb, hu, hcl⟩ := (h.below hbw).at_ hpos
        subst hA
        obtain ⟨z, hz, rfl⟩ := ints_get hu
        have hzs : z = s := by
          have a1 := HZ.out
          rw [a1] at hz
          injection hz with hz
          exact hz.symm
        subst hzs
        simp only [Nat.add_zero] at hcl
        have c6 := kM.cell 0
        simp at c6
        have hlw := kM.lt
        have hbw2 : b < wr.heap.size := Nat.lt_of_lt_of_le hbb hbw.size
        have i3 : (0 : Int) < k := by omega
        have HS : Hid (∀ w' : World, Below wr.heap.size wr w' → (Below wr.heap.size wr w' ∧ w'.cell? ⟨w1.heap.size + 1, 0, none⟩ = some (.slice X 1 cx) ∧ w'.cell? ⟨b, o, none⟩ = some (.int .i64 z))) := by
          intro w' hb
          exact ⟨hb, (bcellA hb hlw).trans c6, (bcellA hb hbw2).trans hcl⟩
        have hbx := (below_al (Below.refl wr.heap.size wr) (.cells #[.int .i64 z] 3)).drew
        have HN : Hid (Calls Try.prog 16 #[.agg #[.slice X 1 cx], .agg #[.slice (some ⟨wr.heap.size, 0, none⟩) 1 1]] (wr.alloc (.cells #[.int .i64 z] 3)).drew (BoolBelow true (wr.alloc (.cells #[.int .i64 z] 3)).drew)) :=
          same_self X (some ⟨wr.heap.size, 0, none⟩) 1 cx 1 [z] _ w.heap.size wr.heap.size (hM.keep hbw.size hbx) (MemAt.of_own (own_lit1 (Bk.made _ _ _).drew (Nat.le_refl _)) rfl (Nat.le_refl _)) (Nat.le_trans hbw.size hbx.size) hbx.size (by omega)
        have hb0 := Below.refl wr.heap.size wr
        have HB := Lib.hid hbw
        clear hbw kM hM hz hu h c6 hcl
        go_upto_region 17 with fail
        go_region_held3 (fun w' => Below wr.heap.size wr w' ∧ w'.cell? ⟨w1.heap.size + 1, 0, none⟩ = some (.slice X 1 cx) ∧ w'.cell? ⟨b, o, none⟩ = some (.int .i64 z))
          ((refine HS.out _ ?_; repeat (first | exact hbc | exact hb0 | apply Below.drew | apply below_al)))
          (first | (go_at_call 16; refine HN.out.mono ?_; rintro e w2 ⟨rfl, hb2⟩; have hbc := below_tr hbx hb2))
        go_wp2
        go_ret
        exact ⟨rfl, below_tr HB.out hbc⟩
end Go.Proofs.Ytdajnmmjmfhihaa
