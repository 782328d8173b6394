/- The walk of MemSums. -/
import Derived.Test.YtdajnmmjmfhihaaLaw02B
namespace Go.Proofs.Ytdajnmmjmfhihaa
open Go.RowKit
attribute [local go_sem ↓] Go.wp_at_zero Go.wp_at_succ

theorem add_facts (s z : Int) : ({ kind := 4, cell := 1, old := 0, new := z } : Acc).err 2 = 0 ∧ ({ kind := 4, cell := 1, old := 0, new := z } : Acc).valOut [0, s] = s ∧ ({ kind := 4, cell := 1, old := 0, new := z } : Acc).okOut [0, s] = true ∧
    ({ kind := 4, cell := 1, old := 0, new := z } : Acc).cellsOut [0, s] = [0, wrap64 (s + z)] := by
  have he : ({ kind := 4, cell := 1, old := 0, new := z } : Acc).err 2 = 0 := by simp [Acc.err, Acc.right]
  refine ⟨he, ?_, ?_, ?_⟩
  · simp [Acc.valOut, he, Acc.had]
  · simp [Acc.okOut, he, Acc.ok]
  · simp [Acc.cellsOut, he, Acc.make, Acc.next, Acc.had]

theorem own_lit2 {w : World} {B g : Nat} {x y : Int} (k : Bk w g 3 #[.int .i64 x, .int .i64 y]) (hB : B ≤ g) : OwnInts w B (.slice (some ⟨g, 0, none⟩) 2 2) [x, y] :=
  ⟨rfl, .inr ⟨g, 2, #[.int .i64 x, .int .i64 y], rfl, hB, k, Nat.le_refl _, by simp [maxLen], rfl, rfl⟩⟩
theorem own_lit1 {w : World} {B g : Nat} {x : Int} (k : Bk w g 3 #[.int .i64 x]) (hB : B ≤ g) : OwnInts w B (.slice (some ⟨g, 0, none⟩) 1 1) [x] :=
  ⟨rfl, .inr ⟨g, 1, #[.int .i64 x], rfl, hB, k, Nat.le_refl _, by simp [maxLen], rfl, rfl⟩⟩

def SumsRel (w : World) (I n : Nat) (t7 i : Value) (wr : World) : Prop :=
  ∃ (k : Nat) (s : Int) (X : Option Addr) (cx : Nat), k ≤ n ∧ i = .int .i64 k ∧ t7 = .int .i64 s ∧ Below w.heap.size w wr ∧ w.heap.size ≤ I ∧ Bk wr (I + 1) 24 #[.slice X 2 cx] ∧ MemAt wr w.heap.size X 2 cx [0, s]

set_option maxHeartbeats 8000000 in
theorem sums_any (A : Option Addr) (n c : Nat) (zs : List Int) (m : Int) (w : World) (_hzl : zs.length = n) (_hm : n ≤ maxLen) (h : Sl w w.heap.size A n (ints zs)) (_hb : ∀ z ∈ zs, -9223372036854775808 ≤ z ∧ z ≤ 9223372036854775807) (_h1 : -9223372036854775808 ≤ m) (_h2 : m ≤ 9223372036854775807) :
    Calls Try.prog 8 #[.slice A n c, .int .i64 m] w (BoolBelow true w) := by
  clear _hm _hb _h1 _h2 _hzl
  by_cases h40 : 40 < n
  · go_enter Try.func8, Try.ntmps8
    go_wp2_with (go_at_call 10; refine (shown_any _).mono ?_; rintro e w1 ⟨rfl, hb⟩)
    go_ret
    exact ⟨rfl, hb⟩
  · go_enter Try.func8, Try.ntmps8
    go_wp2_with fail
    refine (shown_any _).mono ?_
    rintro e w1 ⟨rfl, hbl⟩
    go_wp2_with fail
    go_loopw [7, 8] (fun t i wr => SumsRel w w1.heap.size n t i wr) (fun _ i _ => n - (intOf i).toNat)
    case atStart => exact ⟨0, m, some ⟨w1.heap.size, 0, none⟩, 2, Nat.zero_le _, rfl, rfl, below_al (below_al hbl _) _, hbl.size, Bk.new _ (by simp) _ _, rfl, .inr (own_lit2 ((Bk.made _ _ _).alloc _) hbl.size)⟩
    case round =>
      obtain ⟨k, s, X, cx, hk, rfl, rfl, hbw, hI, kM, hM⟩ := hrel
      by_cases hlt : k < n
      · obtain ⟨b, o, u, hA, hbb, hu, hcl⟩ := (h.below hbw).at_ hlt
        subst hA
        obtain ⟨z, hz, rfl⟩ := ints_get hu
        have i1 : (k : Int) < n := by omega
        have i2 : (0 : Int) ≤ k := by omega
        have c6 := kM.cell 0
        simp at c6
        have hlw := kM.lt
        have hbw2 : b < wr.heap.size := Nat.lt_of_lt_of_le hbb hbw.size
        have HS : Hid (∀ w' : World, Below wr.heap.size wr w' → (Below wr.heap.size wr w' ∧ w'.cell? ⟨w1.heap.size + 1, 0, none⟩ = some (.slice X 2 cx) ∧ w'.cell? ⟨b, o + k, none⟩ = some (.int .i64 z))) := by
          intro w' hb
          exact ⟨hb, (bcellA hb hlw).trans c6, (bcellA hb hbw2).trans hcl⟩
        have HN : Hid (∀ w' : World, Below wr.heap.size wr w' → Calls Try.prog 11 #[.agg #[.slice X 2 cx], .agg #[.int .i64 4, .int .i64 1, .int .i64 0, .int .i64 z]] w' (Did2 2 w.heap.size ⟨4, 1, 0, z⟩ [0, s] w')) := by
          intro w' hb
          exact do_any X w.heap.size cx [0, s] ⟨4, 1, 0, z⟩ w' (Nat.le_trans hbw.size hb.size) (hM.keep hbw.size hb) (by simp)
        have hb0 := Below.refl wr.heap.size wr
        have HB := Lib.hid hbw
        have HK := Lib.hid kM
        clear hbw kM hM hz hu h
        go_upto_region 9 with fail
        go_cut [9, 10, 11] (fun s9 s10 s11 wx => DoCut w.heap.size ⟨4, 1, 0, z⟩ 2 [0, s] wr s9 s10 s11 wx)
        case first =>
          go_region_held3 (fun w' => Below wr.heap.size wr w' ∧ w'.cell? ⟨w1.heap.size + 1, 0, none⟩ = some (.slice X 2 cx) ∧ w'.cell? ⟨b, o + k, none⟩ = some (.int .i64 z))
            ((refine HS.out _ ?_; repeat (first | exact hbc | exact hb0 | apply Below.drew | apply below_al | (refine below_setB ?_ (by omega) _ _))))
            (first | (go_at_call 11; refine (HN.out _ (‹Below wr.heap.size wr _ ∧ _›.1)).mono ?_; rintro e w2 ⟨X', c', rfl, hM2, hb2⟩; have hbc := below_tr (‹Below wr.heap.size wr _ ∧ _›.1) hb2; have bc := bcells (below_undrew hb2); have bf := bfrozens (below_undrew hb2); (try have hq1 : wr.heap.size < w2.heap.size := by (have := (below_undrew hb2).size; simp at this; omega)); (try have hq2 : wr.heap.size + 1 < w2.heap.size := by (have := (below_undrew hb2).size; simp at this; omega))))
          all_goals (go_wp2_with fail; go_meet)
          all_goals (first | exact docut1 hbc hM2 HB.out.size | exact docut2 hbc hM2 HB.out.size | exact docut3 hb2 hM2 HB.out.size | exact docut4 hb2 hM2 HB.out.size | exact docut5 hb2 hM2 HB.out.size | exact docut6 hb2 hM2 HB.out.size)
        case rest =>
          obtain ⟨p, q, X', cx', rfl, rfl, rfl, hp, hq, hpq, kp, kq, hM3, hb3⟩ := hcut
          obtain ⟨f1, f2, f3, f4⟩ := add_facts s z
          rw [f1]
          rw [f2, f3] at kq
          rw [f4] at hM3
          clear f1 f2 f3 f4
          have kM := HK.out.keep hb3
          have hbl3 := below_tr HB.out hb3
          have hcl3 := (bcellA hb3 hbw2).trans hcl
          have c0 := kM.cell 0
          have f0 := kM.free 0
          have cp := kp.cell 0
          have cq0 := kq.cell 0
          have cq1 := kq.cell 1
          simp at c0 cp cq0 cq1
          have hne : ¬ b = w1.heap.size + 1 := by omega
          have kM2 := kM.stored 0 (.slice X' 2 cx')
          have hM4 := hM3.far kM (by decide) (by omega) 0 (.slice X' 2 cx')
          have hbl4 := below_setB hbl3 (b := w1.heap.size + 1) (by omega) 0 (.slice X' 2 cx')
          have HR := Lib.hid (And.intro hbl4 (And.intro kM2 hM4))
          clear HS HN HK HB hcl c6 hbl3 kM kp kq kM2 hM3 hM4 hbl4 hb3 hb0
          go_wp2
          go_roundw
          case rel => exact ⟨k + 1, wrap64 (s + z), X', cx', by omega, by go_num, rfl, HR.out.1, hI, HR.out.2.1, HR.out.2.2⟩
          case measure => simp [intOf]; omega
      · obtain rfl : k = n := by omega
        have c6 := kM.cell 0
        simp at c6
        have l6 := kM.lt
        go_wp2_with fail
        have hbx := below_al (Below.refl wr.heap.size wr) (.cells #[.int .i64 0, .int .i64 s] 3)
        (with_reducible refine (same_self X (some ⟨wr.heap.size, 0, none⟩) 2 cx 2 [0, s] _ w.heap.size wr.heap.size (hM.keep hbw.size hbx) (MemAt.of_own (own_lit2 (Bk.made _ _ _) (Nat.le_refl _)) rfl (Nat.le_refl _)) (by have := hbw.size; simp; omega) (by simp) (by omega)).mono ?_)
        rintro e w5 ⟨rfl, hb⟩
        go_wp2
        go_ret
        exact ⟨rfl, below_tr (below_tr hbw hbx) hb⟩
end Go.Proofs.Ytdajnmmjmfhihaa
