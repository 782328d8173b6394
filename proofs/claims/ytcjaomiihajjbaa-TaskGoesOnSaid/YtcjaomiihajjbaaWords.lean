/- task.Words. -/
import Derived.Test.YtcjaomiihajjbaaPlayD
namespace Go.Proofs.Ytcjaomiihajjbaa
open Go.RowKit
attribute [local go_sem ↓] Go.wp_at_zero Go.wp_at_succ

def wordsM (l : Ly) (zs : List Int) (n : Nat) : List Int := (List.range n).map fun (t : Nat) => cellN zs (taskAt l ((t : Int) + 1) 0)
theorem wordsM_succ (l : Ly) (zs : List Int) (n : Nat) : wordsM l zs (n + 1) = wordsM l zs n ++ [cellN zs (taskAt l ((n : Int) + 1) 0)] := by simp [wordsM, List.range_succ]
theorem wordsM_length (l : Ly) (zs : List Int) (n : Nat) : (wordsM l zs n).length = n := by simp [wordsM]
def IntsOut (zs : List Int) (w : World) (e : Ending) (w' : World) : Prop := ∃ v, e = .returned v ∧ OwnInts w' w.heap.size v zs ∧ Below w.heap.size w w'
def WRel (w0 : World) (l : Ly) (A : Option Addr) (c : Nat) (zs : List Int) (v5 v6 : Value) (wr : World) : Prop :=
  ∃ k : Nat, (k : Int) ≤ l.c.tasks ∧ v6 = .int .i64 ((k : Int) + 1) ∧ Below w0.heap.size w0 wr ∧ Bk wr w0.heap.size 34 (lyC l) ∧ Bk wr (w0.heap.size + 1) 39 #[.slice A zs.length c] ∧ OwnInts wr w0.heap.size v5 (wordsM l zs k)
set_option maxRecDepth 100000 in
set_option maxHeartbeats 4000000 in
theorem words_any (l : Ly) (A : Option Addr) (c : Nat) (zs : List Int) (w : World) (h : TkOk l) (hz : (zs.length : Int) = l.size) (hs : SlInt w w.heap.size A zs) : Calls Try.prog 17 #[lyV l, memV A zs.length c] w (IntsOut (wordsM l zs l.c.tasks.toNat) w) := by
  obtain ⟨N, hN⟩ : ∃ N : Nat, l.c.tasks = N := ⟨l.c.tasks.toNat, by have := h.fit.t0; omega⟩
  have hN1 : N ≤ 64 := by have := h.fit.t1; omega
  have e0 : l.c.tasks.toNat = N := by omega
  rw [e0]
  have H := Lib.hid h
  have HN := Lib.hid hN
  have HZ := Lib.hid hz
  have HS := Lib.hid hs
  have hlen : zs.length ≤ 1000 := by have := h.s1; omega
  clear h hN hz hs e0
  obtain ⟨i0, hi0, hz0, hz1, hz2⟩ := info_parts int_info
  have k0 := (Bk.made w 34 (lyC l)).alloc (.cells #[.slice A zs.length c] 39)
  have k1 := Bk.new (w.alloc (.cells (lyC l) 34)) (g := w.heap.size + 1) (by simp) 39 #[.slice A zs.length c]
  have hbl := below_al (below_al (Below.refl w.heap.size w) (.cells (lyC l) 34)) (.cells #[.slice A zs.length c] 39)
  go_enter Try.func17, Try.ntmps17
  go_wp2_with fail
  go_loopw [5, 6] (fun v5 v6 wr => WRel w l A c zs v5 v6 wr) (fun _ v6 _ => N + 1 - (intOf v6).toNat)
  case atStart => exact ⟨0, by rw [HN.out]; omega, rfl, hbl, k0, k1, World.ownsRow_nil _ _ _ _⟩
  case round =>
    clear hbl k0 k1
    obtain ⟨k, hk, rfl, hbl, k0, k1, hown⟩ := hrel
    rw [HN.out] at hk
    have q0 := k0.cell 4
    simp at q0
    rw [HN.out] at q0
    have z0 := k0.lt
    by_cases hlt : k < N
    · have i1 : decide (k + 1 ≤ N) = true := by simp; omega
      have i2 : decide (((k : Int) + 1) ≤ N) = true := by simp; omega
      go_wp2_with (refine wpList_load_row rfl 34 (.tmp 2) rfl w.heap.size rfl 34 (lyC l) (0, 0) _ k0 Try.underlying34 rfl (by kernel_rfl) ?_)
      (with_reducible refine (task_any l ((k : Int) + 1) 0 _ H.out.fit (by omega)).mono ?_)
      rintro e w1 ⟨rfl, hb⟩
      obtain ⟨C, hC⟩ : ∃ C : Nat, taskAt l ((k : Int) + 1) 0 = C := ⟨(taskAt l ((k : Int) + 1) 0).toNat, by
        rw [taskAt_in l (by omega) (by rw [HN.out]; omega) (by omega) (by omega)]
        have := H.out.fit.k0
        omega⟩
      have hC2 : C < zs.length := by
        have h1 := hC
        rw [taskAt_in l (by omega) (by rw [HN.out]; omega) (by omega) (by omega)] at h1
        have h2 := H.out.ts
        have h3 := HZ.out
        rw [HN.out] at h2
        omega
      obtain ⟨b, o, rfl, hbb, hcc⟩ := (HS.out.below (below_tr hbl hb)) (by omega)
      obtain ⟨x, hx⟩ : ∃ x, zs[C]? = some x := ⟨_, List.getElem?_eq_getElem hC2⟩
      have cx := hcc C x hx
      have hw : wordsM l zs (k + 1) = wordsM l zs k ++ [x] := by
        rw [wordsM_succ, hC]
        unfold cellN
        rw [if_neg (by omega), Int.toNat_natCast, List.getD_eq_getElem?_getD, hx]
        rfl
      have HW := Lib.hid hw
      rw [hC]
      clear hw hC hcc hx
      replace k0 := k0.keep hb
      replace k1 := k1.keep hb
      have hown1 := own_keepb hown hb
      replace hbl := below_tr hbl hb
      have q1 := k1.cell 0
      simp at q1
      have z1 := k1.lt
      have i3 : (C : Int) < zs.length := by omega
      have hrow := World.ownsRow.alloc hown1 (.cells #[.int .i64 x] 3)
      rw [wordsM_length] at hrow
      have k0' := k0.alloc (.cells #[.int .i64 x] 3)
      have k1' := k1.alloc (.cells #[.int .i64 x] 3)
      have hbl' := below_al hbl (.cells #[.int .i64 x] 3)
      clear hown hb q0
      have g0 : decide ((0 : Int) ≤ C) = true := by simp
      go_wp2_with (at_builtin; go_must (refine wpList_append_own_at _ rfl (.tmp 33) (.tmp 35) _ rfl w.heap.size 3 i0 _ 1 8 Try.underlying37 hi0 hz0 hz1 hz2 rfl (by omega) u5 k (ints (wordsM l zs k)) rfl hrow ⟨w1.heap.size, 0, none⟩ 1 1 [.int .i64 x] rfl rfl (by intro j u hu; rw [Go.WideShapes.add_plain, Nat.zero_add, (Bk.made w1 3 #[.int .i64 x]).cell j]; simpa using hu) (by simp [Value.oneCell']) (by simp only [maxLen]; omega) (by omega) (by simp; have := hbl.size; omega) ?_; intro v9 w3 hrow4 hgrow4 _ _))
      have hk' := keptT_grown hrow hgrow4
      refine ⟨⟨k + 1, by rw [HN.out]; omega, by go_num, grown_below hbl' hrow hgrow4 hbl'.size (Nat.le_refl _), k0'.keptT hk' (by decide), k1'.keptT hk' (by decide), ?_⟩, by simp [intOf]; omega⟩
      rw [HW.out]
      unfold OwnInts
      rw [List.length_append, wordsM_length]
      simpa [ints] using hrow4
    · have i1 : decide (k + 1 ≤ N) = false := by simp; omega
      have i2 : decide (((k : Int) + 1) ≤ N) = false := by simp; omega
      obtain rfl : k = N := by omega
      go_wp2
      go_ret
      exact ⟨_, rfl, hown, hbl⟩
end Go.Proofs.Ytcjaomiihajjbaa
