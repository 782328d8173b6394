/- Contracts of package mem's functions (and of slices.Clone, slices.Equal at []int). -/
import Derived.Test.YtgjdjgainjedhaaRows
import Derived.Test.YtgjdjgainjedhaaMemP
import Derived.WalkKit
import Derived.WalkSpells
import Derived.WalkLawsBesides
import Derived.Deep.RegionHeld3
import Derived.Deep.DrawnRows
import Derived.Deep.AppendLies
import Derived.Maps.AppendAt
import Derived.Deep.DeepMust
namespace Go.Proofs.Ytgjdjgainjedhaa
open Go.RowKit
attribute [local go_sem ↓] Go.wp_at_zero Go.wp_at_succ

set_option maxHeartbeats 1000000 in
theorem right_any (a : Acc) (w : World) : Calls Try.prog 53 #[accV a] w (BoolBelow a.right w) := by
  obtain ⟨k, cl, old, new⟩ := a
  have hb := below_al (Below.refl w.heap.size w)
  by_cases hc : cl < 0
  · go_enter Try.func53, Try.ntmps53
    go_wp2
    go_ret
    exact ⟨ret_bool (by simp [Acc.right]; omega), hb _⟩
  · go_enter Try.func53, Try.ntmps53
    go_wp2
    all_goals
      go_ret
      refine ⟨ret_bool ?_, hb _⟩
      simp_all [Acc.right]

set_option maxHeartbeats 1000000 in
theorem fault_any (n : Nat) (a : Acc) (w : World) : Calls Try.prog 37 #[.int .i64 n, accV a] w fun e w' => e = .returned (.int .i64 (a.err n)) ∧ Below w.heap.size w w' := by
  have ha := below_al (Below.refl w.heap.size w) (.cells #[.int .i64 a.kind, .int .i64 a.cell, .int .i64 a.old, .int .i64 a.new] 61)
  cases hr : a.right
  · go_enter Try.func37, Try.ntmps37
    go_wp2_with (go_at_call 53; refine (right_any a _).mono ?_; rintro e w1 ⟨rfl, hb⟩)
    go_ret
    exact ⟨ret_int (by simp [Acc.err, hr]), below_tr ha hb⟩
  · by_cases hc : a.cell < n
    · go_enter Try.func37, Try.ntmps37
      go_wp2_with (go_at_call 53; refine (right_any a _).mono ?_; rintro e w1 ⟨rfl, hb⟩; have q1 := bcellA (b := w.heap.size) (o := 1) hb (by simp); simp at q1)
      go_ret
      exact ⟨ret_int (by simp [Acc.err, hr, hc]), below_tr ha hb⟩
    · go_enter Try.func37, Try.ntmps37
      go_wp2_with (go_at_call 53; refine (right_any a _).mono ?_; rintro e w1 ⟨rfl, hb⟩; have q1 := bcellA (b := w.heap.size) (o := 1) hb (by simp); simp at q1)
      go_ret
      exact ⟨ret_int (by simp [Acc.err, hr, hc]), below_tr ha hb⟩

theorem int_info : (Try.prog.info? 3).map (fun i => (i.zero, i.size, i.bytes)) = some (some (.int .i64 0), 1, 8) := by kernel_rfl
theorem ints_one (zs : List Int) : ∀ u ∈ ints zs, u.oneCell' = true := by
  intro u hu
  simp only [ints, List.mem_map] at hu
  obtain ⟨z, _, rfl⟩ := hu
  rfl

/-- The value owns the ints zs, in memory from block 'base' on. -/
def OwnInts (w : World) (base : Nat) (v : Value) (zs : List Int) : Prop := w.ownsRow base 3 1 v zs.length (ints zs)
def Cloned (zs : List Int) (w : World) (e : Ending) (w' : World) : Prop := ∃ v, e = .returned v ∧ OwnInts w' w.heap.size v zs ∧ Below w.heap.size w w'

set_option maxRecDepth 100000 in
set_option maxHeartbeats 1000000 in
theorem clone_any (A : Option Addr) (c : Nat) (zs : List Int) (w : World) (h : Sl w w.heap.size A zs.length (ints zs)) (hm : zs.length ≤ 1000000) :
    Calls Try.prog 38 #[.slice A zs.length c] w (Cloned zs w) := by
  have hq := fun (W : World) => Lib.run_eql_slice_nil (P := Try.prog) W 31 3 A zs.length c 0 0 Try.underlying31
  obtain ⟨i0, hi0, hz0, hz1, hz2⟩ := info_parts int_info
  cases A with
  | none =>
    have h0 : zs = [] := by
      rcases zs with _ | ⟨z, zs⟩
      · rfl
      · obtain ⟨_, _, he, _⟩ := h.2 (by simp)
        cases he
    subst h0
    have hq0 := fun (W : World) => Lib.run_eql_slice_nil (P := Try.prog) W 31 3 none 0 c 0 0 Try.underlying31
    go_enter Try.func38, Try.ntmps38
    go_wp2
    go_ret
    exact ⟨_, rfl, World.ownsRow_nil _ _ _ _, Below.refl _ _⟩
  | some ad =>
    have hown0 : (w.alloc (.cells #[] 3)).ownsRow w.heap.size 3 1 (.slice (some ⟨w.heap.size, 0, none⟩) 0 0) 0 [] :=
      ⟨rfl, .inr ⟨w.heap.size, 0, #[], rfl, Nat.le_refl _, Bk.made w 3 #[], Nat.le_refl _, by simp [maxLen], rfl, rfl⟩⟩
    have hnews : ∀ j u, (ints zs)[j]? = some u → (w.alloc (.cells #[] 3)).cell? (ad.add j) = some u := by
      intro j u hu
      have hj : j < zs.length := by
        have := (List.getElem?_eq_some_iff.1 hu).1
        rwa [ints_length] at this
      obtain ⟨b, o, he, hb, hc⟩ := (h.alloc (Nat.le_refl _) (.cells #[] 3)).2 (by omega)
      injection he with he
      subst he
      rw [Go.WideShapes.add_plain]
      exact hc j u hu
    go_enter Try.func38, Try.ntmps38
    go_wp2_with (at_builtin; refine wpList_append_own_at _ rfl (.tmp 5) (.tmp 6) _ rfl w.heap.size 3 i0 _ 1 8 Try.underlying31 hi0 hz0 hz1 hz2 rfl (by omega) (.slice (some ⟨w.heap.size, 0, none⟩) 0 0) 0 [] rfl hown0 ad zs.length c (ints zs) rfl (by simp [ints]) hnews (ints_one zs) (by simp only [maxLen]; omega) (by omega) (by simp) ?_; intro v' w' hown hgrow _ hat)
    go_ret
    refine ⟨v', rfl, ?_, (below_al (Below.refl _ _) _).grown hgrow (by simp) ?_⟩
    · simpa [OwnInts] using hown
    · intro k hk
      simp [Value.ownBlock] at hk
      omega

theorem OwnInts.alloc {w : World} {base : Nat} {v : Value} {zs : List Int} (h : OwnInts w base v zs) (o : Obj) : OwnInts (w.alloc o) base v zs := World.ownsRow.alloc h o
theorem ints_set (zs : List Int) (i : Nat) (x : Int) : (ints zs).set i (.int .i64 x) = ints (zs.set i x) := by simp [ints, List.map_set]
theorem OwnInts.at_ {w : World} {base g cap : Nat} {zs : List Int} (h : OwnInts w base (.slice (some ⟨g, 0, none⟩) zs.length cap) zs) {i : Nat} (hi : i < zs.length) :
    w.cell? ⟨g, i, none⟩ = some (.int .i64 (zs.getD i 0)) := by
  rw [World.ownsRow.cellAt h i (by omega)]
  simp [ints, hi]
theorem OwnInts.stored {w : World} {base g cap : Nat} {zs : List Int} (h : OwnInts w base (.slice (some ⟨g, 0, none⟩) zs.length cap) zs) (i : Nat) (x : Int) :
    OwnInts (w.setCell ⟨g, i, none⟩ (.int .i64 x)) base (.slice (some ⟨g, 0, none⟩) zs.length cap) (zs.set i x) := by
  have := (World.ownsRow.stored h i (.int .i64 x)).1
  rw [ints_set] at this
  unfold OwnInts
  rwa [List.length_set]

def Turned (a : Acc) (base g cap : Nat) (zs : List Int) (w : World) (e : Ending) (w' : World) : Prop :=
  e = .returned (resV (a.had zs) (a.ok (a.had zs))) ∧ OwnInts w' base (.slice (some ⟨g, 0, none⟩) zs.length cap) (a.make zs) ∧ w.grownBy w' (some g)

theorem grown_al {w w' : World} {row : Option Nat} (h : w.grownBy w' row) (o : Obj) : w.grownBy (w'.alloc o) row :=
  ⟨h.os, h.tape, h.output, Nat.le_trans h.size (by simp), fun i hi hne => (Below.heap_alloc w' o i (Nat.lt_of_lt_of_le hi h.size)).trans (h.block i hi hne)⟩
theorem grown_set {w w' : World} {g : Nat} (h : w.grownBy w' (some g)) (i : Nat) (u : Value) : w.grownBy (w'.setCell ⟨g, i, none⟩ u) (some g) :=
  ⟨h.os, h.tape, h.output, by simpa [World.setCell] using h.size, fun k hk hne => (Below.heap_setCell w' _ u k (by rintro rfl; exact hne rfl)).trans (h.block k hk hne)⟩

theorem turned_mk {a : Acc} {base g cap : Nat} {zs : List Int} {w w' : World} {had x : Int} {ok : Bool} (h1 : a.had zs = had) (h2 : a.ok had = ok) (h3 : a.next had = x) (hg : w.grownBy w' (some g))
    (h : OwnInts w' base (.slice (some ⟨g, 0, none⟩) zs.length cap) (zs.set a.cell.toNat x)) : Turned a base g cap zs w (.returned (resV had ok)) w' := by
  subst h1
  refine ⟨by rw [h2], ?_, hg⟩
  unfold Acc.make
  rw [h3]
  exact h

set_option maxHeartbeats 2000000 in
theorem turn_any (a : Acc) (base g cap : Nat) (zs : List Int) (w : World) (h : OwnInts w base (.slice (some ⟨g, 0, none⟩) zs.length cap) zs) (hr : a.right = true) (hc : a.cell < zs.length) (hg : g < w.heap.size) :
    Calls Try.prog 39 #[.slice (some ⟨g, 0, none⟩) zs.length cap, accV a] w (Turned a base g cap zs w) := by
  obtain ⟨k, cl, old, new⟩ := a
  have h0 : 0 ≤ cl := Acc.right_cell hr
  obtain ⟨i, rfl⟩ := Int.eq_ofNat_of_zero_le h0
  have hi : i < zs.length := by simpa using hc
  have hcell := h.at_ hi
  have hfr := World.ownsRow.frozenAt h i
  have hk : k = 1 ∨ k = 2 ∨ k = 3 ∨ k = 4 ∨ k = 5 := by simp [Acc.right] at hr; omega
  generalize hhad : zs.getD i 0 = had at *
  have HH := Lib.hid hhad
  have HO := Lib.hid h
  clear hhad hr h
  have HA : ∀ {k : Int}, ({ kind := k, cell := (i : Int), old := old, new := new } : Acc).had zs = had := by
    intro k
    show zs.getD ((i : Int).toNat) 0 = had
    rw [Int.toNat_natCast]
    exact HH.out
  have HE := Lib.hid (show zs.set i had = zs by rw [← HH.out]; simp [List.getElem?_eq_getElem hi])
  rcases hk with rfl | rfl | rfl | rfl | rfl
  · go_enter Try.func39, Try.ntmps39
    go_wp2
    refine bodyPost_ret (v := resV had true) (by simp [results, Try.results39, go_sem]) rfl ?_
    have he := HE.out
    refine turned_mk HA (by simp [Acc.ok]) (x := had) (by simp [Acc.next]) (grown_al (grown_al (World.grownBy.refl _ _) _) _) ?_
    simp only [Int.toNat_natCast]
    rw [he]
    exact (HO.out.alloc _).alloc _
  · go_enter Try.func39, Try.ntmps39
    go_wp2
    refine bodyPost_ret (v := resV had true) (by simp [results, Try.results39, go_sem]) rfl ?_
    refine turned_mk HA (by simp [Acc.ok]) (x := new) (by simp [Acc.next]) (grown_al (grown_al (grown_set (World.grownBy.refl _ _) _ _) _) _) ?_
    simp only [Int.toNat_natCast]
    exact (((HO.out).stored i _).alloc _).alloc _
  · by_cases ho : had = old
    · subst ho
      have hob : (had != had) = false := by simp
      go_enter Try.func39, Try.ntmps39
      go_wp2
      refine bodyPost_ret (v := resV had true) (by simp [results, Try.results39, go_sem]) rfl ?_
      refine turned_mk HA (by simp [Acc.ok]) (x := new) (by simp [Acc.next]) (grown_al (grown_al (grown_set (World.grownBy.refl _ _) _ _) _) _) ?_
      simp only [Int.toNat_natCast]
      exact (((HO.out).stored i _).alloc _).alloc _
    · have hob : (had != old) = true := by simpa using ho
      have he := HE.out
      go_enter Try.func39, Try.ntmps39
      go_wp2
      refine bodyPost_ret (v := resV had false) (by simp [results, Try.results39, go_sem]) rfl ?_
      refine turned_mk HA (by simp [Acc.ok, ho]) (x := had) (by simp [Acc.next, ho]) (grown_al (grown_al (World.grownBy.refl _ _) _) _) ?_
      simp only [Int.toNat_natCast]
      rw [he]
      exact (HO.out.alloc _).alloc _
  · go_enter Try.func39, Try.ntmps39
    go_wp2
    refine bodyPost_ret (v := resV had true) (by simp [results, Try.results39, go_sem]) rfl ?_
    refine turned_mk HA (by simp [Acc.ok]) (x := wrap64 (had + new)) (by simp [Acc.next]) (grown_al (grown_al (grown_set (World.grownBy.refl _ _) _ _) _) _) ?_
    simp only [Int.toNat_natCast]
    exact (((HO.out).stored i _).alloc _).alloc _
  · go_enter Try.func39, Try.ntmps39
    go_wp2
    refine bodyPost_ret (v := resV had true) (by simp [results, Try.results39, go_sem]) rfl ?_
    refine turned_mk HA (by simp [Acc.ok]) (x := new) (by simp [Acc.next]) (grown_al (grown_al (grown_set (World.grownBy.refl _ _) _ _) _) _) ?_
    simp only [Int.toNat_natCast]
    exact (((HO.out).stored i _).alloc _).alloc _
end Go.Proofs.Ytgjdjgainjedhaa
