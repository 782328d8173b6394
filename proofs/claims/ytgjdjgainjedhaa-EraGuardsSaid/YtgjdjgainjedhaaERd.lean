/- The reference's memory: an access, accesses one behind the other. -/
import Derived.Test.YtgjdjgainjedhaaERow
import Derived.Test.YtgjdjgainjedhaaMemN
import Derived.BigQuiet
import Derived.Deep.QuietTactic
import Derived.Deep.DeepCutAuto
namespace Go.Proofs.Ytgjdjgainjedhaa
open Go.RowKit
attribute [local go_sem ↓] Go.wp_at_zero Go.wp_at_succ
set_option linter.unusedVariables false

set_option maxHeartbeats 1000000 in
theorem rright_any (a : Acc) (w : World) : Calls Try.prog 60 #[accV a] w (BoolBelow a.right w) := by
  obtain ⟨k, cl, old, new⟩ := a
  have hb := below_al (Below.refl w.heap.size w)
  by_cases hc : k < 1 ∨ 5 < k ∨ cl < 0
  · have hf : ({ kind := k, cell := cl, old := old, new := new } : Acc).right = false := by simp [Acc.right]; omega
    rw [hf]
    have HF := Lib.hid hf
    clear hf
    rcases hc with hc | hc | hc
    · go_enter Try.func60, Try.ntmps60
      go_wp2
      go_ret
      exact ⟨rfl, hb _⟩
    · by_cases h1 : k < 1
      · omega
      · go_enter Try.func60, Try.ntmps60
        go_wp2
        go_ret
        exact ⟨rfl, hb _⟩
    · go_enter Try.func60, Try.ntmps60
      go_wp2
      all_goals
        go_ret
        exact ⟨rfl, hb _⟩
  · have h1 : ¬ k < 1 := by omega
    have h2 : ¬ 5 < k := by omega
    have h3 : ¬ cl < 0 := by omega
    go_enter Try.func60, Try.ntmps60
    go_wp2
    all_goals
      go_ret
      refine ⟨ret_bool ?_, hb _⟩
      simp_all [Acc.right]
      try omega

/-- The list that a slice of ints reads as, over a growing world. -/
theorem below_drewN {a w : World} (h : Below a.heap.size a w) (n : Nat) : Below a.heap.size a (w.drewN n) := ⟨h.os, h.tape, h.output, h.size, h.block⟩
/-- What one access comes to: the cells, what the cell had, whether it went, the code. -/
def Acc.cellsOut (a : Acc) (zs : List Int) : List Int := if a.err zs.length = 0 then a.make zs else zs
def Acc.valOut (a : Acc) (zs : List Int) : Int := if a.err zs.length = 0 then a.had zs else 0
def Acc.okOut (a : Acc) (zs : List Int) : Bool := if a.err zs.length = 0 then a.ok (a.had zs) else false
theorem Acc.cellsOut_length (a : Acc) (zs : List Int) : (a.cellsOut zs).length = zs.length := by unfold Acc.cellsOut; split <;> simp [Acc.make_length]

def Did (B : Nat) (a : Acc) (zs : List Int) (w : World) (e : Ending) (w' : World) : Prop :=
  ∃ A c, e = .returned (.tuple #[memV A zs.length c, resV (a.valOut zs) (a.okOut zs), .int .i64 (a.err zs.length)]) ∧ MemAt w' B A zs.length c (a.cellsOut zs) ∧ Below w.heap.size w w'

theorem did_bad {a : Acc} {zs : List Int} {w w' : World} {A : Option Addr} {B c : Nat} (he : a.err zs.length ≠ 0) (h : MemAt w B A zs.length c zs) (hB : B ≤ w.heap.size) (hb : Below w.heap.size w w') :
    Did B a zs w (.returned (.tuple #[memV A zs.length c, resV 0 false, .int .i64 (a.err zs.length)])) w' := by
  refine ⟨A, c, by simp only [Acc.valOut, Acc.okOut, he, if_false], ?_, hb⟩
  simp only [Acc.cellsOut, he, if_false]
  exact h.keep hB hb
theorem did_ok {a : Acc} {zs : List Int} {w w' : World} {A : Option Addr} {B c : Nat} {had : Int} {ok : Bool} (he : a.err zs.length = 0) (h1 : a.had zs = had) (h2 : a.ok had = ok) (h : MemAt w' B A zs.length c (a.make zs)) (hb : Below w.heap.size w w') :
    Did B a zs w (.returned (.tuple #[memV A zs.length c, resV had ok, .int .i64 0])) w' := by
  subst h1
  refine ⟨A, c, by simp only [Acc.valOut, Acc.okOut, he, h2, if_true], ?_, hb⟩
  simp only [Acc.cellsOut, he, if_true]
  exact h


def WithOk (zs : List Int) (w : World) (e : Ending) (w' : World) : Prop :=
  ∃ g cap, e = .returned (memV (some ⟨g, 0, none⟩) zs.length cap) ∧ OwnInts w' w.heap.size (.slice (some ⟨g, 0, none⟩) zs.length cap) zs ∧ Below w.heap.size w w'

theorem with_facts {w w' : World} {zs : List Int} {i g cap m : Nat} {cs : Array Value} (hown : w'.ownsRow w.heap.size 3 1 (.slice (some ⟨g, 0, none⟩) (0 + m) cap) (0 + m) ([] ++ ints zs))
    (hgrow : (((w.alloc (.cells cs 33)).alloc (.cells #[.slice none 0 0] 33)).alloc (.cells #[] 3)).grownBy w' (Value.ownBlock (.slice (some ⟨w.heap.size + 1 + 1, 0, none⟩) 0 0)))
    (hat : Value.ownBlock (.slice (some ⟨g, 0, none⟩) (0 + m) cap) = Value.ownBlock (.slice (some ⟨w.heap.size + 1 + 1, 0, none⟩) 0 0) ∨ Value.ownBlock (.slice (some ⟨g, 0, none⟩) (0 + m) cap) = some (((w.alloc (.cells cs 33)).alloc (.cells #[.slice none 0 0] 33)).alloc (.cells #[] 3)).heap.size) (hi : i < zs.length) :
    w'.cell? ⟨g, i, none⟩ = some (.int .i64 (zs.getD i 0)) ∧ w'.frozen? ⟨g, i, none⟩ = false ∧ w'.cell? ⟨w.heap.size + 1, 0, none⟩ = some (.slice none 0 0) ∧ w'.frozen? ⟨w.heap.size + 1, 0, none⟩ = false ∧ w.heap.size + 1 ≠ g := by
  have hl : m = zs.length := by
    have := hown.1
    simp [ints] at this
    omega
  subst hl
  have h1 : OwnInts w' w.heap.size (.slice (some ⟨g, 0, none⟩) zs.length cap) zs := by simpa [OwnInts] using hown
  have k := ((Bk.new (w.alloc (.cells cs 33)) (g := w.heap.size + 1) (by simp) 33 #[.slice none 0 0]).alloc (.cells #[] 3)).grown hgrow (by simp [Value.ownBlock])
  refine ⟨h1.at_ hi, World.ownsRow.frozenAt h1 i, k.cell 0, k.free 0, ?_⟩
  simp [Value.ownBlock] at hat
  omega

set_option maxHeartbeats 2000000 in
theorem with_any (A : Option Addr) (c : Nat) (zs : List Int) (i : Nat) (x : Int) (w : World) (h : Sl w w.heap.size A zs.length (ints zs)) (hi : i < zs.length) (hm : zs.length ≤ 1000000) :
    Calls Try.prog 61 #[memV A zs.length c, .int .i64 i, .int .i64 x] w (WithOk (zs.set i x) w) := by
  obtain ⟨i0, hi0, hz0, hz1, hz2⟩ := info_parts int_info
  obtain ⟨b, o, hA, hb, hc⟩ := h.2 (by omega)
  subst hA
  let W : World := ((w.alloc (.cells #[.slice (some ⟨b, o, none⟩) zs.length c] 33)).alloc (.cells #[.slice none 0 0] 33)).alloc (.cells #[] 3)
  have hown0 : W.ownsRow w.heap.size 3 1 (.slice (some ⟨w.heap.size + 1 + 1, 0, none⟩) 0 0) 0 [] :=
    ⟨rfl, .inr ⟨w.heap.size + 1 + 1, 0, #[], rfl, by omega, Bk.new _ (by simp) 3 #[], Nat.le_refl _, by simp [maxLen], rfl, rfl⟩⟩
  have hnews : ∀ j u, (ints zs)[j]? = some u → W.cell? ((⟨b, o, none⟩ : Addr).add j) = some u := by
    intro j u hu
    rw [Go.WideShapes.add_plain]
    exact (hb |> fun hb => (below_al (below_al (below_al (Below.refl w.heap.size w) _) _) _).cell (p := ⟨b, o + j, none⟩) hb).trans (hc j u hu)
  go_enter Try.func61, Try.ntmps61
  go_wp2_with (at_builtin; refine wpList_append_own_at _ rfl (.tmp 8) (.tmp 10) _ rfl w.heap.size 3 i0 _ 1 8 Try.underlying31 hi0 hz0 hz1 hz2 rfl (by omega) (.slice (some ⟨w.heap.size + 1 + 1, 0, none⟩) 0 0) 0 [] rfl hown0 ⟨b, o, none⟩ zs.length c (ints zs) rfl (by simp [ints]) hnews (ints_one zs) (by simp only [maxLen]; omega) (by omega) (by simp; omega) ?_; intro v' w' hown hgrow _ hat; go_must (obtain ⟨g, cap, rfl, hg1, hg2⟩ := World.ownsRow.form hown (by omega); have hw := with_facts (zs := zs) (i := i) hown hgrow hat hi; obtain ⟨q1, q2, q3, q4, q5⟩ := hw; have HO := Lib.hid hown; have HG := Lib.hid hgrow; have HA := Lib.hid hat; clear hown hgrow hat))
  refine bodyPost_ret (v := memV (some ⟨g, 0, none⟩) zs.length cap) (by simp [results, Try.results61, go_sem, q3]) rfl ⟨g, cap, by simp, ?_, ?_⟩
  · have h1 : OwnInts w' w.heap.size (.slice (some ⟨g, 0, none⟩) zs.length cap) zs := by simpa [OwnInts] using HO.out
    have h2 := (h1.stored i x).far (p := ⟨w.heap.size + 1, 0, none⟩) (by simpa using q5) (.slice (some ⟨g, 0, none⟩) zs.length cap)
    simpa using h2
  · refine below_set (below_set ?_ (by simpa using hg1) _) (by simp) _
    exact (below_al (below_al (below_al (Below.refl w.heap.size w) _) _) _).grown HG.out (by simp; omega) (fun k hk => by simp [Value.ownBlock] at hk; omega)

structure DoBoxes (A : Option Addr) (n c : Nat) (a : Acc) (w w1 : World) : Prop where
  bel : Below w.heap.size w w1
  k0 : Bk w1 w.heap.size 33 #[.slice A n c]
  k1 : Bk w1 (w.heap.size + 1) 61 #[.int .i64 a.kind, .int .i64 a.cell, .int .i64 a.old, .int .i64 a.new]
  k2 : Bk w1 (w.heap.size + 1 + 1) 33 #[.slice none 0 0]
  k3 : Bk w1 (w.heap.size + 1 + 1 + 1) 67 #[.int .i64 0, .bool false]
theorem doBoxes (A : Option Addr) (n c : Nat) (a : Acc) (w : World) : DoBoxes A n c a w ((((w.alloc (.cells #[.slice A n c] 33)).alloc (.cells #[.int .i64 a.kind, .int .i64 a.cell, .int .i64 a.old, .int .i64 a.new] 61)).alloc (.cells #[.slice none 0 0] 33)).alloc (.cells #[.int .i64 0, .bool false] 67)) :=
  ⟨below_al (below_al (below_al (below_al (Below.refl w.heap.size w) _) _) _) _, (((Bk.made w _ _).alloc _).alloc _).alloc _, ((Bk.new _ (by simp) _ _).alloc _).alloc _, (Bk.new _ (by simp) _ _).alloc _, Bk.new _ (by simp) _ _⟩
theorem DoBoxes.keep {A : Option Addr} {n c : Nat} {a : Acc} {w w1 w2 : World} (h : DoBoxes A n c a w w1) (hb : Below w1.heap.size w1 w2) : DoBoxes A n c a w w2 :=
  ⟨below_tr h.bel hb, h.k0.keep hb, h.k1.keep hb, h.k2.keep hb, h.k3.keep hb⟩

set_option maxHeartbeats 8000000 in
theorem rdo_good (A : Option Addr) (B c : Nat) (zs : List Int) (a : Acc) (w : World) (hB : B ≤ w.heap.size) (hM : MemAt w B A zs.length c zs) (hm : zs.length ≤ 1000000) (hr : a.right = true) (hc : a.cell < zs.length) :
    Calls Try.prog 54 #[memV A zs.length c, accV a] w (Did B a zs w) := by
  have h := hM.sl hB
  obtain ⟨k, cl, old, new⟩ := a
  have h0 : 0 ≤ cl := Acc.right_cell hr
  obtain ⟨i, rfl⟩ := Int.eq_ofNat_of_zero_le h0
  have hi : i < zs.length := by simpa using hc
  have hi2 : (i : Int) < zs.length := by omega
  obtain ⟨b, o, u, hA, hbb, hu, hcl0⟩ := h.at_ hi
  subst hA
  obtain ⟨had, hx, rfl⟩ := ints_get hu
  have hk : k = 1 ∨ k = 2 ∨ k = 3 ∨ k = 4 ∨ k = 5 := by simp [Acc.right] at hr; omega
  have HH := Lib.hid (show zs.getD i 0 = had by simp [hx])
  have HR := Lib.hid hr
  have HE : Hid (∀ k : Int, ({ kind := k, cell := (i : Int), old := old, new := new } : Acc).right = true → ({ kind := k, cell := (i : Int), old := old, new := new } : Acc).err zs.length = 0) := by
    intro k hk
    simp only [Acc.err, hk, if_true]
    rw [if_pos hi2]
  have HA : ∀ {k : Int}, ({ kind := k, cell := (i : Int), old := old, new := new } : Acc).had zs = had := by
    intro k
    show zs.getD ((i : Int).toNat) 0 = had
    rw [Int.toNat_natCast]
    exact HH.out
  have HS := Lib.hid (show zs.set i had = zs by rw [← HH.out]; simp [List.getElem?_eq_getElem hi])
  have HM := Lib.hid hM
  clear hr hc hx hu hM
  rcases hk with rfl | rfl | rfl | rfl | rfl
  · go_enter Try.func54, Try.ntmps54
    go_wp2_with fail
    refine (rright_any ⟨1, i, old, new⟩ _).mono ?_
    rintro e w1 ⟨rfl, hb1⟩
    rw [HR.out]
    have K := (doBoxes (some ⟨b, o, none⟩) zs.length c ⟨1, i, old, new⟩ w).keep hb1
    have hcl := (K.bel.cell (p := ⟨b, o + i, none⟩) hbb).trans hcl0
    have c0 := K.k0.cell 0
    have d0 := K.k1.cell 0
    have d1 := K.k1.cell 1
    have d2 := K.k1.cell 2
    have d3 := K.k1.cell 3
    have c2 := K.k2.cell 0
    have f2 := K.k2.free 0
    have c3 := K.k3.cell 0
    have c4 := K.k3.cell 1
    have f3 := K.k3.free 0
    have f4 := K.k3.free 1
    simp at c0 c2 c3 c4 d0 d1 d2 d3
    go_wp2
    refine bodyPost_ret (v := .tuple #[memV (some ⟨b, o, none⟩) zs.length c, resV had true, .int .i64 0]) (by simp [results, Try.results54, go_sem, c2, c3, c4]) rfl ?_
    have hbe := (below_set (below_set (below_set K.bel (p := ⟨w.heap.size + 1 + 1, 0, none⟩) (by simp; omega) (.slice (some ⟨b, o, none⟩) zs.length c)) (p := ⟨w.heap.size + 1 + 1 + 1, 0, none⟩) (by simp; omega) (.int .i64 had)) (p := ⟨w.heap.size + 1 + 1 + 1, 1, none⟩) (by simp; omega) (.bool true))
    refine did_ok (HE.out 1 HR.out) HA (by simp [Acc.ok]) ?_ hbe
    have e : ({ kind := 1, cell := (i : Int), old := old, new := new } : Acc).make zs = zs := by
      unfold Acc.make
      rw [HA]
      simp [Acc.next, HS.out]
    rw [e]
    exact HM.out.keep hB hbe
  · go_enter Try.func54, Try.ntmps54
    go_wp2_with fail
    refine (rright_any ⟨2, i, old, new⟩ _).mono ?_
    rintro e w1 ⟨rfl, hb1⟩
    rw [HR.out]
    have K := (doBoxes (some ⟨b, o, none⟩) zs.length c ⟨2, i, old, new⟩ w).keep hb1
    have hcl := (K.bel.cell (p := ⟨b, o + i, none⟩) hbb).trans hcl0
    have c0 := K.k0.cell 0
    have d0 := K.k1.cell 0
    have d1 := K.k1.cell 1
    have d2 := K.k1.cell 2
    have d3 := K.k1.cell 3
    have c2 := K.k2.cell 0
    have f2 := K.k2.free 0
    have c3 := K.k3.cell 0
    have c4 := K.k3.cell 1
    have f3 := K.k3.free 0
    have f4 := K.k3.free 1
    simp at c0 c2 c3 c4 d0 d1 d2 d3
    go_wp2_with fail
    refine (with_any (some ⟨b, o, none⟩) c zs i new w1 (h.keepb K.bel) hi hm).mono ?_
    rintro e w2 ⟨g, cap, rfl, hown, hb2⟩
    have K2 := K.keep hb2
    have hg1 : w.heap.size + 1 + 1 + 1 < g := by
      obtain ⟨g', cap', he, hg', _⟩ := World.ownsRow.form hown (by simp; omega)
      injection he with he
      injection he with he
      injection he with he
      have := K.k3.lt
      omega
    clear c0 d0 d1 d2 d3 c2 f2 c3 c4 f3 f4 hcl
    have c2 := K2.k2.cell 0
    have f2 := K2.k2.free 0
    have c3 := K2.k3.cell 0
    have c4 := K2.k3.cell 1
    have f3 := K2.k3.free 0
    have f4 := K2.k3.free 1
    simp at c2 c3 c4
    go_wp2
    refine bodyPost_ret (v := .tuple #[memV (some ⟨g, 0, none⟩) zs.length cap, resV had true, .int .i64 0]) (by simp [results, Try.results54, go_sem, c2, c3, c4]) rfl ?_
    have hbe := (below_set (below_set (below_set K2.bel (p := ⟨w.heap.size + 1 + 1, 0, none⟩) (by simp; omega) (.slice (some ⟨g, 0, none⟩) zs.length cap)) (p := ⟨w.heap.size + 1 + 1 + 1, 0, none⟩) (by simp; omega) (.int .i64 had)) (p := ⟨w.heap.size + 1 + 1 + 1, 1, none⟩) (by simp; omega) (.bool true))
    refine did_ok (HE.out 2 HR.out) HA (by simp [Acc.ok]) ?_ hbe
    have e : ({ kind := 2, cell := (i : Int), old := old, new := new } : Acc).make zs = zs.set i new := by
      unfold Acc.make
      rw [HA]
      simp [Acc.next]
    rw [e]
    have hfar := (((hown.far (p := ⟨w.heap.size + 1 + 1, 0, none⟩) (by simp; omega) (.slice (some ⟨g, 0, none⟩) zs.length cap)).far (p := ⟨w.heap.size + 1 + 1 + 1, 0, none⟩) (by simp; omega) (.int .i64 had)).far (p := ⟨w.heap.size + 1 + 1 + 1, 1, none⟩) (by simp; omega) (.bool true))
    rw [List.length_set] at hfar
    exact MemAt.of_own hfar (by simp) (Nat.le_trans hB K.bel.size)
  · by_cases ho : had = old
    · subst ho
      have hob : (had != had) = false := by simp
      go_enter Try.func54, Try.ntmps54
      go_wp2_with fail
      refine (rright_any ⟨3, i, had, new⟩ _).mono ?_
      rintro e w1 ⟨rfl, hb1⟩
      rw [HR.out]
      have K := (doBoxes (some ⟨b, o, none⟩) zs.length c ⟨3, i, had, new⟩ w).keep hb1
      have hcl := (K.bel.cell (p := ⟨b, o + i, none⟩) hbb).trans hcl0
      have c0 := K.k0.cell 0
      have d0 := K.k1.cell 0
      have d1 := K.k1.cell 1
      have d2 := K.k1.cell 2
      have d3 := K.k1.cell 3
      have c2 := K.k2.cell 0
      have f2 := K.k2.free 0
      have c3 := K.k3.cell 0
      have c4 := K.k3.cell 1
      have f3 := K.k3.free 0
      have f4 := K.k3.free 1
      simp at c0 c2 c3 c4 d0 d1 d2 d3
      go_wp2_with fail
      refine (with_any (some ⟨b, o, none⟩) c zs i new w1 (h.keepb K.bel) hi hm).mono ?_
      rintro e w2 ⟨g, cap, rfl, hown, hb2⟩
      have K2 := K.keep hb2
      have hg1 : w.heap.size + 1 + 1 + 1 < g := by
        obtain ⟨g', cap', he, hg', _⟩ := World.ownsRow.form hown (by simp; omega)
        injection he with he
        injection he with he
        injection he with he
        have := K.k3.lt
        omega
      clear c0 d0 d1 d2 d3 c2 f2 c3 c4 f3 f4 hcl
      have c2 := K2.k2.cell 0
      have f2 := K2.k2.free 0
      have c3 := K2.k3.cell 0
      have c4 := K2.k3.cell 1
      have f3 := K2.k3.free 0
      have f4 := K2.k3.free 1
      simp at c2 c3 c4
      go_wp2
      refine bodyPost_ret (v := .tuple #[memV (some ⟨g, 0, none⟩) zs.length cap, resV had true, .int .i64 0]) (by simp [results, Try.results54, go_sem, c2, c3, c4]) rfl ?_
      have hbe := (below_set (below_set (below_set K2.bel (p := ⟨w.heap.size + 1 + 1, 0, none⟩) (by simp; omega) (.slice (some ⟨g, 0, none⟩) zs.length cap)) (p := ⟨w.heap.size + 1 + 1 + 1, 0, none⟩) (by simp; omega) (.int .i64 had)) (p := ⟨w.heap.size + 1 + 1 + 1, 1, none⟩) (by simp; omega) (.bool true))
      refine did_ok (HE.out 3 HR.out) HA (by simp [Acc.ok]) ?_ hbe
      have e : ({ kind := 3, cell := (i : Int), old := had, new := new } : Acc).make zs = zs.set i new := by
        unfold Acc.make
        rw [HA]
        simp [Acc.next]
      rw [e]
      have hfar := (((hown.far (p := ⟨w.heap.size + 1 + 1, 0, none⟩) (by simp; omega) (.slice (some ⟨g, 0, none⟩) zs.length cap)).far (p := ⟨w.heap.size + 1 + 1 + 1, 0, none⟩) (by simp; omega) (.int .i64 had)).far (p := ⟨w.heap.size + 1 + 1 + 1, 1, none⟩) (by simp; omega) (.bool true))
      rw [List.length_set] at hfar
      exact MemAt.of_own hfar (by simp) (Nat.le_trans hB K.bel.size)
    · have hob : (had != old) = true := by simpa using ho
      go_enter Try.func54, Try.ntmps54
      go_wp2_with fail
      refine (rright_any ⟨3, i, old, new⟩ _).mono ?_
      rintro e w1 ⟨rfl, hb1⟩
      rw [HR.out]
      have K := (doBoxes (some ⟨b, o, none⟩) zs.length c ⟨3, i, old, new⟩ w).keep hb1
      have hcl := (K.bel.cell (p := ⟨b, o + i, none⟩) hbb).trans hcl0
      have c0 := K.k0.cell 0
      have d0 := K.k1.cell 0
      have d1 := K.k1.cell 1
      have d2 := K.k1.cell 2
      have d3 := K.k1.cell 3
      have c2 := K.k2.cell 0
      have f2 := K.k2.free 0
      have c3 := K.k3.cell 0
      have c4 := K.k3.cell 1
      have f3 := K.k3.free 0
      have f4 := K.k3.free 1
      simp at c0 c2 c3 c4 d0 d1 d2 d3
      go_wp2
      refine bodyPost_ret (v := .tuple #[memV (some ⟨b, o, none⟩) zs.length c, resV had false, .int .i64 0]) (by simp [results, Try.results54, go_sem, c2, c3, c4]) rfl ?_
      have hbe := (below_set (below_set (below_set K.bel (p := ⟨w.heap.size + 1 + 1, 0, none⟩) (by simp; omega) (.slice (some ⟨b, o, none⟩) zs.length c)) (p := ⟨w.heap.size + 1 + 1 + 1, 0, none⟩) (by simp; omega) (.int .i64 had)) (p := ⟨w.heap.size + 1 + 1 + 1, 1, none⟩) (by simp; omega) (.bool false))
      refine did_ok (HE.out 3 HR.out) HA (by simp [Acc.ok, ho]) ?_ hbe
      have e : ({ kind := 3, cell := (i : Int), old := old, new := new } : Acc).make zs = zs := by
        unfold Acc.make
        rw [HA]
        simp [Acc.next, ho, HS.out]
      rw [e]
      exact HM.out.keep hB hbe
  · go_enter Try.func54, Try.ntmps54
    go_wp2_with fail
    refine (rright_any ⟨4, i, old, new⟩ _).mono ?_
    rintro e w1 ⟨rfl, hb1⟩
    rw [HR.out]
    have K := (doBoxes (some ⟨b, o, none⟩) zs.length c ⟨4, i, old, new⟩ w).keep hb1
    have hcl := (K.bel.cell (p := ⟨b, o + i, none⟩) hbb).trans hcl0
    have c0 := K.k0.cell 0
    have d0 := K.k1.cell 0
    have d1 := K.k1.cell 1
    have d2 := K.k1.cell 2
    have d3 := K.k1.cell 3
    have c2 := K.k2.cell 0
    have f2 := K.k2.free 0
    have c3 := K.k3.cell 0
    have c4 := K.k3.cell 1
    have f3 := K.k3.free 0
    have f4 := K.k3.free 1
    simp at c0 c2 c3 c4 d0 d1 d2 d3
    go_wp2_with fail
    refine (with_any (some ⟨b, o, none⟩) c zs i (wrap64 (had + new)) w1 (h.keepb K.bel) hi hm).mono ?_
    rintro e w2 ⟨g, cap, rfl, hown, hb2⟩
    have K2 := K.keep hb2
    have hg1 : w.heap.size + 1 + 1 + 1 < g := by
      obtain ⟨g', cap', he, hg', _⟩ := World.ownsRow.form hown (by simp; omega)
      injection he with he
      injection he with he
      injection he with he
      have := K.k3.lt
      omega
    clear c0 d0 d1 d2 d3 c2 f2 c3 c4 f3 f4 hcl
    have c2 := K2.k2.cell 0
    have f2 := K2.k2.free 0
    have c3 := K2.k3.cell 0
    have c4 := K2.k3.cell 1
    have f3 := K2.k3.free 0
    have f4 := K2.k3.free 1
    simp at c2 c3 c4
    go_wp2
    refine bodyPost_ret (v := .tuple #[memV (some ⟨g, 0, none⟩) zs.length cap, resV had true, .int .i64 0]) (by simp [results, Try.results54, go_sem, c2, c3, c4]) rfl ?_
    have hbe := (below_set (below_set (below_set K2.bel (p := ⟨w.heap.size + 1 + 1, 0, none⟩) (by simp; omega) (.slice (some ⟨g, 0, none⟩) zs.length cap)) (p := ⟨w.heap.size + 1 + 1 + 1, 0, none⟩) (by simp; omega) (.int .i64 had)) (p := ⟨w.heap.size + 1 + 1 + 1, 1, none⟩) (by simp; omega) (.bool true))
    refine did_ok (HE.out 4 HR.out) HA (by simp [Acc.ok]) ?_ hbe
    have e : ({ kind := 4, cell := (i : Int), old := old, new := new } : Acc).make zs = zs.set i (wrap64 (had + new)) := by
      unfold Acc.make
      rw [HA]
      simp [Acc.next]
    rw [e]
    have hfar := (((hown.far (p := ⟨w.heap.size + 1 + 1, 0, none⟩) (by simp; omega) (.slice (some ⟨g, 0, none⟩) zs.length cap)).far (p := ⟨w.heap.size + 1 + 1 + 1, 0, none⟩) (by simp; omega) (.int .i64 had)).far (p := ⟨w.heap.size + 1 + 1 + 1, 1, none⟩) (by simp; omega) (.bool true))
    rw [List.length_set] at hfar
    exact MemAt.of_own hfar (by simp) (Nat.le_trans hB K.bel.size)
  · go_enter Try.func54, Try.ntmps54
    go_wp2_with fail
    refine (rright_any ⟨5, i, old, new⟩ _).mono ?_
    rintro e w1 ⟨rfl, hb1⟩
    rw [HR.out]
    have K := (doBoxes (some ⟨b, o, none⟩) zs.length c ⟨5, i, old, new⟩ w).keep hb1
    have hcl := (K.bel.cell (p := ⟨b, o + i, none⟩) hbb).trans hcl0
    have c0 := K.k0.cell 0
    have d0 := K.k1.cell 0
    have d1 := K.k1.cell 1
    have d2 := K.k1.cell 2
    have d3 := K.k1.cell 3
    have c2 := K.k2.cell 0
    have f2 := K.k2.free 0
    have c3 := K.k3.cell 0
    have c4 := K.k3.cell 1
    have f3 := K.k3.free 0
    have f4 := K.k3.free 1
    simp at c0 c2 c3 c4 d0 d1 d2 d3
    go_wp2_with fail
    refine (with_any (some ⟨b, o, none⟩) c zs i new w1 (h.keepb K.bel) hi hm).mono ?_
    rintro e w2 ⟨g, cap, rfl, hown, hb2⟩
    have K2 := K.keep hb2
    have hg1 : w.heap.size + 1 + 1 + 1 < g := by
      obtain ⟨g', cap', he, hg', _⟩ := World.ownsRow.form hown (by simp; omega)
      injection he with he
      injection he with he
      injection he with he
      have := K.k3.lt
      omega
    clear c0 d0 d1 d2 d3 c2 f2 c3 c4 f3 f4 hcl
    have c2 := K2.k2.cell 0
    have f2 := K2.k2.free 0
    have c3 := K2.k3.cell 0
    have c4 := K2.k3.cell 1
    have f3 := K2.k3.free 0
    have f4 := K2.k3.free 1
    simp at c2 c3 c4
    go_wp2
    refine bodyPost_ret (v := .tuple #[memV (some ⟨g, 0, none⟩) zs.length cap, resV had true, .int .i64 0]) (by simp [results, Try.results54, go_sem, c2, c3, c4]) rfl ?_
    have hbe := (below_set (below_set (below_set K2.bel (p := ⟨w.heap.size + 1 + 1, 0, none⟩) (by simp; omega) (.slice (some ⟨g, 0, none⟩) zs.length cap)) (p := ⟨w.heap.size + 1 + 1 + 1, 0, none⟩) (by simp; omega) (.int .i64 had)) (p := ⟨w.heap.size + 1 + 1 + 1, 1, none⟩) (by simp; omega) (.bool true))
    refine did_ok (HE.out 5 HR.out) HA (by simp [Acc.ok]) ?_ hbe
    have e : ({ kind := 5, cell := (i : Int), old := old, new := new } : Acc).make zs = zs.set i new := by
      unfold Acc.make
      rw [HA]
      simp [Acc.next]
    rw [e]
    have hfar := (((hown.far (p := ⟨w.heap.size + 1 + 1, 0, none⟩) (by simp; omega) (.slice (some ⟨g, 0, none⟩) zs.length cap)).far (p := ⟨w.heap.size + 1 + 1 + 1, 0, none⟩) (by simp; omega) (.int .i64 had)).far (p := ⟨w.heap.size + 1 + 1 + 1, 1, none⟩) (by simp; omega) (.bool true))
    rw [List.length_set] at hfar
    exact MemAt.of_own hfar (by simp) (Nat.le_trans hB K.bel.size)

set_option maxHeartbeats 4000000 in
theorem rdo_any (A : Option Addr) (B c : Nat) (zs : List Int) (a : Acc) (w : World) (hB : B ≤ w.heap.size) (hM : MemAt w B A zs.length c zs) (hm : zs.length ≤ 1000000) :
    Calls Try.prog 54 #[memV A zs.length c, accV a] w (Did B a zs w) := by
  cases hr : a.right
  · have he : a.err zs.length = 1 := by simp [Acc.err, hr]
    have HE := Lib.hid he
    clear he
    go_enter Try.func54, Try.ntmps54
    go_wp2_with fail
    refine (rright_any a _).mono ?_
    rintro e w1 ⟨rfl, hb1⟩
    have K := (doBoxes A zs.length c a w).keep hb1
    have c0 := K.k0.cell 0
    have c2 := K.k2.cell 0
    have f2 := K.k2.free 0
    have c3 := K.k3.cell 0
    have c4 := K.k3.cell 1
    have f3 := K.k3.free 0
    have f4 := K.k3.free 1
    simp at c0 c2 c3 c4
    go_wp2
    have hbad := did_bad (w := w) (c := c) (by rw [HE.out]; omega) hM hB (below_set (below_set (below_set K.bel (p := ⟨w.heap.size + 1 + 1, 0, none⟩) (by simp; omega) (.slice A zs.length c)) (p := ⟨w.heap.size + 1 + 1 + 1, 0, none⟩) (by simp; omega) (.int .i64 0)) (p := ⟨w.heap.size + 1 + 1 + 1, 1, none⟩) (by simp; omega) (.bool false))
    rw [HE.out] at hbad
    exact bodyPost_ret (v := .tuple #[memV A zs.length c, resV 0 false, .int .i64 1]) (by simp [results, Try.results54, go_sem, c2, c3, c4]) rfl hbad
  · have hc0 := Acc.right_cell hr
    by_cases hc : a.cell < zs.length
    · exact rdo_good A B c zs a w hB hM hm hr hc
    · have he : a.err zs.length = 12 := by simp [Acc.err, hr, hc]
      have HE := Lib.hid he
      clear he
      go_enter Try.func54, Try.ntmps54
      go_wp2_with fail
      refine (rright_any a _).mono ?_
      rintro e w1 ⟨rfl, hb1⟩
      have K := (doBoxes A zs.length c a w).keep hb1
      have c0 := K.k0.cell 0
      have d1 := K.k1.cell 1
      have c2 := K.k2.cell 0
      have f2 := K.k2.free 0
      have c3 := K.k3.cell 0
      have c4 := K.k3.cell 1
      have f3 := K.k3.free 0
      have f4 := K.k3.free 1
      simp at c0 c2 c3 c4 d1
      go_wp2
      have hbad := did_bad (w := w) (c := c) (by rw [HE.out]; omega) hM hB (below_set (below_set (below_set K.bel (p := ⟨w.heap.size + 1 + 1, 0, none⟩) (by simp; omega) (.slice A zs.length c)) (p := ⟨w.heap.size + 1 + 1 + 1, 0, none⟩) (by simp; omega) (.int .i64 0)) (p := ⟨w.heap.size + 1 + 1 + 1, 1, none⟩) (by simp; omega) (.bool false))
      rw [HE.out] at hbad
      exact bodyPost_ret (v := .tuple #[memV A zs.length c, resV 0 false, .int .i64 12]) (by simp [results, Try.results54, go_sem, c2, c3, c4]) rfl hbad
def accCells (l : List Acc) : List Value := l.flatMap fun a => [.int .i64 a.kind, .int .i64 a.cell, .int .i64 a.old, .int .i64 a.new]

/-- The first code that isn't OK, the cells behind all, and what each told. -/
def allErr : List Int → List Acc → Int
  | _, [] => 0
  | zs, a :: l => if a.err zs.length = 0 then allErr (a.make zs) l else a.err zs.length
def allCells : List Int → List Acc → List Int
  | zs, [] => zs
  | zs, a :: l => allCells (a.make zs) l
def allTold : List Int → List Acc → List (Int × Bool)
  | _, [] => []
  | zs, a :: l => (a.had zs, a.ok (a.had zs)) :: allTold (a.make zs) l

theorem allCells_length (l : List Acc) : ∀ zs, (allCells zs l).length = zs.length := by
  induction l with
  | nil => intro zs; rfl
  | cons a l ih => intro zs; rw [allCells, ih, Acc.make_length]
theorem allTold_length (l : List Acc) : ∀ zs, (allTold zs l).length = l.length := by
  induction l with
  | nil => intro zs; rfl
  | cons a l ih => intro zs; simp [allTold, ih]
theorem all_snoc (l : List Acc) (a : Acc) : ∀ zs, allCells zs (l ++ [a]) = a.make (allCells zs l) ∧ allTold zs (l ++ [a]) = allTold zs l ++ [(a.had (allCells zs l), a.ok (a.had (allCells zs l)))] ∧
    (allErr zs l = 0 → allErr zs (l ++ [a]) = a.err zs.length) := by
  induction l with
  | nil =>
    intro zs
    refine ⟨rfl, rfl, fun _ => ?_⟩
    simp only [List.nil_append, allErr]
    split <;> simp_all
  | cons b l ih =>
    intro zs
    obtain ⟨h1, h2, h3⟩ := ih (b.make zs)
    refine ⟨by simp only [List.cons_append, allCells]; exact h1, by simp only [List.cons_append, allTold, allCells]; rw [h2], fun h => ?_⟩
    simp only [List.cons_append, allErr] at h ⊢
    split at h
    · rename_i hb
      rw [if_pos hb, h3 h, Acc.make_length]
    · contradiction
theorem allErr_bad (l l' : List Acc) (a : Acc) : ∀ zs, allErr zs l = 0 → a.err zs.length ≠ 0 → allErr zs (l ++ a :: l') = a.err zs.length := by
  induction l with
  | nil => intro zs _ h; simp [allErr, h]
  | cons b l ih =>
    intro zs h hb
    simp only [List.cons_append, allErr] at h ⊢
    split at h
    · rename_i he
      rw [if_pos he, ih (b.make zs) h (by rwa [Acc.make_length]), Acc.make_length]
    · contradiction
def SlAcc (w : World) (B : Nat) (A : Option Addr) (l : List Acc) : Prop :=
  0 < l.length → ∃ b o, A = some ⟨b, o, none⟩ ∧ b < B ∧ ∀ k a, l[k]? = some a → w.cell? ⟨b, o + k * 4, none⟩ = some (.int .i64 a.kind) ∧ w.cell? ⟨b, o + k * 4 + 1, none⟩ = some (.int .i64 a.cell) ∧
    w.cell? ⟨b, o + k * 4 + 2, none⟩ = some (.int .i64 a.old) ∧ w.cell? ⟨b, o + k * 4 + 3, none⟩ = some (.int .i64 a.new)
theorem SlAcc.below {w w' : World} {B : Nat} {A : Option Addr} {l : List Acc} (h : SlAcc w B A l) (hb : Below B w w') : SlAcc w' B A l := by
  intro hl
  obtain ⟨b, o, e, hbb, hc⟩ := h hl
  refine ⟨b, o, e, hbb, fun k a ha => ?_⟩
  obtain ⟨h1, h2, h3, h4⟩ := hc k a ha
  exact ⟨(hb.cell (p := ⟨b, _, none⟩) hbb).trans h1, (hb.cell (p := ⟨b, _, none⟩) hbb).trans h2, (hb.cell (p := ⟨b, _, none⟩) hbb).trans h3, (hb.cell (p := ⟨b, _, none⟩) hbb).trans h4⟩
theorem SlAcc.more {w : World} {B B' : Nat} {A : Option Addr} {l : List Acc} (h : SlAcc w B A l) (hB : B ≤ B') : SlAcc w B' A l := by
  intro hl
  obtain ⟨b, o, e, hbb, hc⟩ := h hl
  exact ⟨b, o, e, Nat.lt_of_lt_of_le hbb hB, hc⟩
theorem SlAcc.keepb {w w' : World} {A : Option Addr} {l : List Acc} (h : SlAcc w w.heap.size A l) (hb : Below w.heap.size w w') : SlAcc w' w'.heap.size A l := (h.below hb).more hb.size

/-- The value owns the results. -/
def allCellsOut (zs : List Int) (l : List Acc) : List Int := if allErr zs l = 0 then allCells zs l else zs
def allToldOut (zs : List Int) (l : List Acc) : List (Int × Bool) := if allErr zs l = 0 then allTold zs l else []
/-- What All hands back. -/
def AllOut (B : Nat) (zs : List Int) (l : List Acc) (w : World) (e : Ending) (w' : World) : Prop :=
  ∃ A c R d, e = .returned (.tuple #[memV A zs.length c, .slice R (allToldOut zs l).length d, .int .i64 (allErr zs l)]) ∧ MemAt w' B A zs.length c (allCellsOut zs l) ∧ OwnRes w' w.heap.size (.slice R (allToldOut zs l).length d) (allToldOut zs l) ∧ Below w.heap.size w w'
theorem allOut_bad {B : Nat} {zs : List Int} {l : List Acc} {w w' : World} {A : Option Addr} {c : Nat} {er : Int} (h0 : allErr zs l = er) (he : er ≠ 0) (hB : B ≤ w.heap.size) (h : MemAt w B A zs.length c zs) (hb : Below w.heap.size w w') :
    AllOut B zs l w (.returned (.tuple #[memV A zs.length c, .slice none 0 0, .int .i64 er])) w' := by
  subst h0
  have h1 : allToldOut zs l = [] := by simp [allToldOut, he]
  have h2 : allCellsOut zs l = zs := by simp [allCellsOut, he]
  exact ⟨A, c, none, 0, by rw [h1]; rfl, by rw [h2]; exact h.keep hB hb, by rw [h1]; exact World.ownsRow_nil _ _ _ _, hb⟩
theorem allOut_ok {B : Nat} {zs : List Int} {l : List Acc} {w w' : World} {A : Option Addr} {c : Nat} {v : Value} (h0 : allErr zs l = 0) (h : MemAt w' B A zs.length c (allCells zs l)) (hr : OwnRes w' w.heap.size v (allTold zs l)) (hb : Below w.heap.size w w') :
    AllOut B zs l w (.returned (.tuple #[memV A zs.length c, v, .int .i64 0])) w' := by
  have h1 : allToldOut zs l = allTold zs l := by simp [allToldOut, h0]
  have h2 : allCellsOut zs l = allCells zs l := by simp [allCellsOut, h0]
  obtain ⟨R, d, rfl⟩ := own_slice hr
  exact ⟨A, c, R, d, by rw [h1, h0], by rw [h2]; exact h, by rw [h1]; exact hr, hb⟩

theorem drop_cons_of {α : Type} {l : List α} {k : Nat} {a : α} (h : l[k]? = some a) : l.drop k = a :: l.drop (k + 1) := by
  obtain ⟨hk, rfl⟩ := List.getElem?_eq_some_iff.1 h
  exact List.drop_eq_getElem_cons hk

/-- Rows of two kinds of elements lie in two blocks. -/
theorem own_apart {w : World} {b b' n n' m' : Nat} {e e' : TypeId} {sz sz' g cap : Nat} {v : Value} {xs xs' : List Value} (h : w.ownsRow b e sz v n xs) (h' : w.ownsRow b' e' sz' (.slice (some ⟨g, 0, none⟩) m' cap) n' xs') (hne : e ≠ e') :
    v.ownBlock = none ∨ v.ownBlock ≠ some g := by
  rcases h.2 with ⟨rfl, _⟩ | ⟨g1, cap1, cur1, rfl, _, h1, _⟩
  · exact .inl rfl
  · right
    intro hg
    simp [Value.ownBlock] at hg
    subst hg
    rcases h'.2 with ⟨h2, _⟩ | ⟨g2, cap2, cur2, h2, _, h3, _⟩
    · simp at h2
    · injection h2 with h2
      injection h2 with h2
      injection h2 with h2
      subst h2
      rw [h1] at h3
      injection h3 with h3
      injection h3 with _ h3
      exact hne h3
theorem res_news (w : World) (had : Int) (ok : Bool) : ∀ (j : Nat) (u : Value), [Value.int .i64 had, .bool ok][j]? = some u → (w.alloc (.cells #[.int .i64 had, .bool ok] 67)).cell? ((⟨w.heap.size, 0, none⟩ : Addr).add j) = some u := by
  intro j u hu
  rw [Go.WideShapes.add_plain, Nat.zero_add, (Bk.made w 67 #[.int .i64 had, .bool ok]).cell j]
  simpa using hu
theorem res_one (had : Int) (ok : Bool) : ∀ u ∈ [Value.int .i64 had, .bool ok], u.oneCell' = true := by
  intro u hu
  simp at hu
  rcases hu with rfl | rfl <;> rfl

def RAllRel (M : Nat) (w : World) (A : Option Addr) (c : Nat) (zs : List Int) (l : List Acc) (v8 i : Value) (wr : World) : Prop :=
  ∃ (k : Nat) (X : Option Addr) (cx : Nat), k ≤ l.length ∧ i = .int .i64 k ∧ Below w.heap.size w wr ∧ Bk wr w.heap.size 33 #[.slice A zs.length c] ∧ Bk wr (w.heap.size + 1) 33 #[.slice none 0 0] ∧
    Bk wr (w.heap.size + 1 + 1) 33 #[.slice X zs.length cx] ∧ MemAt wr M X zs.length cx (allCells zs (l.take k)) ∧ OwnRes wr (w.heap.size + 1 + 1 + 1) v8 (allTold zs (l.take k)) ∧ allErr zs (l.take k) = 0

/-- What 'n, r, e := Do(..)' leaves. -/
def DoCut (B : Nat) (a : Acc) (n : Nat) (zs : List Int) (wr : World) (s10 s11 s12 : Value) (wx : World) : Prop :=
  ∃ (p q : Nat) (X : Option Addr) (cx : Nat), s10 = .pointer (some ⟨p, 0, none⟩) ∧ s11 = .pointer (some ⟨q, 0, none⟩) ∧ s12 = .int .i64 (a.err n) ∧ wr.heap.size ≤ p ∧ wr.heap.size ≤ q ∧ p ≠ q ∧
    Bk wx p 33 #[.slice X n cx] ∧ Bk wx q 67 #[.int .i64 (a.valOut zs), .bool (a.okOut zs)] ∧ MemAt wx B X n cx (a.cellsOut zs) ∧ Below wr.heap.size wr wx

theorem below_setB {a w : World} (h : Below a.heap.size a w) {b : Nat} (hp : a.heap.size ≤ b) (o : Nat) (u : Value) : Below a.heap.size a (w.setCell ⟨b, o, none⟩ u) := h.setCell hp u
theorem bcells {W w1 : World} (hb : Below W.heap.size W w1) : ∀ b o, b < W.heap.size → w1.cell? ⟨b, o, none⟩ = W.cell? ⟨b, o, none⟩ := fun b o h => hb.cell (p := ⟨b, o, none⟩) h
theorem bfrozens {W w1 : World} (hb : Below W.heap.size W w1) : ∀ b o, b < W.heap.size → w1.frozen? ⟨b, o, none⟩ = W.frozen? ⟨b, o, none⟩ := fun b o h => hb.frozen (p := ⟨b, o, none⟩) h

theorem MemAt.far {w : World} {B n c g : Nat} {X : Option Addr} {zs : List Int} {t : TypeId} {cs : Array Value} (h : MemAt w B X n c zs) (hk : Bk w g t cs) (ht : 3 ≠ t) (hB : B ≤ g) (o : Nat) (u : Value) : MemAt (w.setCell ⟨g, o, none⟩ u) B X n c zs := by
  refine ⟨h.1, ?_⟩
  rcases h.2 with h' | h'
  · exact .inl (h'.stored (p := ⟨g, o, none⟩) hB u)
  · right
    refine World.ownsRow.kept (row := some g) h' ⟨rfl, rfl, rfl, by simp, fun k _ hk' => Below.heap_setCell w _ u k (fun e => hk' (by rw [e]))⟩ ?_
    rcases h'.2 with ⟨he, _⟩ | ⟨g1, cap1, cur1, he, _, h1, _⟩
    · left; rw [he]; rfl
    · right
      rw [he]
      intro e
      simp [Value.ownBlock] at e
      subst e
      have h2 : w.heap[g1]? = some (.cells cs t (0, 0)) := hk
      rw [h1] at h2
      injection h2 with h2
      injection h2 with _ h2
      exact ht h2
theorem MemAt.al {w : World} {B n c : Nat} {X : Option Addr} {zs : List Int} (h : MemAt w B X n c zs) (hB : B ≤ w.heap.size) (o : Obj) : MemAt (w.alloc o) B X n c zs := h.keep hB (below_al (Below.refl _ _) o)

theorem MemAt.grown {w w' : World} {B n c b' m sz : Nat} {X : Option Addr} {zs : List Int} {v : Value} {xs : List Value} {e : TypeId} (h : MemAt w B X n c zs) (hrow : w.ownsRow b' e sz v m xs) (hg : w.grownBy w' v.ownBlock) (hb : B ≤ b') (hB : B ≤ w.heap.size) (ht : 3 ≠ e) : MemAt w' B X n c zs := by
  refine ⟨h.1, ?_⟩
  rcases h.2 with h' | h'
  · left
    refine h'.keep fun p hp => World.cell?_of_block (hg.block p.block (by omega) (fun e => ?_))
    have := (World.ownsRow.lt hrow _ e.symm).1
    omega
  · right
    refine World.ownsRow.kept h' hg ?_
    rcases h'.2 with ⟨he, _⟩ | ⟨g1, cap1, cur1, he, _, h1, _⟩
    · left; rw [he]; rfl
    · right
      rw [he] at h' ⊢
      intro e
      rcases own_apart hrow h' (Ne.symm ht) with h2 | h2
      · rw [h2] at e; simp [Value.ownBlock] at e
      · exact h2 (by rw [← e]; rfl)

section
variable {B n c : Nat} {a : Acc} {zs : List Int} {wr w2 : World} {X : Option Addr}
abbrev zM : Obj := .cells #[.slice none 0 0] 33
abbrev zR : Obj := .cells #[.int .i64 0, .bool false] 67
theorem docut1 (hbc : Below wr.heap.size wr w2) (hM : MemAt w2 B X n c (a.cellsOut zs)) (hB : B ≤ wr.heap.size) :
    DoCut B a n zs wr (.pointer (some ⟨w2.heap.size, 0, none⟩)) (.pointer (some ⟨w2.heap.size + 1, 0, none⟩)) (.int .i64 (a.err n)) ((w2.alloc (.cells #[.slice X n c] 33)).alloc (.cells #[.int .i64 (a.valOut zs), .bool (a.okOut zs)] 67)) :=
  ⟨w2.heap.size, w2.heap.size + 1, X, c, rfl, rfl, rfl, hbc.size, by have := hbc.size; omega, by omega, (Bk.made _ _ _).alloc _, Bk.new _ (by simp) _ _, (hM.al (Nat.le_trans hB hbc.size) _).al (by have := hbc.size; simp; omega) _, below_al (below_al hbc _) _⟩
theorem docut2 (hbc : Below wr.heap.size wr w2) (hM : MemAt w2 B X n c (a.cellsOut zs)) (hB : B ≤ wr.heap.size) :
    DoCut B a n zs wr (.pointer (some ⟨w2.heap.size + 1, 0, none⟩)) (.pointer (some ⟨w2.heap.size, 0, none⟩)) (.int .i64 (a.err n)) ((w2.alloc (.cells #[.int .i64 (a.valOut zs), .bool (a.okOut zs)] 67)).alloc (.cells #[.slice X n c] 33)) :=
  ⟨w2.heap.size + 1, w2.heap.size, X, c, rfl, rfl, rfl, by have := hbc.size; omega, hbc.size, by omega, Bk.new _ (by simp) _ _, (Bk.made _ _ _).alloc _, (hM.al (Nat.le_trans hB hbc.size) _).al (by have := hbc.size; simp; omega) _, below_al (below_al hbc _) _⟩
theorem docut3 (hb2 : Below (wr.alloc zM).drew.heap.size (wr.alloc zM).drew w2) (hM : MemAt w2 B X n c (a.cellsOut zs)) (hB : B ≤ wr.heap.size) :
    DoCut B a n zs wr (.pointer (some ⟨wr.heap.size, 0, none⟩)) (.pointer (some ⟨w2.heap.size, 0, none⟩)) (.int .i64 (a.err n)) ((w2.setCell ⟨wr.heap.size, 0, none⟩ (.slice X n c)).alloc (.cells #[.int .i64 (a.valOut zs), .bool (a.okOut zs)] 67)) := by
  have hbc := below_tr (below_al (Below.refl wr.heap.size wr) zM) (below_undrew hb2)
  have kA := (Bk.made wr 33 #[.slice none 0 0]).keep (below_undrew hb2)
  have := kA.lt
  exact ⟨wr.heap.size, w2.heap.size, X, c, rfl, rfl, rfl, Nat.le_refl _, hbc.size, by omega, (kA.stored 0 _).alloc _, Bk.new _ (by simp) _ _, (hM.far kA (by decide) hB 0 _).al (by simp; omega) _, below_al (below_setB hbc (Nat.le_refl _) _ _) _⟩
theorem docut4 (hb2 : Below ((wr.alloc zM).alloc zR).drew.heap.size ((wr.alloc zM).alloc zR).drew w2) (hM : MemAt w2 B X n c (a.cellsOut zs)) (hB : B ≤ wr.heap.size) :
    DoCut B a n zs wr (.pointer (some ⟨wr.heap.size, 0, none⟩)) (.pointer (some ⟨wr.heap.size + 1, 0, none⟩)) (.int .i64 (a.err n)) (((w2.setCell ⟨wr.heap.size, 0, none⟩ (.slice X n c)).setCell ⟨wr.heap.size + 1, 0, none⟩ (.int .i64 (a.valOut zs))).setCell ⟨wr.heap.size + 1, 1, none⟩ (.bool (a.okOut zs))) := by
  have hbc := below_tr (below_al (below_al (Below.refl wr.heap.size wr) zM) zR) (below_undrew hb2)
  have kA := ((Bk.made wr 33 #[.slice none 0 0]).alloc zR).keep (below_undrew hb2)
  have kR := (Bk.new (wr.alloc zM) (g := wr.heap.size + 1) (by simp) 67 #[.int .i64 0, .bool false]).keep (below_undrew hb2)
  exact ⟨wr.heap.size, wr.heap.size + 1, X, c, rfl, rfl, rfl, Nat.le_refl _, by omega, by omega, ((kA.stored 0 _).other (by simp) _).other (by simp) _, (((kR.other (p := ⟨wr.heap.size, 0, none⟩) (by simp) _).stored 0 _).stored 1 _),
    (((hM.far kA (by decide) hB 0 _).far (kR.other (p := ⟨wr.heap.size, 0, none⟩) (by simp) _) (by decide) (by omega) 0 _).far ((kR.other (p := ⟨wr.heap.size, 0, none⟩) (by simp) _).stored 0 _) (by decide) (by omega) 1 _), below_setB (below_setB (below_setB hbc (Nat.le_refl _) _ _) (by omega) _ _) (by omega) _ _⟩
theorem docut5 (hb2 : Below (wr.alloc zR).drew.heap.size (wr.alloc zR).drew w2) (hM : MemAt w2 B X n c (a.cellsOut zs)) (hB : B ≤ wr.heap.size) :
    DoCut B a n zs wr (.pointer (some ⟨w2.heap.size, 0, none⟩)) (.pointer (some ⟨wr.heap.size, 0, none⟩)) (.int .i64 (a.err n)) (((w2.setCell ⟨wr.heap.size, 0, none⟩ (.int .i64 (a.valOut zs))).setCell ⟨wr.heap.size, 1, none⟩ (.bool (a.okOut zs))).alloc (.cells #[.slice X n c] 33)) := by
  have hbc := below_tr (below_al (Below.refl wr.heap.size wr) zR) (below_undrew hb2)
  have kR := (Bk.made wr 67 #[.int .i64 0, .bool false]).keep (below_undrew hb2)
  have := kR.lt
  exact ⟨w2.heap.size, wr.heap.size, X, c, rfl, rfl, rfl, hbc.size, Nat.le_refl _, by omega, Bk.new _ (by simp) _ _, ((kR.stored 0 _).stored 1 _).alloc _,
    ((hM.far kR (by decide) hB 0 _).far (kR.stored 0 _) (by decide) hB 1 _).al (by simp; omega) _, below_al (below_setB (below_setB hbc (Nat.le_refl _) _ _) (Nat.le_refl _) _ _) _⟩
theorem docut6 (hb2 : Below ((wr.alloc zR).alloc zM).drew.heap.size ((wr.alloc zR).alloc zM).drew w2) (hM : MemAt w2 B X n c (a.cellsOut zs)) (hB : B ≤ wr.heap.size) :
    DoCut B a n zs wr (.pointer (some ⟨wr.heap.size + 1, 0, none⟩)) (.pointer (some ⟨wr.heap.size, 0, none⟩)) (.int .i64 (a.err n)) (((w2.setCell ⟨wr.heap.size + 1, 0, none⟩ (.slice X n c)).setCell ⟨wr.heap.size, 0, none⟩ (.int .i64 (a.valOut zs))).setCell ⟨wr.heap.size, 1, none⟩ (.bool (a.okOut zs))) := by
  have hbc := below_tr (below_al (below_al (Below.refl wr.heap.size wr) zR) zM) (below_undrew hb2)
  have kR := ((Bk.made wr 67 #[.int .i64 0, .bool false]).alloc zM).keep (below_undrew hb2)
  have kA := (Bk.new (wr.alloc zR) (g := wr.heap.size + 1) (by simp) 33 #[.slice none 0 0]).keep (below_undrew hb2)
  exact ⟨wr.heap.size + 1, wr.heap.size, X, c, rfl, rfl, rfl, by omega, Nat.le_refl _, by omega, ((kA.stored 0 _).other (by simp) _).other (by simp) _, (((kR.other (p := ⟨wr.heap.size + 1, 0, none⟩) (by simp) _).stored 0 _).stored 1 _),
    (((hM.far kA (by decide) (by omega) 0 _).far (kR.other (p := ⟨wr.heap.size + 1, 0, none⟩) (by simp) _) (by decide) hB 0 _).far ((kR.other (p := ⟨wr.heap.size + 1, 0, none⟩) (by simp) _).stored 0 _) (by decide) hB 1 _), below_setB (below_setB (below_setB hbc (by omega) _ _) (Nat.le_refl _) _ _) (Nat.le_refl _) _ _⟩
end

/-- 'Did', the length being a letter. -/
def Did2 (n B : Nat) (a : Acc) (zs : List Int) (w : World) (e : Ending) (w' : World) : Prop :=
  ∃ A c, e = .returned (.tuple #[memV A n c, resV (a.valOut zs) (a.okOut zs), .int .i64 (a.err n)]) ∧ MemAt w' B A n c (a.cellsOut zs) ∧ Below w.heap.size w w'

set_option maxHeartbeats 4000000 in
theorem rall_any (M : Nat) (A B : Option Addr) (c d : Nat) (zs : List Int) (l : List Acc) (w : World) (hMB : M ≤ w.heap.size) (hM : MemAt w M A zs.length c zs) (hl : SlAcc w w.heap.size B l) (hm : zs.length ≤ 1000000) (hm2 : l.length ≤ 1000000) :
    Calls Try.prog 40 #[memV A zs.length c, .slice B l.length d] w (AllOut M zs l w) := by
  obtain ⟨i0, hi0, hz0, hz1, hz2⟩ := info_parts res_info
  have HMM := Lib.hid hM
  clear hM
  go_enter Try.func40, Try.ntmps40
  go_wp2_with fail
  go_loopw [8, 9] (fun v8 i wr => RAllRel M w A c zs l v8 i wr) (fun _ i _ => l.length - (intOf i).toNat)
  case atStart => exact ⟨0, A, c, Nat.zero_le _, rfl, below_al (below_al (below_al (Below.refl _ _) _) _) _, ((Bk.made _ _ _).alloc _).alloc _, (Bk.new _ (by simp) _ _).alloc _, Bk.new _ (by simp) _ _, HMM.out.keep hMB (below_al (below_al (below_al (Below.refl _ _) _) _) _), World.ownsRow_nil _ _ _ _, rfl⟩
  case round =>
    obtain ⟨k, X, cx, hk, rfl, hbl, k0, k1, k2, hmem, hres, herr⟩ := hrel
    have hcl := allCells_length (l.take k) zs
    by_cases hlt : k < l.length
    · obtain ⟨b, o, hB, hbb, hcc⟩ := (hl.below hbl) (by omega)
      subst hB
      obtain ⟨a, ha⟩ : ∃ a, l[k]? = some a := ⟨_, List.getElem?_eq_getElem hlt⟩
      obtain ⟨d0, d1, d2, d3⟩ := hcc k a ha
      have i1 : (k : Int) < l.length := by omega
      have i2 : (0 : Int) ≤ k := by omega
      have c7 := k2.cell 0
      simp at c7
      have hsn := all_snoc (l.take k) a zs
      have htk : l.take (k + 1) = l.take k ++ [a] := by rw [List.take_add_one, ha]; rfl
      rw [← htk] at hsn
      have hS := Lib.hid hsn
      have hT := Lib.hid (show l = l.take k ++ a :: l.drop (k + 1) by rw [← drop_cons_of ha, List.take_append_drop])
      have HE := Lib.hid herr
      have HC := Lib.hid hcl
      have HX := Lib.hid (And.intro hmem hres)
      have HK := Lib.hid (And.intro k0 (And.intro k1 k2))
      have HA := Lib.hid hl
      have HB := Lib.hid hbl
      clear hsn htk hcc herr hcl ha hmem hres hl k0 k1 k2 hbl
      have hlw : w.heap.size + 1 + 1 < wr.heap.size := HK.out.2.2.lt
      have hbw : b < wr.heap.size := Nat.lt_of_lt_of_le hbb HB.out.size
      have HS : Hid (∀ w' : World, Below wr.heap.size wr w' → (Below wr.heap.size wr w' ∧ w'.cell? ⟨w.heap.size + 1 + 1, 0, none⟩ = some (.slice X zs.length cx) ∧ w'.cell? ⟨b, o + k * 4, none⟩ = some (.int .i64 a.kind) ∧ w'.cell? ⟨b, o + k * 4 + 1, none⟩ = some (.int .i64 a.cell) ∧
            w'.cell? ⟨b, o + k * 4 + 2, none⟩ = some (.int .i64 a.old) ∧ w'.cell? ⟨b, o + k * 4 + 3, none⟩ = some (.int .i64 a.new))) := by
        intro w' hb
        exact ⟨hb, (bcellA hb hlw).trans c7, (bcellA hb hbw).trans d0, (bcellA hb hbw).trans d1, (bcellA hb hbw).trans d2, (bcellA hb hbw).trans d3⟩
      have HN : Hid (∀ w' : World, Below wr.heap.size wr w' → Calls Try.prog 54 #[.agg #[.slice X zs.length cx], .agg #[.int .i64 a.kind, .int .i64 a.cell, .int .i64 a.old, .int .i64 a.new]] w' (Did2 zs.length M a (allCells zs (l.take k)) w')) := by
        intro w' hb
        have := rdo_any X M cx (allCells zs (l.take k)) a w' (Nat.le_trans hMB (Nat.le_trans HB.out.size hb.size)) (by rw [HC.out]; exact (HX.out.1.keep (Nat.le_trans hMB HB.out.size) hb)) (by rw [HC.out]; exact hm)
        unfold Did at this
        rw [HC.out] at this
        exact this
      have hb0 := Below.refl wr.heap.size wr
      go_upto_region 6 with fail
      go_cut [10, 11, 12] (fun s10 s11 s12 wx => DoCut M a zs.length (allCells zs (l.take k)) wr s10 s11 s12 wx)
      case first =>
        go_region_held3 (fun w' => Below wr.heap.size wr w' ∧ w'.cell? ⟨w.heap.size + 1 + 1, 0, none⟩ = some (.slice X zs.length cx) ∧ w'.cell? ⟨b, o + k * 4, none⟩ = some (.int .i64 a.kind) ∧ w'.cell? ⟨b, o + k * 4 + 1, none⟩ = some (.int .i64 a.cell) ∧
            w'.cell? ⟨b, o + k * 4 + 2, none⟩ = some (.int .i64 a.old) ∧ w'.cell? ⟨b, o + k * 4 + 3, none⟩ = some (.int .i64 a.new))
          ((refine HS.out _ ?_; repeat (first | exact hbc | exact hb0 | apply Below.drew | apply below_al | (refine below_setB ?_ (by omega) _ _))))
          (first | (go_at_call 54; refine (HN.out _ (‹Below wr.heap.size wr _ ∧ _›.1)).mono ?_; rintro e w2 ⟨X', c', rfl, hM2, hb2⟩; have hbc := below_tr (‹Below wr.heap.size wr _ ∧ _›.1) hb2; have bc := bcells (below_undrew hb2); have bf := bfrozens (below_undrew hb2); (try have hq1 : wr.heap.size < w2.heap.size := by (have := (below_undrew hb2).size; simp at this; omega)); (try have hq2 : wr.heap.size + 1 < w2.heap.size := by (have := (below_undrew hb2).size; simp at this; omega))))
        all_goals (go_wp2_with fail; go_meet)
        all_goals (first | exact docut1 hbc hM2 (Nat.le_trans hMB HB.out.size) | exact docut2 hbc hM2 (Nat.le_trans hMB HB.out.size) | exact docut3 hb2 hM2 (Nat.le_trans hMB HB.out.size) | exact docut4 hb2 hM2 (Nat.le_trans hMB HB.out.size) | exact docut5 hb2 hM2 (Nat.le_trans hMB HB.out.size) | exact docut6 hb2 hM2 (Nat.le_trans hMB HB.out.size))
      case rest =>
        clear d0 d1 d2 d3 c7 HS HN hb0
        obtain ⟨p, q, X', cx', rfl, rfl, rfl, hp, hq, hpq, kp, kq, hM3, hb3⟩ := hcut
        have hbl3 := below_tr HB.out hb3
        have k0 := HK.out.1.keep hb3
        have k1 := HK.out.2.1.keep hb3
        have k2 := HK.out.2.2.keep hb3
        have hres3 : OwnRes wc (w.heap.size + 1 + 1 + 1) u8 (allTold zs (l.take k)) := own_keepb HX.out.2 hb3
        clear HX HK HB hb3
        by_cases he : a.err zs.length = 0
        · obtain ⟨hr, hc0, hc1⟩ := Acc.err_ok he
          have HO := Lib.hid he
          have he' : a.err (allCells zs (l.take k)).length = 0 := by rw [HC.out]; exact he
          have ev : a.valOut (allCells zs (l.take k)) = a.had (allCells zs (l.take k)) := by simp only [Acc.valOut, he', if_true]
          have eo : a.okOut (allCells zs (l.take k)) = a.ok (a.had (allCells zs (l.take k))) := by simp only [Acc.okOut, he', if_true]
          have ec : a.cellsOut (allCells zs (l.take k)) = a.make (allCells zs (l.take k)) := by simp only [Acc.cellsOut, he', if_true]
          rw [ev, eo] at kq
          rw [ec] at hM3
          rw [he]
          clear ev eo ec he he'
          have hlen : (allTold zs (l.take k)).length = k := by rw [allTold_length, List.length_take]; omega
          generalize hhad : a.had (allCells zs (l.take k)) = had at *
          generalize hok : a.ok had = ok at *
          have HHO := Lib.hid (And.intro hhad hok)
          clear hhad hok
          have c2 := k2.cell 0
          have f2 := k2.free 0
          have cp := kp.cell 0
          have cq0 := kq.cell 0
          have cq1 := kq.cell 1
          simp at c2 cp cq0 cq1
          have hq2 : ¬ q = w.heap.size + 1 + 1 := by omega
          have hres4 : (wc.setCell ⟨w.heap.size + 1 + 1, 0, none⟩ (.slice X' zs.length cx')).ownsRow (w.heap.size + 1 + 1 + 1) 67 2 u8 k (resCells (allTold zs (l.take k))) := by
            have h' := own_keepSet hres3 (p := ⟨w.heap.size + 1 + 1, 0, none⟩) (by simp) (.slice X' zs.length cx')
            rw [hlen] at h'
            exact h'
          have hrow := World.ownsRow.alloc hres4 (.cells #[.int .i64 had, .bool ok] 67)
          have hM4 := hM3.far k2 (by decide) (by omega) 0 (.slice X' zs.length cx')
          have hbl4 := below_setB hbl3 (b := w.heap.size + 1 + 1) (by omega) 0 (.slice X' zs.length cx')
          have j0 := k0.other (p := ⟨w.heap.size + 1 + 1, 0, none⟩) (by simp; omega) (.slice X' zs.length cx')
          have j1 := k1.other (p := ⟨w.heap.size + 1 + 1, 0, none⟩) (by simp) (.slice X' zs.length cx')
          have j2 := k2.stored 0 (.slice X' zs.length cx')
          have hl2 := k2.lt
          have HJ := Lib.hid (And.intro j0 (And.intro j1 j2))
          have HR := Lib.hid hres3
          have HM := Lib.hid (And.intro hM4 hbl4)
          clear j0 j1 j2 k0 k1 k2 kp kq hres3 hM3 hM4 hbl3 hbl4
          have hnw := res_news (wc.setCell ⟨w.heap.size + 1 + 1, 0, none⟩ (.slice X' zs.length cx')) had ok
          simp only [World.size_setCell] at hnw
          go_wp2_with (at_builtin; go_must (refine wpList_append_own_at _ rfl (.tmp 35) (.tmp 37) _ rfl (w.heap.size + 1 + 1 + 1) 67 i0 _ 2 16 Try.underlying47 hi0 hz0 hz1 hz2 rfl (by omega) u8 k _ rfl hrow ⟨wc.heap.size, 0, none⟩ 1 1 [.int .i64 had, .bool ok] rfl rfl hnw (res_one had ok) (by simp only [maxLen]; omega) (by omega) (by simp; omega) ?_; intro v9 w4 hrow4 hgrow4 _ _))
          go_roundw
          case rel =>
            obtain ⟨e1, e2, e3⟩ := hS.out
            obtain ⟨j0, j1, j2⟩ := HJ.out
            obtain ⟨hM4, hbl4⟩ := HM.out
            have hbl5 := (below_al hbl4 (.cells #[.int .i64 had, .bool ok] 67)).grown hgrow4 (by simp; omega) (fun j hj => by have := (World.ownsRow.lt hrow _ hj).1; omega)
            refine ⟨k + 1, X', cx', by omega, by go_num, hbl5, ?_, ?_, ?_, ?_, ?_, by rw [e3 HE.out]; exact HO.out⟩
            · exact (j0.alloc _).grown hgrow4 (fun e => by have := (World.ownsRow.lt hrow _ e.symm).1; omega)
            · exact (j1.alloc _).grown hgrow4 (fun e => by have := (World.ownsRow.lt hrow _ e.symm).1; omega)
            · exact (j2.alloc _).grown hgrow4 (fun e => by have := (World.ownsRow.lt hrow _ e.symm).1; omega)
            · rw [e1]
              exact (hM4.al (Nat.le_trans hMB hbl4.size) _).grown hrow hgrow4 (by omega) (by simp; omega) (by decide)
            · rw [e2]
              unfold OwnRes
              rw [List.length_append, hlen]
              simpa [resCells] using hrow4
          case measure => simp [intOf]; omega
        · have hn : (a.err zs.length != 0) = true := by simpa using he
          have c0 := k0.cell 0
          have c1 := k1.cell 0
          have f1 := k1.free 0
          simp at c0 c1
          go_wp2
          have hb5 := below_setB hbl3 (b := w.heap.size + 1) (by omega) 0 (.slice A zs.length c)
          have hbad : allErr zs l = a.err zs.length := by
            have := allErr_bad (l.take k) (l.drop (k + 1)) a zs HE.out he
            rwa [← hT.out] at this
          exact bodyPost_ret (v := .tuple #[memV A zs.length c, .slice none 0 0, .int .i64 (a.err zs.length)]) (by simp [results, Try.results40, go_sem, c1]) rfl (allOut_bad hbad he hMB HMM.out hb5)
    · obtain rfl : k = l.length := by omega
      rw [List.take_length] at hmem hres herr hcl
      have c2 := k2.cell 0
      have c1 := k1.cell 0
      have f1 := k1.free 0
      simp at c1 c2
      have HE := Lib.hid herr
      have HC := Lib.hid hcl
      have HX := Lib.hid (And.intro hmem hres)
      have hkl := k1.lt
      clear herr hcl hmem hres hl
      go_wp2
      have hb5 := below_setB hbl (b := w.heap.size + 1) (by omega) 0 (.slice X zs.length cx)
      have hr5 := own_keepSet HX.out.2 (p := ⟨w.heap.size + 1, 0, none⟩) (by simp) (.slice X zs.length cx)
      exact bodyPost_ret (v := .tuple #[memV X zs.length cx, u8, .int .i64 0]) (by simp [results, Try.results40, go_sem, c1]) rfl (allOut_ok HE.out (HX.out.1.far k1 (by decide) (by omega) 0 _) (own_lower hr5 (by omega)) hb5)
theorem memAt_own {w : World} {A : Option Addr} {n c : Nat} {zs : List Int} (h : MemAt w 0 A n c zs) (hn : 0 < n) : ∃ g, A = some ⟨g, 0, none⟩ ∧ OwnInts w 0 (.slice (some ⟨g, 0, none⟩) n c) zs := by
  rcases h.2 with h' | h'
  · obtain ⟨b, o, _, hb, _⟩ := h'.2 hn
    omega
  · obtain ⟨g, cap, he, _, _⟩ := World.ownsRow.form h' (by rw [h.1]; exact hn)
    injection he with he _ _
    subst he
    exact ⟨g, rfl, h'⟩
end Go.Proofs.Ytgjdjgainjedhaa
