/- The contract of the reference's Do, and both in one form. -/
import Derived.Test.YtdajnmmjmfhihaaMemR
namespace Go.Proofs.Ytdajnmmjmfhihaa
open Go.RowKit
attribute [local go_sem ↓] Go.wp_at_zero Go.wp_at_succ

/-- What one access comes to: the cells, what the cell had, whether it went, the code. -/
def Acc.cellsOut (a : Acc) (zs : List Int) : List Int := if a.err zs.length = 0 then a.make zs else zs
def Acc.valOut (a : Acc) (zs : List Int) : Int := if a.err zs.length = 0 then a.had zs else 0
def Acc.okOut (a : Acc) (zs : List Int) : Bool := if a.err zs.length = 0 then a.ok (a.had zs) else false
theorem Acc.cellsOut_length (a : Acc) (zs : List Int) : (a.cellsOut zs).length = zs.length := by unfold Acc.cellsOut; split <;> simp [Acc.make_length]

theorem sl_of_own {w : World} {base g n cap : Nat} {zs : List Int} (h : OwnInts w base (.slice (some ⟨g, 0, none⟩) n cap) zs) (hn : zs.length = n) : Sl w w.heap.size (some ⟨g, 0, none⟩) n (ints zs) := by
  subst hn
  refine ⟨by simp [ints], fun hp => ⟨g, 0, rfl, ?_, fun j u hu => ?_⟩⟩
  · obtain ⟨g', cap', he, _, hg⟩ := World.ownsRow.form h hp
    injection he with he
    injection he with he
    injection he with he
    omega
  · have hj : j < zs.length := by
      have := (List.getElem?_eq_some_iff.1 hu).1
      rwa [ints_length] at this
    rw [Nat.zero_add, World.ownsRow.cellAt h j (by omega)]
    exact hu

theorem own_slice {w : World} {base n : Nat} {e : TypeId} {sz : Nat} {v : Value} {xs : List Value} (h : w.ownsRow base e sz v n xs) : ∃ G cap, v = .slice G n cap := by
  rcases h.2 with ⟨rfl, rfl⟩ | ⟨g, cap, cur, rfl, _⟩
  · exact ⟨none, 0, rfl⟩
  · exact ⟨_, cap, rfl⟩
theorem own_keepSet {w : World} {base n : Nat} {e : TypeId} {sz : Nat} {v : Value} {xs : List Value} (h : w.ownsRow base e sz v n xs) {p : Addr} (hp : p.block < base) (u : Value) : (w.setCell p u).ownsRow base e sz v n xs :=
  ownsRow_setCell_below h hp u
theorem OwnInts.keepSet {w : World} {base : Nat} {v : Value} {zs : List Int} (h : OwnInts w base v zs) {p : Addr} (hp : p.block < base) (u : Value) : OwnInts (w.setCell p u) base v zs := ownsRow_setCell_below h hp u
theorem own_lower {w : World} {B B' n : Nat} {e : TypeId} {sz : Nat} {v : Value} {xs : List Value} (h : w.ownsRow B e sz v n xs) (hB : B' ≤ B) : w.ownsRow B' e sz v n xs := by
  rcases h.2 with h0 | ⟨g, cap, cur, h1, h2, h3⟩
  · exact ⟨h.1, .inl h0⟩
  · exact ⟨h.1, .inr ⟨g, cap, cur, h1, Nat.le_trans hB h2, h3⟩⟩
theorem own_sl {w : World} {base n cap : Nat} {G : Option Addr} {zs : List Int} (h : OwnInts w base (.slice G n cap) zs) (hn : zs.length = n) : Sl w w.heap.size G n (ints zs) := by
  subst hn
  rcases h.2 with ⟨h1, h2⟩ | ⟨g, cap', cur, h1, _⟩
  · have : zs = [] := List.eq_nil_of_length_eq_zero h2
    subst this
    exact Sl.nil _ _ _
  · injection h1 with h1 _ h3
    subst h1 h3
    exact sl_of_own h rfl
theorem own_keepb {w w' : World} {base n : Nat} {e : TypeId} {sz : Nat} {v : Value} {xs : List Value} (h : w.ownsRow base e sz v n xs) (hb : Below w.heap.size w w') : w'.ownsRow base e sz v n xs :=
  World.ownsRow.kept (row := none) h ⟨hb.os, hb.tape, hb.output, hb.size, fun k hk _ => hb.block k hk⟩ (by cases h' : v.ownBlock <;> simp)

/-- A memory's cells: in a row that lies below block B, or in one of the call's own, from B on. -/
def MemAt (w : World) (B : Nat) (X : Option Addr) (n c : Nat) (zs : List Int) : Prop := zs.length = n ∧ (Sl w B X n (ints zs) ∨ OwnInts w B (.slice X n c) zs)
section
variable {w w' : World} {B n c : Nat} {X : Option Addr} {zs : List Int}
theorem MemAt.sl (h : MemAt w B X n c zs) (hB : B ≤ w.heap.size) : Sl w w.heap.size X n (ints zs) := by
  rcases h.2 with h' | h'
  · exact h'.more hB
  · exact own_sl h' h.1
theorem MemAt.keep (h : MemAt w B X n c zs) (hB : B ≤ w.heap.size) (hb : Below w.heap.size w w') : MemAt w' B X n c zs := by
  refine ⟨h.1, ?_⟩
  rcases h.2 with h' | h'
  · exact .inl (h'.below (hb.mono hB))
  · exact .inr (own_keepb h' hb)
theorem MemAt.of_own {B' : Nat} (h : OwnInts w B' (.slice X n c) zs) (hn : zs.length = n) (hB : B ≤ B') : MemAt w B X n c zs := ⟨hn, .inr (own_lower h hB)⟩
theorem MemAt.of_sl (h : Sl w B X zs.length (ints zs)) : MemAt w B X zs.length c zs := ⟨rfl, .inl h⟩
end

def Did (B : Nat) (a : Acc) (zs : List Int) (w : World) (e : Ending) (w' : World) : Prop :=
  ∃ A c, e = .returned (.tuple #[memV A zs.length c, resV (a.valOut zs) (a.okOut zs), .int .i64 (a.err zs.length)]) ∧ MemAt w' B A zs.length c (a.cellsOut zs) ∧ Below w.heap.size w w'

theorem did_bad {a : Acc} {zs : List Int} {w w' : World} {A : Option Addr} {B c : Nat} (he : a.err zs.length ≠ 0) (h : MemAt w B A zs.length c zs) (hB : B ≤ w.heap.size) (hb : Below w.heap.size w w') :
    Did B a zs w (.returned (.tuple #[memV A zs.length c, resV 0 false, .int .i64 (a.err zs.length)])) w' := by
  refine ⟨A, c, by simp only [Acc.valOut, Acc.okOut, he, if_false], ?_, hb⟩
  simp only [Acc.cellsOut, he, if_false]
  exact h.keep hB hb
theorem did_ok {a : Acc} {zs : List Int} {w w' : World} {A : Option Addr} {B c : Nat} {had : Int} {ok : Bool} (he : a.err zs.length = 0) (h1 : a.had zs = had) (h2 : a.ok had = ok) (h : MemAt w' B A zs.length c (a.make zs)) (hb : Below w.heap.size w w') :
    Did B a zs w (.returned (.tuple #[memV A zs.length c, resV had ok, .int .i64 0])) w' := by
  subst h1
  refine ⟨A, c, by simp only [Acc.valOut, Acc.okOut, he, h2, if_true], ?_, hb⟩
  simp only [Acc.cellsOut, he, if_true]
  exact h

theorem do_any (A : Option Addr) (B c : Nat) (zs : List Int) (a : Acc) (w : World) (hB : B ≤ w.heap.size) (h : MemAt w B A zs.length c zs) (hm : zs.length ≤ 1000000) :
    Calls Try.prog 11 #[memV A zs.length c, accV a] w (Did B a zs w) := by
  by_cases he : a.err zs.length = 0
  · refine (do_ok A c zs a w (h.sl hB) hm he).mono ?_
    rintro e w' ⟨g, cap, rfl, hown, hb⟩
    exact did_ok he rfl rfl (MemAt.of_own hown (Acc.make_length a zs) hB) hb
  · refine (do_bad A c zs.length a w he).mono ?_
    rintro e w' ⟨rfl, hb⟩
    exact did_bad he h hB hb

def WithOk (zs : List Int) (w : World) (e : Ending) (w' : World) : Prop :=
  ∃ g cap, e = .returned (memV (some ⟨g, 0, none⟩) zs.length cap) ∧ OwnInts w' w.heap.size (.slice (some ⟨g, 0, none⟩) zs.length cap) zs ∧ Below w.heap.size w w'

theorem with_facts {w w' : World} {zs : List Int} {i g cap m : Nat} {cs : Array Value} (hown : w'.ownsRow w.heap.size 3 1 (.slice (some ⟨g, 0, none⟩) (0 + m) cap) (0 + m) ([] ++ ints zs))
    (hgrow : (((w.alloc (.cells cs 24)).alloc (.cells #[.slice none 0 0] 24)).alloc (.cells #[] 3)).grownBy w' (Value.ownBlock (.slice (some ⟨w.heap.size + 1 + 1, 0, none⟩) 0 0)))
    (hat : Value.ownBlock (.slice (some ⟨g, 0, none⟩) (0 + m) cap) = Value.ownBlock (.slice (some ⟨w.heap.size + 1 + 1, 0, none⟩) 0 0) ∨ Value.ownBlock (.slice (some ⟨g, 0, none⟩) (0 + m) cap) = some (((w.alloc (.cells cs 24)).alloc (.cells #[.slice none 0 0] 24)).alloc (.cells #[] 3)).heap.size) (hi : i < zs.length) :
    w'.cell? ⟨g, i, none⟩ = some (.int .i64 (zs.getD i 0)) ∧ w'.frozen? ⟨g, i, none⟩ = false ∧ w'.cell? ⟨w.heap.size + 1, 0, none⟩ = some (.slice none 0 0) ∧ w'.frozen? ⟨w.heap.size + 1, 0, none⟩ = false ∧ w.heap.size + 1 ≠ g := by
  have hl : m = zs.length := by
    have := hown.1
    simp [ints] at this
    omega
  subst hl
  have h1 : OwnInts w' w.heap.size (.slice (some ⟨g, 0, none⟩) zs.length cap) zs := by simpa [OwnInts] using hown
  have k := ((Bk.new (w.alloc (.cells cs 24)) (g := w.heap.size + 1) (by simp) 24 #[.slice none 0 0]).alloc (.cells #[] 3)).grown hgrow (by simp [Value.ownBlock])
  refine ⟨h1.at_ hi, World.ownsRow.frozenAt h1 i, k.cell 0, k.free 0, ?_⟩
  simp [Value.ownBlock] at hat
  omega

set_option maxHeartbeats 2000000 in
theorem with_any (A : Option Addr) (c : Nat) (zs : List Int) (i : Nat) (x : Int) (w : World) (h : Sl w w.heap.size A zs.length (ints zs)) (hi : i < zs.length) (hm : zs.length ≤ 1000000) :
    Calls Try.prog 23 #[memV A zs.length c, .int .i64 i, .int .i64 x] w (WithOk (zs.set i x) w) := by
  obtain ⟨i0, hi0, hz0, hz1, hz2⟩ := info_parts int_info
  obtain ⟨b, o, hA, hb, hc⟩ := h.2 (by omega)
  subst hA
  let W : World := ((w.alloc (.cells #[.slice (some ⟨b, o, none⟩) zs.length c] 24)).alloc (.cells #[.slice none 0 0] 24)).alloc (.cells #[] 3)
  have hown0 : W.ownsRow w.heap.size 3 1 (.slice (some ⟨w.heap.size + 1 + 1, 0, none⟩) 0 0) 0 [] :=
    ⟨rfl, .inr ⟨w.heap.size + 1 + 1, 0, #[], rfl, by omega, Bk.new _ (by simp) 3 #[], Nat.le_refl _, by simp [maxLen], rfl, rfl⟩⟩
  have hnews : ∀ j u, (ints zs)[j]? = some u → W.cell? ((⟨b, o, none⟩ : Addr).add j) = some u := by
    intro j u hu
    rw [Go.WideShapes.add_plain]
    exact (hb |> fun hb => (below_al (below_al (below_al (Below.refl w.heap.size w) _) _) _).cell (p := ⟨b, o + j, none⟩) hb).trans (hc j u hu)
  go_enter Try.func23, Try.ntmps23
  go_wp2_with (at_builtin; refine wpList_append_own_at _ rfl (.tmp 8) (.tmp 10) _ rfl w.heap.size 3 i0 _ 1 8 Try.underlying22 hi0 hz0 hz1 hz2 rfl (by omega) (.slice (some ⟨w.heap.size + 1 + 1, 0, none⟩) 0 0) 0 [] rfl hown0 ⟨b, o, none⟩ zs.length c (ints zs) rfl (by simp [ints]) hnews (ints_one zs) (by simp only [maxLen]; omega) (by omega) (by simp; omega) ?_; intro v' w' hown hgrow _ hat; go_must (obtain ⟨g, cap, rfl, hg1, hg2⟩ := World.ownsRow.form hown (by omega); have hw := with_facts (zs := zs) (i := i) hown hgrow hat hi; obtain ⟨q1, q2, q3, q4, q5⟩ := hw; have HO := Lib.hid hown; have HG := Lib.hid hgrow; have HA := Lib.hid hat; clear hown hgrow hat))
  refine bodyPost_ret (v := memV (some ⟨g, 0, none⟩) zs.length cap) (by simp [results, Try.results23, go_sem, q3]) rfl ⟨g, cap, by simp, ?_, ?_⟩
  · have h1 : OwnInts w' w.heap.size (.slice (some ⟨g, 0, none⟩) zs.length cap) zs := by simpa [OwnInts] using HO.out
    have h2 := (h1.stored i x).far (p := ⟨w.heap.size + 1, 0, none⟩) (by simpa using q5) (.slice (some ⟨g, 0, none⟩) zs.length cap)
    simpa using h2
  · refine below_set (below_set ?_ (by simpa using hg1) _) (by simp) _
    exact (below_al (below_al (below_al (Below.refl w.heap.size w) _) _) _).grown HG.out (by simp; omega) (fun k hk => by simp [Value.ownBlock] at hk; omega)

structure DoBoxes (A : Option Addr) (n c : Nat) (a : Acc) (w w1 : World) : Prop where
  bel : Below w.heap.size w w1
  k0 : Bk w1 w.heap.size 24 #[.slice A n c]
  k1 : Bk w1 (w.heap.size + 1) 26 #[.int .i64 a.kind, .int .i64 a.cell, .int .i64 a.old, .int .i64 a.new]
  k2 : Bk w1 (w.heap.size + 1 + 1) 24 #[.slice none 0 0]
  k3 : Bk w1 (w.heap.size + 1 + 1 + 1) 29 #[.int .i64 0, .bool false]
theorem doBoxes (A : Option Addr) (n c : Nat) (a : Acc) (w : World) : DoBoxes A n c a w ((((w.alloc (.cells #[.slice A n c] 24)).alloc (.cells #[.int .i64 a.kind, .int .i64 a.cell, .int .i64 a.old, .int .i64 a.new] 26)).alloc (.cells #[.slice none 0 0] 24)).alloc (.cells #[.int .i64 0, .bool false] 29)) :=
  ⟨below_al (below_al (below_al (below_al (Below.refl w.heap.size w) _) _) _) _, (((Bk.made w _ _).alloc _).alloc _).alloc _, ((Bk.new _ (by simp) _ _).alloc _).alloc _, (Bk.new _ (by simp) _ _).alloc _, Bk.new _ (by simp) _ _⟩
theorem DoBoxes.keep {A : Option Addr} {n c : Nat} {a : Acc} {w w1 w2 : World} (h : DoBoxes A n c a w w1) (hb : Below w1.heap.size w1 w2) : DoBoxes A n c a w w2 :=
  ⟨below_tr h.bel hb, h.k0.keep hb, h.k1.keep hb, h.k2.keep hb, h.k3.keep hb⟩

set_option maxHeartbeats 8000000 in
theorem rdo_good (A : Option Addr) (B c : Nat) (zs : List Int) (a : Acc) (w : World) (hB : B ≤ w.heap.size) (hM : MemAt w B A zs.length c zs) (hm : zs.length ≤ 1000000) (hr : a.right = true) (hc : a.cell < zs.length) :
    Calls Try.prog 12 #[memV A zs.length c, accV a] w (Did B a zs w) := by
  have h := hM.sl hB
  obtain ⟨k, cl, old, new⟩ := a
  have h0 : 0 ≤ cl := Acc.right_cell hr
  obtain ⟨i, rfl⟩ := Int.eq_ofNat_of_zero_le h0
  have hi : i < zs.length := by simpa using hc
  have hi2 : (i : Int) < zs.length := by omega
  obtain ⟨b, o, u, hA, hbb, hu, hcl0⟩ := h.at_ hi
  subst hA
  obtain ⟨had, hx, rfl⟩ := ints_get hu
  have hk : k = 1 ∨ k = 2 ∨ k = 3 ∨ k = 4 ∨ k = 5 := by simp [Acc.right] at hr; omega
  have HH := Lib.hid (show zs.getD i 0 = had by simp [hx])
  have HR := Lib.hid hr
  have HE : Hid (∀ k : Int, ({ kind := k, cell := (i : Int), old := old, new := new } : Acc).right = true → ({ kind := k, cell := (i : Int), old := old, new := new } : Acc).err zs.length = 0) := by
    intro k hk
    simp only [Acc.err, hk, if_true]
    rw [if_pos hi2]
  have HA : ∀ {k : Int}, ({ kind := k, cell := (i : Int), old := old, new := new } : Acc).had zs = had := by
    intro k
    show zs.getD ((i : Int).toNat) 0 = had
    rw [Int.toNat_natCast]
    exact HH.out
  have HS := Lib.hid (show zs.set i had = zs by rw [← HH.out]; simp [List.getElem?_eq_getElem hi])
  have HM := Lib.hid hM
  clear hr hc hx hu hM
  rcases hk with rfl | rfl | rfl | rfl | rfl
  · go_enter Try.func12, Try.ntmps12
    go_wp2_with fail
    refine (rright_any ⟨1, i, old, new⟩ _).mono ?_
    rintro e w1 ⟨rfl, hb1⟩
    rw [HR.out]
    have K := (doBoxes (some ⟨b, o, none⟩) zs.length c ⟨1, i, old, new⟩ w).keep hb1
    have hcl := (K.bel.cell (p := ⟨b, o + i, none⟩) hbb).trans hcl0
    have c0 := K.k0.cell 0
    have d0 := K.k1.cell 0
    have d1 := K.k1.cell 1
    have d2 := K.k1.cell 2
    have d3 := K.k1.cell 3
    have c2 := K.k2.cell 0
    have f2 := K.k2.free 0
    have c3 := K.k3.cell 0
    have c4 := K.k3.cell 1
    have f3 := K.k3.free 0
    have f4 := K.k3.free 1
    simp at c0 c2 c3 c4 d0 d1 d2 d3
    go_wp2
    refine bodyPost_ret (v := .tuple #[memV (some ⟨b, o, none⟩) zs.length c, resV had true, .int .i64 0]) (by simp [results, Try.results12, go_sem, c2, c3, c4]) rfl ?_
    have hbe := (below_set (below_set (below_set K.bel (p := ⟨w.heap.size + 1 + 1, 0, none⟩) (by simp; omega) (.slice (some ⟨b, o, none⟩) zs.length c)) (p := ⟨w.heap.size + 1 + 1 + 1, 0, none⟩) (by simp; omega) (.int .i64 had)) (p := ⟨w.heap.size + 1 + 1 + 1, 1, none⟩) (by simp; omega) (.bool true))
    refine did_ok (HE.out 1 HR.out) HA (by simp [Acc.ok]) ?_ hbe
    have e : ({ kind := 1, cell := (i : Int), old := old, new := new } : Acc).make zs = zs := by
      unfold Acc.make
      rw [HA]
      simp [Acc.next, HS.out]
    rw [e]
    exact HM.out.keep hB hbe
  · go_enter Try.func12, Try.ntmps12
    go_wp2_with fail
    refine (rright_any ⟨2, i, old, new⟩ _).mono ?_
    rintro e w1 ⟨rfl, hb1⟩
    rw [HR.out]
    have K := (doBoxes (some ⟨b, o, none⟩) zs.length c ⟨2, i, old, new⟩ w).keep hb1
    have hcl := (K.bel.cell (p := ⟨b, o + i, none⟩) hbb).trans hcl0
    have c0 := K.k0.cell 0
    have d0 := K.k1.cell 0
    have d1 := K.k1.cell 1
    have d2 := K.k1.cell 2
    have d3 := K.k1.cell 3
    have c2 := K.k2.cell 0
    have f2 := K.k2.free 0
    have c3 := K.k3.cell 0
    have c4 := K.k3.cell 1
    have f3 := K.k3.free 0
    have f4 := K.k3.free 1
    simp at c0 c2 c3 c4 d0 d1 d2 d3
    go_wp2_with fail
    refine (with_any (some ⟨b, o, none⟩) c zs i new w1 (h.keepb K.bel) hi hm).mono ?_
    rintro e w2 ⟨g, cap, rfl, hown, hb2⟩
    have K2 := K.keep hb2
    have hg1 : w.heap.size + 1 + 1 + 1 < g := by
      obtain ⟨g', cap', he, hg', _⟩ := World.ownsRow.form hown (by simp; omega)
      injection he with he
      injection he with he
      injection he with he
      have := K.k3.lt
      omega
    clear c0 d0 d1 d2 d3 c2 f2 c3 c4 f3 f4 hcl
    have c2 := K2.k2.cell 0
    have f2 := K2.k2.free 0
    have c3 := K2.k3.cell 0
    have c4 := K2.k3.cell 1
    have f3 := K2.k3.free 0
    have f4 := K2.k3.free 1
    simp at c2 c3 c4
    go_wp2
    refine bodyPost_ret (v := .tuple #[memV (some ⟨g, 0, none⟩) zs.length cap, resV had true, .int .i64 0]) (by simp [results, Try.results12, go_sem, c2, c3, c4]) rfl ?_
    have hbe := (below_set (below_set (below_set K2.bel (p := ⟨w.heap.size + 1 + 1, 0, none⟩) (by simp; omega) (.slice (some ⟨g, 0, none⟩) zs.length cap)) (p := ⟨w.heap.size + 1 + 1 + 1, 0, none⟩) (by simp; omega) (.int .i64 had)) (p := ⟨w.heap.size + 1 + 1 + 1, 1, none⟩) (by simp; omega) (.bool true))
    refine did_ok (HE.out 2 HR.out) HA (by simp [Acc.ok]) ?_ hbe
    have e : ({ kind := 2, cell := (i : Int), old := old, new := new } : Acc).make zs = zs.set i new := by
      unfold Acc.make
      rw [HA]
      simp [Acc.next]
    rw [e]
    have hfar := (((hown.far (p := ⟨w.heap.size + 1 + 1, 0, none⟩) (by simp; omega) (.slice (some ⟨g, 0, none⟩) zs.length cap)).far (p := ⟨w.heap.size + 1 + 1 + 1, 0, none⟩) (by simp; omega) (.int .i64 had)).far (p := ⟨w.heap.size + 1 + 1 + 1, 1, none⟩) (by simp; omega) (.bool true))
    rw [List.length_set] at hfar
    exact MemAt.of_own hfar (by simp) (Nat.le_trans hB K.bel.size)
  · by_cases ho : had = old
    · subst ho
      have hob : (had != had) = false := by simp
      go_enter Try.func12, Try.ntmps12
      go_wp2_with fail
      refine (rright_any ⟨3, i, had, new⟩ _).mono ?_
      rintro e w1 ⟨rfl, hb1⟩
      rw [HR.out]
      have K := (doBoxes (some ⟨b, o, none⟩) zs.length c ⟨3, i, had, new⟩ w).keep hb1
      have hcl := (K.bel.cell (p := ⟨b, o + i, none⟩) hbb).trans hcl0
      have c0 := K.k0.cell 0
      have d0 := K.k1.cell 0
      have d1 := K.k1.cell 1
      have d2 := K.k1.cell 2
      have d3 := K.k1.cell 3
      have c2 := K.k2.cell 0
      have f2 := K.k2.free 0
      have c3 := K.k3.cell 0
      have c4 := K.k3.cell 1
      have f3 := K.k3.free 0
      have f4 := K.k3.free 1
      simp at c0 c2 c3 c4 d0 d1 d2 d3
      go_wp2_with fail
      refine (with_any (some ⟨b, o, none⟩) c zs i new w1 (h.keepb K.bel) hi hm).mono ?_
      rintro e w2 ⟨g, cap, rfl, hown, hb2⟩
      have K2 := K.keep hb2
      have hg1 : w.heap.size + 1 + 1 + 1 < g := by
        obtain ⟨g', cap', he, hg', _⟩ := World.ownsRow.form hown (by simp; omega)
        injection he with he
        injection he with he
        injection he with he
        have := K.k3.lt
        omega
      clear c0 d0 d1 d2 d3 c2 f2 c3 c4 f3 f4 hcl
      have c2 := K2.k2.cell 0
      have f2 := K2.k2.free 0
      have c3 := K2.k3.cell 0
      have c4 := K2.k3.cell 1
      have f3 := K2.k3.free 0
      have f4 := K2.k3.free 1
      simp at c2 c3 c4
      go_wp2
      refine bodyPost_ret (v := .tuple #[memV (some ⟨g, 0, none⟩) zs.length cap, resV had true, .int .i64 0]) (by simp [results, Try.results12, go_sem, c2, c3, c4]) rfl ?_
      have hbe := (below_set (below_set (below_set K2.bel (p := ⟨w.heap.size + 1 + 1, 0, none⟩) (by simp; omega) (.slice (some ⟨g, 0, none⟩) zs.length cap)) (p := ⟨w.heap.size + 1 + 1 + 1, 0, none⟩) (by simp; omega) (.int .i64 had)) (p := ⟨w.heap.size + 1 + 1 + 1, 1, none⟩) (by simp; omega) (.bool true))
      refine did_ok (HE.out 3 HR.out) HA (by simp [Acc.ok]) ?_ hbe
      have e : ({ kind := 3, cell := (i : Int), old := had, new := new } : Acc).make zs = zs.set i new := by
        unfold Acc.make
        rw [HA]
        simp [Acc.next]
      rw [e]
      have hfar := (((hown.far (p := ⟨w.heap.size + 1 + 1, 0, none⟩) (by simp; omega) (.slice (some ⟨g, 0, none⟩) zs.length cap)).far (p := ⟨w.heap.size + 1 + 1 + 1, 0, none⟩) (by simp; omega) (.int .i64 had)).far (p := ⟨w.heap.size + 1 + 1 + 1, 1, none⟩) (by simp; omega) (.bool true))
      rw [List.length_set] at hfar
      exact MemAt.of_own hfar (by simp) (Nat.le_trans hB K.bel.size)
    · have hob : (had != old) = true := by simpa using ho
      go_enter Try.func12, Try.ntmps12
      go_wp2_with fail
      refine (rright_any ⟨3, i, old, new⟩ _).mono ?_
      rintro e w1 ⟨rfl, hb1⟩
      rw [HR.out]
      have K := (doBoxes (some ⟨b, o, none⟩) zs.length c ⟨3, i, old, new⟩ w).keep hb1
      have hcl := (K.bel.cell (p := ⟨b, o + i, none⟩) hbb).trans hcl0
      have c0 := K.k0.cell 0
      have d0 := K.k1.cell 0
      have d1 := K.k1.cell 1
      have d2 := K.k1.cell 2
      have d3 := K.k1.cell 3
      have c2 := K.k2.cell 0
      have f2 := K.k2.free 0
      have c3 := K.k3.cell 0
      have c4 := K.k3.cell 1
      have f3 := K.k3.free 0
      have f4 := K.k3.free 1
      simp at c0 c2 c3 c4 d0 d1 d2 d3
      go_wp2
      refine bodyPost_ret (v := .tuple #[memV (some ⟨b, o, none⟩) zs.length c, resV had false, .int .i64 0]) (by simp [results, Try.results12, go_sem, c2, c3, c4]) rfl ?_
      have hbe := (below_set (below_set (below_set K.bel (p := ⟨w.heap.size + 1 + 1, 0, none⟩) (by simp; omega) (.slice (some ⟨b, o, none⟩) zs.length c)) (p := ⟨w.heap.size + 1 + 1 + 1, 0, none⟩) (by simp; omega) (.int .i64 had)) (p := ⟨w.heap.size + 1 + 1 + 1, 1, none⟩) (by simp; omega) (.bool false))
      refine did_ok (HE.out 3 HR.out) HA (by simp [Acc.ok, ho]) ?_ hbe
      have e : ({ kind := 3, cell := (i : Int), old := old, new := new } : Acc).make zs = zs := by
        unfold Acc.make
        rw [HA]
        simp [Acc.next, ho, HS.out]
      rw [e]
      exact HM.out.keep hB hbe
  · go_enter Try.func12, Try.ntmps12
    go_wp2_with fail
    refine (rright_any ⟨4, i, old, new⟩ _).mono ?_
    rintro e w1 ⟨rfl, hb1⟩
    rw [HR.out]
    have K := (doBoxes (some ⟨b, o, none⟩) zs.length c ⟨4, i, old, new⟩ w).keep hb1
    have hcl := (K.bel.cell (p := ⟨b, o + i, none⟩) hbb).trans hcl0
    have c0 := K.k0.cell 0
    have d0 := K.k1.cell 0
    have d1 := K.k1.cell 1
    have d2 := K.k1.cell 2
    have d3 := K.k1.cell 3
    have c2 := K.k2.cell 0
    have f2 := K.k2.free 0
    have c3 := K.k3.cell 0
    have c4 := K.k3.cell 1
    have f3 := K.k3.free 0
    have f4 := K.k3.free 1
    simp at c0 c2 c3 c4 d0 d1 d2 d3
    go_wp2_with fail
    refine (with_any (some ⟨b, o, none⟩) c zs i (wrap64 (had + new)) w1 (h.keepb K.bel) hi hm).mono ?_
    rintro e w2 ⟨g, cap, rfl, hown, hb2⟩
    have K2 := K.keep hb2
    have hg1 : w.heap.size + 1 + 1 + 1 < g := by
      obtain ⟨g', cap', he, hg', _⟩ := World.ownsRow.form hown (by simp; omega)
      injection he with he
      injection he with he
      injection he with he
      have := K.k3.lt
      omega
    clear c0 d0 d1 d2 d3 c2 f2 c3 c4 f3 f4 hcl
    have c2 := K2.k2.cell 0
    have f2 := K2.k2.free 0
    have c3 := K2.k3.cell 0
    have c4 := K2.k3.cell 1
    have f3 := K2.k3.free 0
    have f4 := K2.k3.free 1
    simp at c2 c3 c4
    go_wp2
    refine bodyPost_ret (v := .tuple #[memV (some ⟨g, 0, none⟩) zs.length cap, resV had true, .int .i64 0]) (by simp [results, Try.results12, go_sem, c2, c3, c4]) rfl ?_
    have hbe := (below_set (below_set (below_set K2.bel (p := ⟨w.heap.size + 1 + 1, 0, none⟩) (by simp; omega) (.slice (some ⟨g, 0, none⟩) zs.length cap)) (p := ⟨w.heap.size + 1 + 1 + 1, 0, none⟩) (by simp; omega) (.int .i64 had)) (p := ⟨w.heap.size + 1 + 1 + 1, 1, none⟩) (by simp; omega) (.bool true))
    refine did_ok (HE.out 4 HR.out) HA (by simp [Acc.ok]) ?_ hbe
    have e : ({ kind := 4, cell := (i : Int), old := old, new := new } : Acc).make zs = zs.set i (wrap64 (had + new)) := by
      unfold Acc.make
      rw [HA]
      simp [Acc.next]
    rw [e]
    have hfar := (((hown.far (p := ⟨w.heap.size + 1 + 1, 0, none⟩) (by simp; omega) (.slice (some ⟨g, 0, none⟩) zs.length cap)).far (p := ⟨w.heap.size + 1 + 1 + 1, 0, none⟩) (by simp; omega) (.int .i64 had)).far (p := ⟨w.heap.size + 1 + 1 + 1, 1, none⟩) (by simp; omega) (.bool true))
    rw [List.length_set] at hfar
    exact MemAt.of_own hfar (by simp) (Nat.le_trans hB K.bel.size)
  · go_enter Try.func12, Try.ntmps12
    go_wp2_with fail
    refine (rright_any ⟨5, i, old, new⟩ _).mono ?_
    rintro e w1 ⟨rfl, hb1⟩
    rw [HR.out]
    have K := (doBoxes (some ⟨b, o, none⟩) zs.length c ⟨5, i, old, new⟩ w).keep hb1
    have hcl := (K.bel.cell (p := ⟨b, o + i, none⟩) hbb).trans hcl0
    have c0 := K.k0.cell 0
    have d0 := K.k1.cell 0
    have d1 := K.k1.cell 1
    have d2 := K.k1.cell 2
    have d3 := K.k1.cell 3
    have c2 := K.k2.cell 0
    have f2 := K.k2.free 0
    have c3 := K.k3.cell 0
    have c4 := K.k3.cell 1
    have f3 := K.k3.free 0
    have f4 := K.k3.free 1
    simp at c0 c2 c3 c4 d0 d1 d2 d3
    go_wp2_with fail
    refine (with_any (some ⟨b, o, none⟩) c zs i new w1 (h.keepb K.bel) hi hm).mono ?_
    rintro e w2 ⟨g, cap, rfl, hown, hb2⟩
    have K2 := K.keep hb2
    have hg1 : w.heap.size + 1 + 1 + 1 < g := by
      obtain ⟨g', cap', he, hg', _⟩ := World.ownsRow.form hown (by simp; omega)
      injection he with he
      injection he with he
      injection he with he
      have := K.k3.lt
      omega
    clear c0 d0 d1 d2 d3 c2 f2 c3 c4 f3 f4 hcl
    have c2 := K2.k2.cell 0
    have f2 := K2.k2.free 0
    have c3 := K2.k3.cell 0
    have c4 := K2.k3.cell 1
    have f3 := K2.k3.free 0
    have f4 := K2.k3.free 1
    simp at c2 c3 c4
    go_wp2
    refine bodyPost_ret (v := .tuple #[memV (some ⟨g, 0, none⟩) zs.length cap, resV had true, .int .i64 0]) (by simp [results, Try.results12, go_sem, c2, c3, c4]) rfl ?_
    have hbe := (below_set (below_set (below_set K2.bel (p := ⟨w.heap.size + 1 + 1, 0, none⟩) (by simp; omega) (.slice (some ⟨g, 0, none⟩) zs.length cap)) (p := ⟨w.heap.size + 1 + 1 + 1, 0, none⟩) (by simp; omega) (.int .i64 had)) (p := ⟨w.heap.size + 1 + 1 + 1, 1, none⟩) (by simp; omega) (.bool true))
    refine did_ok (HE.out 5 HR.out) HA (by simp [Acc.ok]) ?_ hbe
    have e : ({ kind := 5, cell := (i : Int), old := old, new := new } : Acc).make zs = zs.set i new := by
      unfold Acc.make
      rw [HA]
      simp [Acc.next]
    rw [e]
    have hfar := (((hown.far (p := ⟨w.heap.size + 1 + 1, 0, none⟩) (by simp; omega) (.slice (some ⟨g, 0, none⟩) zs.length cap)).far (p := ⟨w.heap.size + 1 + 1 + 1, 0, none⟩) (by simp; omega) (.int .i64 had)).far (p := ⟨w.heap.size + 1 + 1 + 1, 1, none⟩) (by simp; omega) (.bool true))
    rw [List.length_set] at hfar
    exact MemAt.of_own hfar (by simp) (Nat.le_trans hB K.bel.size)

set_option maxHeartbeats 4000000 in
theorem rdo_any (A : Option Addr) (B c : Nat) (zs : List Int) (a : Acc) (w : World) (hB : B ≤ w.heap.size) (hM : MemAt w B A zs.length c zs) (hm : zs.length ≤ 1000000) :
    Calls Try.prog 12 #[memV A zs.length c, accV a] w (Did B a zs w) := by
  cases hr : a.right
  · have he : a.err zs.length = 1 := by simp [Acc.err, hr]
    have HE := Lib.hid he
    clear he
    go_enter Try.func12, Try.ntmps12
    go_wp2_with fail
    refine (rright_any a _).mono ?_
    rintro e w1 ⟨rfl, hb1⟩
    have K := (doBoxes A zs.length c a w).keep hb1
    have c0 := K.k0.cell 0
    have c2 := K.k2.cell 0
    have f2 := K.k2.free 0
    have c3 := K.k3.cell 0
    have c4 := K.k3.cell 1
    have f3 := K.k3.free 0
    have f4 := K.k3.free 1
    simp at c0 c2 c3 c4
    go_wp2
    have hbad := did_bad (w := w) (c := c) (by rw [HE.out]; omega) hM hB (below_set (below_set (below_set K.bel (p := ⟨w.heap.size + 1 + 1, 0, none⟩) (by simp; omega) (.slice A zs.length c)) (p := ⟨w.heap.size + 1 + 1 + 1, 0, none⟩) (by simp; omega) (.int .i64 0)) (p := ⟨w.heap.size + 1 + 1 + 1, 1, none⟩) (by simp; omega) (.bool false))
    rw [HE.out] at hbad
    exact bodyPost_ret (v := .tuple #[memV A zs.length c, resV 0 false, .int .i64 1]) (by simp [results, Try.results12, go_sem, c2, c3, c4]) rfl hbad
  · have hc0 := Acc.right_cell hr
    by_cases hc : a.cell < zs.length
    · exact rdo_good A B c zs a w hB hM hm hr hc
    · have he : a.err zs.length = 12 := by simp [Acc.err, hr, hc]
      have HE := Lib.hid he
      clear he
      go_enter Try.func12, Try.ntmps12
      go_wp2_with fail
      refine (rright_any a _).mono ?_
      rintro e w1 ⟨rfl, hb1⟩
      have K := (doBoxes A zs.length c a w).keep hb1
      have c0 := K.k0.cell 0
      have d1 := K.k1.cell 1
      have c2 := K.k2.cell 0
      have f2 := K.k2.free 0
      have c3 := K.k3.cell 0
      have c4 := K.k3.cell 1
      have f3 := K.k3.free 0
      have f4 := K.k3.free 1
      simp at c0 c2 c3 c4 d1
      go_wp2
      have hbad := did_bad (w := w) (c := c) (by rw [HE.out]; omega) hM hB (below_set (below_set (below_set K.bel (p := ⟨w.heap.size + 1 + 1, 0, none⟩) (by simp; omega) (.slice A zs.length c)) (p := ⟨w.heap.size + 1 + 1 + 1, 0, none⟩) (by simp; omega) (.int .i64 0)) (p := ⟨w.heap.size + 1 + 1 + 1, 1, none⟩) (by simp; omega) (.bool false))
      rw [HE.out] at hbad
      exact bodyPost_ret (v := .tuple #[memV A zs.length c, resV 0 false, .int .i64 12]) (by simp [results, Try.results12, go_sem, c2, c3, c4]) rfl hbad
end Go.Proofs.Ytdajnmmjmfhihaa
