/- law15's wish. Printed by wish_gen.py. -/
import Derived.Test.YtbcgjolcfagboaaArN
import Derived.Test.YtbcgjolcfagboaaMemA
namespace Go.Proofs.Ytbcgjolcfagboaa
open Go.RowKit
set_option linter.unusedVariables false
attribute [local go_sem ↓] Go.wp_at_zero Go.wp_at_succ

/-- A slice of bytes. -/
def SlU8 (w : World) (B : Nat) (A : Option Addr) (l : List Nat) : Prop :=
  0 < l.length → ∃ b o, A = some ⟨b, o, none⟩ ∧ b < B ∧ ∀ k t, l[k]? = some t → w.cell? ⟨b, o + k, none⟩ = some (.int .u8 (t : Nat)) ∧ t < 256
theorem SlU8.below {w w' : World} {B : Nat} {A : Option Addr} {l : List Nat} (h : SlU8 w B A l) (hb : Below B w w') : SlU8 w' B A l := by
  intro hl
  obtain ⟨b, o, e, hbb, hc⟩ := h hl
  refine ⟨b, o, e, hbb, fun k a ha => ?_⟩
  obtain ⟨h1, h2⟩ := hc k a ha
  exact ⟨(hb.cell (p := ⟨b, _, none⟩) hbb).trans h1, h2⟩
theorem SlU8.more {w : World} {B B' : Nat} {A : Option Addr} {l : List Nat} (h : SlU8 w B A l) (hB : B ≤ B') : SlU8 w B' A l := by
  intro hl
  obtain ⟨b, o, e, hbb, hc⟩ := h hl
  exact ⟨b, o, e, Nat.lt_of_lt_of_le hbb hB, hc⟩

theorem int_rowT : ∃ i, RowT Try.prog 50 3 i (.int .i64 0) 1 8 := RowT.of Try.underlying50 int_info (by kernel_rfl) (by decide)
theorem Bk.keptB {w w' : World} {g base sz n : Nat} {t e : TypeId} {cs : Array Value} {v : Value} {xs : List Value} (k : Bk w g t cs) (hg : w.grownBy w' v.ownBlock) (ho : w.ownsRow base e sz v n xs) (hne : t ≠ e) : Bk w' g t cs := by
  refine (hg.block g k.lt (fun e' => ?_)).trans k
  rcases ho.2 with ⟨h1, _⟩ | ⟨g', cap, cur, h1, _, h3, _⟩
  · rw [h1] at e'; cases e'
  · rw [h1] at e'
    simp only [Value.ownBlock, Option.some.injEq] at e'
    have k' : w.heap[g]? = some (.cells cs t (0, 0)) := k
    rw [e', h3] at k'
    injection k' with k'
    injection k' with _ k' _
    exact hne k'.symm
theorem own_keptT0 {w w' : World} {g base sz n : Nat} {t e : TypeId} {cs : Array Value} {v : Value} {xs : List Value} (ho : w.ownsRow base e sz v n xs) (k : Bk w g t cs) (hne : t ≠ e) (hb : ∀ b, b ≠ g → w'.heap[b]? = w.heap[b]?) : w'.ownsRow base e sz v n xs := by
  refine ⟨ho.1, ?_⟩
  rcases ho.2 with h1 | ⟨g', cap, cur, h1, h2, h3, h4⟩
  · exact .inl h1
  · refine .inr ⟨g', cap, cur, h1, h2, ?_, h4⟩
    rw [hb g' (fun e' => ?_)]
    · exact h3
    · have k' : w.heap[g]? = some (.cells cs t (0, 0)) := k
      rw [e'] at h3
      rw [h3] at k'
      injection k' with k'
      injection k' with _ k' _
      exact hne k'.symm
/-- A seat's wish, and what it has then: what it had, or a row of its own. -/
def WishPost (want : List Nat) (next : Nat) (has : List Int) (H : Option Addr) (hc : Nat) (w : World) (e : Ending) (w' : World) : Prop :=
  ∃ G cap, e = .returned (.tuple #[.agg (oprC (wishR want next has).1), .slice G (wishR want next has).2.length cap]) ∧ Below w.heap.size w w' ∧
    ((G = H ∧ cap = hc ∧ (wishR want next has).2 = has) ∨ OwnInts w' w.heap.size (.slice G (wishR want next has).2.length cap) (wishR want next has).2)
theorem ints_take_drop {has : List Int} (k : Nat) (hk : k < has.length) : (ints has).take k ++ (ints has).drop (k + 1) = ints (has.take k ++ has.drop (k + 1)) := by simp [ints]
set_option maxRecDepth 100000 in
set_option maxHeartbeats 4000000 in
theorem wish_any (W : Option Addr) (c : Nat) (want : List Nat) (next : Nat) (H : Option Addr) (hc : Nat) (has : List Int) (w : World) (hW : SlU8 w w.heap.size W want) (hn : next ≤ 100000) (hH : OwnInts w 0 (.slice H has.length hc) has) (hh : has.length ≤ 1000) :
    Calls Try.prog 30 #[.slice W want.length c, .int .i64 (next : Nat), .slice H has.length hc] w (WishPost want next has H hc w) := by
  have ko := Bk.made w 39 #[.int .i64 0, .int .i64 0, .int .i64 0, .int .i64 0]
  have hbl := below_al (Below.refl w.heap.size w) (.cells #[.int .i64 0, .int .i64 0, .int .i64 0, .int .i64 0] 39)
  cases hx : want[next]? with
  | none =>
    have hge := List.getElem?_eq_none_iff.1 hx
    have e1 : wishR want next has = (op0, has) := by unfold wishR; rw [hx]
    have HE := Lib.hid e1
    have g1 : decide ((want.length : Int) ≤ next) = true := by simp; omega
    have g2 : decide (want.length ≤ next) = true := by simp; omega
    clear hx e1 hge
    go_enter Try.func30, Try.ntmps30
    go_wp2_with (refine wpList_store_rowTo rfl 39 (.tmp 6) (.tmp 14) rfl rfl w.heap.size #[.int .i64 0, .int .i64 0, .int .i64 0, .int .i64 0] rfl rfl 39 #[.int .i64 0, .int .i64 0, .int .i64 0, .int .i64 0] ko (by kernel_rfl) rfl (by simp [Value.oneCell']) ?_)
    have kf := setRow_heap _ _ #[.int .i64 0, .int .i64 0, .int .i64 0, .int .i64 0] #[.int .i64 0, .int .i64 0, .int .i64 0, .int .i64 0] 39 (0, 0) ko
    refine bodyPost_ret (v := .tuple #[.agg #[.int .i64 0, .int .i64 0, .int .i64 0, .int .i64 0], .slice H has.length hc]) (results_cell_tmp (p := 6) (t := 7) (ty := 39) rfl _ _ w.heap.size 39 _ (0, 0) _ _ rfl rfl kf Try.underlying39 rfl (by kernel_rfl)) rfl ?_
    refine ⟨H, hc, ?_, below_setRow hbl (Nat.le_refl _) _, .inl ⟨rfl, rfl, ?_⟩⟩
    · rw [HE.out]
    · rw [HE.out]
  | some x =>
    have hlt := (List.getElem?_eq_some_iff.1 hx).1
    obtain ⟨bW, oW, rfl, hbW, hcW⟩ := hW (by omega)
    obtain ⟨q1, q2⟩ := hcW next x hx
    have g1 : decide ((want.length : Int) ≤ next) = false := by simp; omega
    have g2 : decide (want.length ≤ next) = false := by simp; omega
    have g3 : (next : Int) < want.length := by omega
    have q1' : (w.alloc (.cells #[.int .i64 0, .int .i64 0, .int .i64 0, .int .i64 0] 39)).cell? ⟨bW, oW + next, none⟩ = some (.int .u8 (x : Nat)) := (World.cell?_alloc_lt _ _ _ hbW).trans q1
    by_cases hg : x % 3 = 2 ∧ 0 < has.length
    · obtain ⟨hg1, hg2⟩ := hg
      obtain ⟨kk, hkk⟩ : ∃ n, x / 3 % has.length = n := ⟨_, rfl⟩
      have hkl : kk < has.length := by rw [← hkk]; exact Nat.mod_lt _ hg2
      have e1 : wishR want next has = (⟨2, 0, has.getD kk 0, 0⟩, has.take kk ++ has.drop (kk + 1)) := by unfold wishR; rw [hx]; dsimp only; rw [if_pos ⟨hg1, hg2⟩, hkk]
      have HE := Lib.hid e1
      have m1 : (x : Int) % 3 = 2 := by omega
      have m2 : (x : Int) / 3 % (has.length : Nat) = (kk : Nat) := by rw [← hkk]; rfl
      have m3 : (0 : Int) < has.length := by omega
      obtain ⟨gH, capH, cur, e2, e3, e4, e5, e6, e7, e8⟩ : ∃ g cap cur, Value.slice H has.length hc = .slice (some ⟨g, 0, none⟩) has.length cap ∧ 0 ≤ g ∧ w.heap[g]? = some (.cells cur 3 (0, 0)) ∧ has.length ≤ cap ∧ cap ≤ maxLen ∧ cur.size = cap * 1 ∧ cur.toList.take (has.length * 1) = ints has := by
        rcases hH.2 with ⟨h1, h2⟩ | h2
        · omega
        · exact h2
      injection e2 with e2 e9 e10
      subst e2 e10
      have hcells : ∀ j : Nat, j < has.length → w.cell? ⟨gH, j, none⟩ = some (.int .i64 (has.getD j 0)) := fun j hj => by
        rw [World.ownsRow.cellAt hH j (by omega)]
        simp [ints, List.getElem?_eq_getElem hj]
      have zH : gH < w.heap.size := (Array.getElem?_eq_some_iff.1 e4).1
      have hck := hcells kk hkl
      obtain ⟨ev, hev⟩ : ∃ z, has.getD kk 0 = z := ⟨_, rfl⟩
      obtain ⟨nB, hnB⟩ : ∃ n, has.length - (kk + 1) = n := ⟨_, rfl⟩
      rw [hev] at hck
      have HEV := Lib.hid (And.intro hev hnB)
      have hnb1 : nB ≤ 1000 := by omega
      clear hev hnB
      have HH := Lib.hid (And.intro hH hcells)
      have hmx : hc ≤ 9223372036854775807 := by unfold maxLen at e6; omega
      clear hx e1 hkk hcW hW q1 hH hcells e3 e4 e6 e7 e8 e9
      go_enter Try.func30, Try.ntmps30
      go_upto_region 6 with fail
      rw [m2]
      clear q1' g1 g2 g3 m1 m2
      generalize w.alloc (.cells #[.int .i64 0, .int .i64 0, .int .i64 0, .int .i64 0] 39) = w1 at *
      obtain ⟨go, hgo⟩ : ∃ g, w.heap.size = g := ⟨_, rfl⟩
      rw [hgo] at ko ⊢
      refine wp_region_E (S := fun w' => Below w.heap.size w w') (E := fun _ => false) (by kernel_rfl) ?_
      replace ko := ko.drew
      replace hbl := hbl.drew
      generalize w1.drew = w2 at *
      obtain ⟨ri, hri⟩ := int_rowT
      refine wpAnyE_take (i := 0) (oi := _) (v := .slice (some ⟨gH, 0, none⟩) has.length hc) rfl (by kernel_rfl) (by kernel_rfl) (by kernel_rfl) (by kernel_rfl) (fun _ _ _ h => h) (Or.inl ⟨by rfl, ?_⟩) hbl ?_
      · intro w' hSw
        (try simp only [List.getElem_toArray, List.getElem_cons_zero])
        go_simp
      (try simp only [List.getElem_toArray, List.getElem_cons_zero, Act.put, List.setIfInBounds_toArray, List.set_cons_zero, List.set_cons_succ])
      refine wpAnyE_take (i := 1) (oi := _) (v := .int .i64 (kk : Nat)) rfl (by kernel_rfl) (by kernel_rfl) (by kernel_rfl) (by kernel_rfl) (fun _ _ _ h => h) (Or.inl ⟨by rfl, ?_⟩) hbl ?_
      · intro w' hSw
        (try simp only [List.getElem_toArray, List.getElem_cons_succ, List.getElem_cons_zero])
        go_simp
      (try simp only [List.getElem_toArray, List.getElem_cons_succ, List.getElem_cons_zero, Act.put, List.setIfInBounds_toArray, List.set_cons_zero, List.set_cons_succ])
      refine wpAnyE_take (i := 2) (oi := _) (v := .pointer (some ⟨gH, kk, none⟩)) rfl (by kernel_rfl) (by kernel_rfl) (by kernel_rfl) (by kernel_rfl) (fun _ _ _ h => h) (Or.inl ⟨by rfl, ?_⟩) hbl ?_
      · intro w' hSw
        have g3 : (kk : Int) < has.length := by omega
        (try simp only [List.getElem_toArray, List.getElem_cons_succ, List.getElem_cons_zero])
        go_simp
      (try simp only [List.getElem_toArray, List.getElem_cons_succ, List.getElem_cons_zero, Act.put, List.setIfInBounds_toArray, List.set_cons_zero, List.set_cons_succ])
      refine wpAnyE_take (i := 3) (oi := _) (v := .int .i64 ev) rfl (by kernel_rfl) (by kernel_rfl) (by kernel_rfl) (by kernel_rfl) (fun _ _ _ h => h) (Or.inl ⟨by rfl, ?_⟩) hbl ?_
      · intro w' hSw
        have s1 := cell_keep hSw hck
        (try simp at s1)
        (try simp only [List.getElem_toArray, List.getElem_cons_succ, List.getElem_cons_zero])
        go_simp
      (try simp only [List.getElem_toArray, List.getElem_cons_succ, List.getElem_cons_zero, Act.put, List.setIfInBounds_toArray, List.set_cons_zero, List.set_cons_succ])
      refine wpAnyE_take (i := 4) (oi := _) (v := .agg #[.int .i64 2, .int .i64 0, .int .i64 ev, .int .i64 0]) rfl (by kernel_rfl) (by kernel_rfl) (by kernel_rfl) (by kernel_rfl) (fun _ _ _ h => h) (Or.inl ⟨by rfl, ?_⟩) hbl ?_
      · intro w' hSw
        (try simp only [List.getElem_toArray, List.getElem_cons_succ, List.getElem_cons_zero])
        go_simp
      (try simp only [List.getElem_toArray, List.getElem_cons_succ, List.getElem_cons_zero, Act.put, List.setIfInBounds_toArray, List.set_cons_zero, List.set_cons_succ])
      refine wpAnyE_take (i := 6) (oi := _) (v := .slice (some ⟨gH, 0, none⟩) has.length hc) rfl (by kernel_rfl) (by kernel_rfl) (by kernel_rfl) (by kernel_rfl) (fun _ _ _ h => h) (Or.inl ⟨by rfl, ?_⟩) hbl ?_
      · intro w' hSw
        (try simp only [List.getElem_toArray, List.getElem_cons_succ, List.getElem_cons_zero])
        go_simp
      (try simp only [List.getElem_toArray, List.getElem_cons_succ, List.getElem_cons_zero, Act.put, List.setIfInBounds_toArray, List.set_cons_zero, List.set_cons_succ])
      refine wpAnyE_take (i := 7) (oi := _) (v := .int .i64 (kk : Nat)) rfl (by kernel_rfl) (by kernel_rfl) (by kernel_rfl) (by kernel_rfl) (fun _ _ _ h => h) (Or.inl ⟨by rfl, ?_⟩) hbl ?_
      · intro w' hSw
        (try simp only [List.getElem_toArray, List.getElem_cons_succ, List.getElem_cons_zero])
        go_simp
      (try simp only [List.getElem_toArray, List.getElem_cons_succ, List.getElem_cons_zero, Act.put, List.setIfInBounds_toArray, List.set_cons_zero, List.set_cons_succ])
      refine wpAnyE_take (i := 8) (oi := _) (v := .slice (some ⟨gH, 0, none⟩) kk hc) rfl (by kernel_rfl) (by kernel_rfl) (by kernel_rfl) (by kernel_rfl) (fun _ _ _ h => h) (Or.inl ⟨by rfl, ?_⟩) hbl ?_
      · intro w' hSw
        have g3 : (kk : Int) ≤ hc := by omega
        (try simp only [List.getElem_toArray, List.getElem_cons_succ, List.getElem_cons_zero])
        go_simp
      (try simp only [List.getElem_toArray, List.getElem_cons_succ, List.getElem_cons_zero, Act.put, List.setIfInBounds_toArray, List.set_cons_zero, List.set_cons_succ])
      refine wpAnyE_take (i := 10) (oi := _) (v := .slice (some ⟨gH, 0, none⟩) has.length hc) rfl (by kernel_rfl) (by kernel_rfl) (by kernel_rfl) (by kernel_rfl) (fun _ _ _ h => h) (Or.inl ⟨by rfl, ?_⟩) hbl ?_
      · intro w' hSw
        (try simp only [List.getElem_toArray, List.getElem_cons_succ, List.getElem_cons_zero])
        go_simp
      (try simp only [List.getElem_toArray, List.getElem_cons_succ, List.getElem_cons_zero, Act.put, List.setIfInBounds_toArray, List.set_cons_zero, List.set_cons_succ])
      refine wpAnyE_take (i := 11) (oi := _) (v := .int .i64 (kk : Nat)) rfl (by kernel_rfl) (by kernel_rfl) (by kernel_rfl) (by kernel_rfl) (fun _ _ _ h => h) (Or.inl ⟨by rfl, ?_⟩) hbl ?_
      · intro w' hSw
        (try simp only [List.getElem_toArray, List.getElem_cons_succ, List.getElem_cons_zero])
        go_simp
      (try simp only [List.getElem_toArray, List.getElem_cons_succ, List.getElem_cons_zero, Act.put, List.setIfInBounds_toArray, List.set_cons_zero, List.set_cons_succ])
      refine wpAnyE_take (i := 12) (oi := _) (v := .int .i64 ((kk : Int) + 1)) rfl (by kernel_rfl) (by kernel_rfl) (by kernel_rfl) (by kernel_rfl) (fun _ _ _ h => h) (Or.inl ⟨by rfl, ?_⟩) hbl ?_
      · intro w' hSw
        have hw1 : IntKind.i64.wrap ((kk : Int) + 1) = kk + 1 := IntWalk.i64_in _ (by omega)
        (try simp only [List.getElem_toArray, List.getElem_cons_succ, List.getElem_cons_zero])
        go_simp
      (try simp only [List.getElem_toArray, List.getElem_cons_succ, List.getElem_cons_zero, Act.put, List.setIfInBounds_toArray, List.set_cons_zero, List.set_cons_succ])
      by_cases hcp : kk + 1 = hc
      · refine wpAnyE_take (i := 13) (oi := _) (v := .slice (some ⟨gH, 0, none⟩) 0 0) rfl (by kernel_rfl) (by kernel_rfl) (by kernel_rfl) (by kernel_rfl) (fun _ _ _ h => h) (Or.inl ⟨by rfl, ?_⟩) hbl ?_
        · intro w' hSw
          have g3 : (kk : Int) + 1 ≤ has.length := by omega
          have g5 : (has.length : Int) ≤ hc := by omega
          have g4 : kk + 1 = hc := hcp
          have g6 : (0 : Int) ≤ (kk : Int) + 1 := by omega
          have g7 : ((kk : Int) + 1 < 0) = False := by simp; omega
          have g8 : has.length = hc := by omega
          have g9 : ((hc : Int) < (kk : Int) + 1) = False := by simp; omega
          (try simp only [List.getElem_toArray, List.getElem_cons_succ, List.getElem_cons_zero])
          go_simp
        (try simp only [List.getElem_toArray, List.getElem_cons_succ, List.getElem_cons_zero, Act.put, List.setIfInBounds_toArray, List.set_cons_zero, List.set_cons_succ])
        have hsA : Src w w.heap.size 1 (some ⟨gH, 0, none⟩) kk hc ((ints has).take kk) := by
          refine ⟨by simp [ints]; omega, .inr ⟨gH, 0, rfl, zH, fun j u hu => ?_⟩⟩
          rw [List.getElem?_take] at hu
          split at hu
          · rename_i hj
            have hj2 : j < has.length := by omega
            rw [Nat.zero_add, HH.out.2 j hj2]
            simpa [ints, List.getElem?_eq_getElem hj2] using hu
          · cases hu
        have hsB : Src w w.heap.size 1 (some ⟨gH, 0, none⟩) 0 0 ((ints has).drop (kk + 1)) := by
          refine ⟨by have := HEV.out.2; simp [ints]; omega, .inr ⟨gH, 0, rfl, zH, fun j u hu => ?_⟩⟩
          rw [List.getElem?_drop] at hu
          have hj := (List.getElem?_eq_some_iff.1 hu).1
          simp only [ints, List.length_map] at hj
          omega
        have h1A : ∀ u ∈ (ints has).take kk, u.oneCell' = true := fun u hu => ints_one has u (List.mem_of_mem_take hu)
        have h1B : ∀ u ∈ (ints has).drop (kk + 1), u.oneCell' = true := fun u hu => ints_one has u (List.mem_of_mem_drop hu)
        refine wpAnyE_one (i := 5) (o := _) (by kernel_rfl) rfl (fun K hK => ?_)
        rw [if_pos (by rfl)]
        refine oper_build0 hri rfl ?_
        have hA := own_empty (e := 3) (size := 1) w2 w.heap.size hbl.size
        have zgo : go < w2.heap.size := ko.lt
        replace ko := ko.alloc (.cells #[] 3)
        replace hbl := below_al hbl (.cells #[] 3)
        refine hK.out _ _ (fun _ => hbl) ?_
        clear hK K
        (try simp only [List.getElem_toArray, List.getElem_cons_succ, List.getElem_cons_zero, Act.put, List.setIfInBounds_toArray, List.set_cons_zero, List.set_cons_succ])
        generalize w2.alloc (.cells #[] 3) = w3 at *
        generalize w2.heap.size = gA at *
        refine wpAnyE_one (i := 9) (o := _) (by kernel_rfl) rfl (fun K hK => ?_)
        rw [if_pos (by rfl)]
        refine oper_append hri (.tmp 39) (.tmp 42) rfl w.heap.size (.slice (some ⟨gA, 0, none⟩) 0 0) 0 [] rfl hA (B := w.heap.size) (some ⟨gH, 0, none⟩) kk hc ((ints has).take kk) rfl (hsA.below hbl) h1A (by omega) (by omega) hbl.size ?_
        intro vB w4 hB hg
        have hk4 := below_grow hbl hA hg hbl.size (Nat.le_refl _)
        replace ko : Bk w4 go 39 #[.int .i64 0, .int .i64 0, .int .i64 0, .int .i64 0] := (hg.block go ko.lt (fun e => by simp only [Value.ownBlock, Option.some.injEq] at e; omega)).trans ko
        rw [Nat.zero_add, List.nil_append] at hB
        clear hbl hA hg
        refine hK.out _ _ (fun _ => hk4) ?_
        clear hK K
        (try simp only [List.getElem_toArray, List.getElem_cons_succ, List.getElem_cons_zero, Act.put, List.setIfInBounds_toArray, List.set_cons_zero, List.set_cons_succ])
        refine wpAnyE_one (i := 14) (o := _) (by kernel_rfl) rfl (fun K hK => ?_)
        rw [if_pos (by rfl)]
        refine oper_append hri (.tmp 43) (.tmp 47) rfl w.heap.size vB kk ((ints has).take kk) rfl hB (B := w.heap.size) (some ⟨gH, 0, none⟩) 0 0 ((ints has).drop (kk + 1)) rfl (hsB.below hk4) h1B (by omega) (by omega) hk4.size ?_
        intro vC w5 hC hg
        have hk5 := below_grow hk4 hB hg hk4.size (Nat.le_refl _)
        replace ko : Bk w5 go 39 #[.int .i64 0, .int .i64 0, .int .i64 0, .int .i64 0] := ko.keptB hg hB (by decide)
        obtain ⟨GC, cC, rfl⟩ := own_slice hC
        clear hk4 hB hg
        refine hK.out _ _ (fun _ => hk5) ?_
        clear hK K
        (try simp only [List.getElem_toArray, List.getElem_cons_succ, List.getElem_cons_zero, Act.put, List.setIfInBounds_toArray, List.set_cons_zero, List.set_cons_succ])
        refine wpAnyE_one (i := 15) (o := _) (by kernel_rfl) rfl (fun K hK => ?_)
        rw [if_pos (by rfl)]
        refine wp_store_row 39 (.tmp 6) (.tmp 38) rfl go #[.int .i64 2, .int .i64 0, .int .i64 ev, .int .i64 0] rfl rfl 39 #[.int .i64 0, .int .i64 0, .int .i64 0, .int .i64 0] ko (by kernel_rfl) rfl (by simp [Value.oneCell']) ?_
        have kf := setRow_heap _ _ #[.int .i64 0, .int .i64 0, .int .i64 0, .int .i64 0] #[.int .i64 2, .int .i64 0, .int .i64 ev, .int .i64 0] 39 (0, 0) ko
        have hk6 := below_setRow hk5 (g := go) (by omega) #[.int .i64 2, .int .i64 0, .int .i64 ev, .int .i64 0]
        have hC6 := own_keptT0 hC (w' := w5.setRow go #[.int .i64 2, .int .i64 0, .int .i64 ev, .int .i64 0]) ko (by decide) (fun b hb => setRow_other _ _ _ _ hb)
        refine hK.out _ _ (fun _ => hk6) ?_
        clear hK K ko hC hk5
        (try simp only [List.getElem_toArray, List.getElem_cons_succ, List.getElem_cons_zero, Act.put])
        generalize w5.setRow go #[.int .i64 2, .int .i64 0, .int .i64 ev, .int .i64 0] = w6 at *
        refine wpAnyE_one (i := 16) (o := _) (by kernel_rfl) rfl (fun K hK => ?_)
        (try simp only [List.getElem_toArray, List.getElem_cons_succ, List.getElem_cons_zero])
        go_simp
        refine hK.out _ _ (fun _ => hk6) ?_
        clear hK K
        (try simp only [List.getElem_toArray, List.getElem_cons_succ, List.getElem_cons_zero, Act.put, List.setIfInBounds_toArray, List.set_cons_zero, List.set_cons_succ])
        refine wpAnyE_done (by kernel_rfl) ?_ _
        go_wp2_with fail
        refine bodyPost_ret (v := .tuple #[.agg #[.int .i64 2, .int .i64 0, .int .i64 ev, .int .i64 0], .slice GC (kk + 0) cC]) (results_cell_tmp (p := 6) (t := 7) (ty := 39) rfl _ _ go 39 _ (0, 0) _ _ rfl rfl kf Try.underlying39 rfl (by kernel_rfl)) rfl ?_
        have hlen : (has.take kk ++ has.drop (kk + 1)).length = kk + 0 := by have := HEV.out.2; simp; omega
        refine ⟨GC, cC, ?_, hk6, .inr ?_⟩
        · rw [HE.out, hlen, HEV.out.1]
        · rw [HE.out]
          unfold OwnInts
          rw [hlen, ← ints_take_drop kk hkl]
          exact hC6
      · refine wpAnyE_take (i := 13) (oi := _) (v := .slice (some ⟨gH, kk + 1, none⟩) nB (hc - (kk + 1))) rfl (by kernel_rfl) (by kernel_rfl) (by kernel_rfl) (by kernel_rfl) (fun _ _ _ h => h) (Or.inl ⟨by rfl, ?_⟩) hbl ?_
        · intro w' hSw
          have g3 : (kk : Int) + 1 ≤ has.length := by omega
          have g5 : (has.length : Int) ≤ hc := by omega
          have g4 : (hc = kk + 1) = False := by simp; omega
          have g6 : (0 : Int) ≤ (kk : Int) + 1 := by omega
          have g8 := HEV.out.2
          (try simp only [List.getElem_toArray, List.getElem_cons_succ, List.getElem_cons_zero])
          go_simp
        (try simp only [List.getElem_toArray, List.getElem_cons_succ, List.getElem_cons_zero, Act.put, List.setIfInBounds_toArray, List.set_cons_zero, List.set_cons_succ])
        have hsA : Src w w.heap.size 1 (some ⟨gH, 0, none⟩) kk hc ((ints has).take kk) := by
          refine ⟨by simp [ints]; omega, .inr ⟨gH, 0, rfl, zH, fun j u hu => ?_⟩⟩
          rw [List.getElem?_take] at hu
          split at hu
          · rename_i hj
            have hj2 : j < has.length := by omega
            rw [Nat.zero_add, HH.out.2 j hj2]
            simpa [ints, List.getElem?_eq_getElem hj2] using hu
          · cases hu
        have hsB : Src w w.heap.size 1 (some ⟨gH, kk + 1, none⟩) nB (hc - (kk + 1)) ((ints has).drop (kk + 1)) := by
          refine ⟨by have := HEV.out.2; simp [ints]; omega, .inr ⟨gH, kk + 1, rfl, zH, fun j u hu => ?_⟩⟩
          rw [List.getElem?_drop] at hu
          have hj := (List.getElem?_eq_some_iff.1 hu).1
          simp only [ints, List.length_map] at hj
          rw [HH.out.2 _ hj]
          simpa [ints, List.getElem?_eq_getElem hj] using hu
        have h1A : ∀ u ∈ (ints has).take kk, u.oneCell' = true := fun u hu => ints_one has u (List.mem_of_mem_take hu)
        have h1B : ∀ u ∈ (ints has).drop (kk + 1), u.oneCell' = true := fun u hu => ints_one has u (List.mem_of_mem_drop hu)
        refine wpAnyE_one (i := 5) (o := _) (by kernel_rfl) rfl (fun K hK => ?_)
        rw [if_pos (by rfl)]
        refine oper_build0 hri rfl ?_
        have hA := own_empty (e := 3) (size := 1) w2 w.heap.size hbl.size
        have zgo : go < w2.heap.size := ko.lt
        replace ko := ko.alloc (.cells #[] 3)
        replace hbl := below_al hbl (.cells #[] 3)
        refine hK.out _ _ (fun _ => hbl) ?_
        clear hK K
        (try simp only [List.getElem_toArray, List.getElem_cons_succ, List.getElem_cons_zero, Act.put, List.setIfInBounds_toArray, List.set_cons_zero, List.set_cons_succ])
        generalize w2.alloc (.cells #[] 3) = w3 at *
        generalize w2.heap.size = gA at *
        refine wpAnyE_one (i := 9) (o := _) (by kernel_rfl) rfl (fun K hK => ?_)
        rw [if_pos (by rfl)]
        refine oper_append hri (.tmp 39) (.tmp 42) rfl w.heap.size (.slice (some ⟨gA, 0, none⟩) 0 0) 0 [] rfl hA (B := w.heap.size) (some ⟨gH, 0, none⟩) kk hc ((ints has).take kk) rfl (hsA.below hbl) h1A (by omega) (by omega) hbl.size ?_
        intro vB w4 hB hg
        have hk4 := below_grow hbl hA hg hbl.size (Nat.le_refl _)
        replace ko : Bk w4 go 39 #[.int .i64 0, .int .i64 0, .int .i64 0, .int .i64 0] := (hg.block go ko.lt (fun e => by simp only [Value.ownBlock, Option.some.injEq] at e; omega)).trans ko
        rw [Nat.zero_add, List.nil_append] at hB
        clear hbl hA hg
        refine hK.out _ _ (fun _ => hk4) ?_
        clear hK K
        (try simp only [List.getElem_toArray, List.getElem_cons_succ, List.getElem_cons_zero, Act.put, List.setIfInBounds_toArray, List.set_cons_zero, List.set_cons_succ])
        refine wpAnyE_one (i := 14) (o := _) (by kernel_rfl) rfl (fun K hK => ?_)
        rw [if_pos (by rfl)]
        refine oper_append hri (.tmp 43) (.tmp 47) rfl w.heap.size vB kk ((ints has).take kk) rfl hB (B := w.heap.size) (some ⟨gH, kk + 1, none⟩) nB (hc - (kk + 1)) ((ints has).drop (kk + 1)) rfl (hsB.below hk4) h1B (by omega) (by omega) hk4.size ?_
        intro vC w5 hC hg
        have hk5 := below_grow hk4 hB hg hk4.size (Nat.le_refl _)
        replace ko : Bk w5 go 39 #[.int .i64 0, .int .i64 0, .int .i64 0, .int .i64 0] := ko.keptB hg hB (by decide)
        obtain ⟨GC, cC, rfl⟩ := own_slice hC
        clear hk4 hB hg
        refine hK.out _ _ (fun _ => hk5) ?_
        clear hK K
        (try simp only [List.getElem_toArray, List.getElem_cons_succ, List.getElem_cons_zero, Act.put, List.setIfInBounds_toArray, List.set_cons_zero, List.set_cons_succ])
        refine wpAnyE_one (i := 15) (o := _) (by kernel_rfl) rfl (fun K hK => ?_)
        rw [if_pos (by rfl)]
        refine wp_store_row 39 (.tmp 6) (.tmp 38) rfl go #[.int .i64 2, .int .i64 0, .int .i64 ev, .int .i64 0] rfl rfl 39 #[.int .i64 0, .int .i64 0, .int .i64 0, .int .i64 0] ko (by kernel_rfl) rfl (by simp [Value.oneCell']) ?_
        have kf := setRow_heap _ _ #[.int .i64 0, .int .i64 0, .int .i64 0, .int .i64 0] #[.int .i64 2, .int .i64 0, .int .i64 ev, .int .i64 0] 39 (0, 0) ko
        have hk6 := below_setRow hk5 (g := go) (by omega) #[.int .i64 2, .int .i64 0, .int .i64 ev, .int .i64 0]
        have hC6 := own_keptT0 hC (w' := w5.setRow go #[.int .i64 2, .int .i64 0, .int .i64 ev, .int .i64 0]) ko (by decide) (fun b hb => setRow_other _ _ _ _ hb)
        refine hK.out _ _ (fun _ => hk6) ?_
        clear hK K ko hC hk5
        (try simp only [List.getElem_toArray, List.getElem_cons_succ, List.getElem_cons_zero, Act.put])
        generalize w5.setRow go #[.int .i64 2, .int .i64 0, .int .i64 ev, .int .i64 0] = w6 at *
        refine wpAnyE_one (i := 16) (o := _) (by kernel_rfl) rfl (fun K hK => ?_)
        (try simp only [List.getElem_toArray, List.getElem_cons_succ, List.getElem_cons_zero])
        go_simp
        refine hK.out _ _ (fun _ => hk6) ?_
        clear hK K
        (try simp only [List.getElem_toArray, List.getElem_cons_succ, List.getElem_cons_zero, Act.put, List.setIfInBounds_toArray, List.set_cons_zero, List.set_cons_succ])
        refine wpAnyE_done (by kernel_rfl) ?_ _
        go_wp2_with fail
        refine bodyPost_ret (v := .tuple #[.agg #[.int .i64 2, .int .i64 0, .int .i64 ev, .int .i64 0], .slice GC (kk + nB) cC]) (results_cell_tmp (p := 6) (t := 7) (ty := 39) rfl _ _ go 39 _ (0, 0) _ _ rfl rfl kf Try.underlying39 rfl (by kernel_rfl)) rfl ?_
        have hlen : (has.take kk ++ has.drop (kk + 1)).length = kk + nB := by have := HEV.out.2; simp; omega
        refine ⟨GC, cC, ?_, hk6, .inr ?_⟩
        · rw [HE.out, hlen, HEV.out.1]
        · rw [HE.out]
          unfold OwnInts
          rw [hlen, ← ints_take_drop kk hkl]
          exact hC6
    · have e1 : wishR want next has = (⟨1, 0, 0, 0⟩, has) := by unfold wishR; rw [hx]; dsimp only; rw [if_neg hg]
      have HE := Lib.hid e1
      clear hx e1 hcW hW q1
      have key : ∀ (P : Prop), True := fun _ => trivial
      by_cases hg1 : x % 3 = 2
      · have hh0 : has.length = 0 := by omega
        have m1 : (x : Int) % 3 = 2 := by omega
        have hh1 : (has.length : Int) = 0 := by omega
        go_enter Try.func30, Try.ntmps30
        go_wp2_with (refine wpList_store_rowTo rfl 39 (.tmp 6) (.tmp 49) rfl rfl w.heap.size #[.int .i64 1, .int .i64 0, .int .i64 0, .int .i64 0] rfl rfl 39 #[.int .i64 0, .int .i64 0, .int .i64 0, .int .i64 0] ko (by kernel_rfl) rfl (by simp [Value.oneCell']) ?_)
        have kf := setRow_heap _ _ #[.int .i64 0, .int .i64 0, .int .i64 0, .int .i64 0] #[.int .i64 1, .int .i64 0, .int .i64 0, .int .i64 0] 39 (0, 0) ko
        refine bodyPost_ret (v := .tuple #[.agg #[.int .i64 1, .int .i64 0, .int .i64 0, .int .i64 0], .slice H has.length hc]) (results_cell_tmp (p := 6) (t := 7) (ty := 39) rfl _ _ w.heap.size 39 _ (0, 0) _ _ rfl rfl kf Try.underlying39 rfl (by kernel_rfl)) rfl ?_
        refine ⟨H, hc, ?_, below_setRow hbl (Nat.le_refl _) _, .inl ⟨rfl, rfl, ?_⟩⟩
        · rw [HE.out]
        · rw [HE.out]
      · have m1 : ((x : Int) % 3 == 2) = false := by simp; omega
        have m2 : decide ((x : Int) % 3 = 2) = false := by simp; omega
        go_enter Try.func30, Try.ntmps30
        go_wp2_with (refine wpList_store_rowTo rfl 39 (.tmp 6) (.tmp 49) rfl rfl w.heap.size #[.int .i64 1, .int .i64 0, .int .i64 0, .int .i64 0] rfl rfl 39 #[.int .i64 0, .int .i64 0, .int .i64 0, .int .i64 0] ko (by kernel_rfl) rfl (by simp [Value.oneCell']) ?_)
        have kf := setRow_heap _ _ #[.int .i64 0, .int .i64 0, .int .i64 0, .int .i64 0] #[.int .i64 1, .int .i64 0, .int .i64 0, .int .i64 0] 39 (0, 0) ko
        refine bodyPost_ret (v := .tuple #[.agg #[.int .i64 1, .int .i64 0, .int .i64 0, .int .i64 0], .slice H has.length hc]) (results_cell_tmp (p := 6) (t := 7) (ty := 39) rfl _ _ w.heap.size 39 _ (0, 0) _ _ rfl rfl kf Try.underlying39 rfl (by kernel_rfl)) rfl ?_
        refine ⟨H, hc, ?_, below_setRow hbl (Nat.le_refl _) _, .inl ⟨rfl, rfl, ?_⟩⟩
        · rw [HE.out]
        · rw [HE.out]
end Go.Proofs.Ytbcgjolcfagboaa
