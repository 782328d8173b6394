/- The reference's Order. Printed by dqord_gen.py. -/
import Derived.Test.YtdjglkpcdhkodaaDqFit
namespace Go.Proofs.Ytdjglkpcdhkodaa
open Go.RowKit
set_option linter.unusedVariables false
attribute [local go_sem ↓] Go.wp_at_zero Go.wp_at_succ

/-- A list of ends, to be read. -/
def DnR (w : World) (A : Option Addr) (n c : Nat) (l : List DoneD) : Prop := Src w w.heap.size 12 A n c (donesC l) ∧ n ≤ c ∧ l.length = n
theorem DnR.below {w w' : World} {A : Option Addr} {n c : Nat} {l : List DoneD} (h : DnR w A n c l) (hb : Below w.heap.size w w') : DnR w' A n c l := by
  refine ⟨?_, h.2⟩
  have h1 := h.1.below hb
  refine ⟨h1.1, ?_⟩
  rcases h1.2 with h2 | ⟨g, o, e, hg, hc⟩
  · exact .inl h2
  · exact .inr ⟨g, o, e, Nat.lt_of_lt_of_le hg hb.size, hc⟩
theorem DnR.of_own {w : World} {B n c : Nat} {G : Option Addr} {l : List DoneD} (h : w.ownsRow B 52 12 (.slice G n c) n (donesC l)) (hn : l.length = n) : DnR w G n c l := by
  refine ⟨Src.own h (Nat.le_refl _), ?_, hn⟩
  rcases h.2 with ⟨h1, h0⟩ | ⟨g, cap, cur, h1, h2, h3, h4, _⟩
  · omega
  · injection h1 with _ _ h1
    omega
theorem dones_one (l : List DoneD) : ∀ u ∈ donesC l, u.oneCell' = true := by
  intro u hu
  simp only [donesC, List.mem_flatMap] at hu
  obtain ⟨d, _, hd⟩ := hu
  simp only [doneC, List.mem_cons, List.not_mem_nil, or_false] at hd
  rcases hd with rfl | rfl | rfl | rfl | rfl | rfl | rfl | rfl | rfl | rfl | rfl | rfl <;> rfl
theorem dones_len (l : List DoneD) : (donesC l).length = l.length * 12 := by
  induction l with
  | nil => rfl
  | cons d l ih =>
    have e : donesC (d :: l) = (doneC d).toList ++ donesC l := by simp [donesC]
    rw [e, List.length_append, ih, List.length_cons]
    have : (doneC d).toList.length = 12 := rfl
    omega
theorem dones_split (l : List DoneD) (m : Nat) : donesC l = donesC (l.take m) ++ donesC (l.drop m) := by
  have h : donesC (l.take m ++ l.drop m) = donesC (l.take m) ++ donesC (l.drop m) := by simp only [donesC, List.flatMap_append]
  rw [List.take_append_drop] at h
  exact h
theorem DnR.pos {w : World} {A : Option Addr} {n c : Nat} {l : List DoneD} (h : DnR w A n c l) (hn : 0 < n) : ∃ g o, A = some ⟨g, o, none⟩ ∧ g < w.heap.size ∧ (∀ (k : Nat) (d : DoneD), l[k]? = some d → ∀ (j : Nat) (v : Value), (doneC d).toList[j]? = some v → w.cell? ⟨g, o + k * 12 + j, none⟩ = some v)
    ∧ (∀ m, m ≤ n → Src w w.heap.size 12 (some ⟨g, o, none⟩) m c (donesC (l.take m))) ∧ (∀ m, m ≤ n → Src w w.heap.size 12 (if c = m then some ⟨g, o, none⟩ else some ⟨g, o + m * 12, none⟩) (n - m) (c - m) (donesC (l.drop m))) := by
  rcases h.1.2 with ⟨_, h2, _⟩ | ⟨g, o, e, hg, hc⟩
  · omega
  · have hl := h.2.2
    have hcap := h.2.1
    refine ⟨g, o, e, hg, fun k d hk j v hv => ?_, fun m hm => ?_, fun m hm => ?_⟩
    · rw [Nat.add_assoc]
      exact hc _ _ (donesC_get l k d hk j v hv)
    · refine ⟨by rw [dones_len, List.length_take]; congr 1; omega, .inr ⟨g, o, rfl, hg, fun j u hu => hc j u ?_⟩⟩
      rw [dones_split l m, List.getElem?_append_left (List.getElem?_eq_some_iff.1 hu).1]
      exact hu
    · have hlen : (donesC (l.drop m)).length = (n - m) * 12 := by rw [dones_len, List.length_drop, hl]
      have hcell : ∀ (j : Nat) (u : Value), (donesC (l.drop m))[j]? = some u → w.cell? ⟨g, o + m * 12 + j, none⟩ = some u := fun j u hu => by
        rw [Nat.add_assoc]
        refine hc _ _ ?_
        have e1 : (donesC (l.take m)).length = m * 12 := by rw [dones_len, List.length_take]; congr 1; omega
        rw [dones_split l m, List.getElem?_append_right (by omega), e1, Nat.add_sub_cancel_left]
        exact hu
      split
      · refine ⟨hlen, .inr ⟨g, o, rfl, hg, fun j u hu => ?_⟩⟩
        have := (List.getElem?_eq_some_iff.1 hu).1
        omega
      · exact ⟨hlen, .inr ⟨g, o + m * 12, rfl, hg, hcell⟩⟩
/-- What one way tells. -/
def way (k : Nat) (l : List DoneD) (row : List Int) (i : Nat) : Bool := match l[i]? with
  | some d => firstOk l d && (fitsM row d).2 && orderM k (l.eraseIdx i) (fitsM row d).1
  | none => false
def OrRel (w : World) (k : Nat) (l : List DoneD) (row : List Int) (v : Value) (wr : World) : Prop := ∃ i : Nat, i ≤ l.length ∧ v = .int .i64 i ∧ Below w.heap.size w wr ∧ ∀ i', i' < i → way k l row i' = false
def OrIn (w : World) (l : List DoneD) (d : DoneD) (v6 v7 : Value) (wr : World) : Prop := ∃ (j : Nat) (b : Bool), j ≤ l.length ∧ v7 = .int .i64 j ∧ v6 = .bool b ∧ Below w.heap.size w wr ∧ b = (l.take j).all fun x => decide (d.first ≤ x.last)
theorem order_nil (k : Nat) (row : List Int) : orderM k [] row = true := by cases k <;> rfl
theorem order_succ (k : Nat) (l : List DoneD) (row : List Int) : orderM (k + 1) l row = (l.isEmpty || (List.range l.length).any (way k l row)) := rfl
theorem order_no {k : Nat} {l : List DoneD} {row : List Int} (h0 : 0 < l.length) (h : ∀ i, i < l.length → way k l row i = false) : orderM (k + 1) l row = false := by
  rw [order_succ, Bool.or_eq_false_iff]
  refine ⟨by cases l with | nil => exact absurd h0 (by simp) | cons _ _ => rfl, ?_⟩
  rw [List.any_eq_false]
  intro i hi
  rw [h i (List.mem_range.1 hi)]
  simp
theorem order_yes {k : Nat} {l : List DoneD} {row : List Int} {i : Nat} (hi : i < l.length) (h : way k l row i = true) : orderM (k + 1) l row = true := by
  rw [order_succ, Bool.or_eq_true]
  right
  rw [List.any_eq_true]
  exact ⟨i, List.mem_range.2 hi, h⟩
theorem done_rowT : ∃ ri, RowT Try.prog 44 52 ri (.agg (doneC ⟨0, op0, 0, 0, 0, false, 0, 0⟩)) 12 112 := RowT.of Try.underlying44 (by kernel_rfl) (by kernel_rfl) (by decide)
set_option maxRecDepth 1000000 in
set_option maxHeartbeats 16000000 in
theorem order_any (k : Nat) : ∀ (l : List DoneD) (row : List Int) (L : Option Addr) (n c : Nat) (R : Option Addr) (nr cr : Nat) (w : World), n ≤ k → DnR w L n c l → RowAt w R nr cr row → (∀ d ∈ l, d.op.kind = 8 ∨ d.op.kind = 9 ∨ d.op.kind = 10) → nr + n ≤ 9000 → Calls Try.prog 13 #[.slice L n c, .slice R nr cr] w (BoolBelow (orderM k l row) w) := by
  induction k with
  | zero =>
    intro l row L n c R nr cr w hk hl hr hok hb
    obtain rfl : n = 0 := by omega
    have e : l = [] := List.eq_nil_of_length_eq_zero hl.2.2
    subst e
    go_enter Try.func13, Try.ntmps13
    go_wp2_with fail
    go_ret
    exact ⟨rfl, Below.refl _ _⟩
  | succ k ih =>
    intro l row L n c R nr cr w hk hl hr hok hb
    by_cases hn : n = 0
    · subst hn
      have e : l = [] := List.eq_nil_of_length_eq_zero hl.2.2
      subst e
      go_enter Try.func13, Try.ntmps13
      go_wp2_with fail
      go_ret
      exact ⟨rfl, Below.refl _ _⟩
    have hlen := hl.2.2
    have hcap := hl.2.1
    have n0 : ((n : Int) == 0) = false := by simp; omega
    have n0' : decide ((n : Int) = 0) = false := by simp; omega
    obtain ⟨ri, hri⟩ := done_rowT
    have HI := Lib.hid ih
    have HL := Lib.hid hl
    have HR := Lib.hid hr
    have HO := Lib.hid hok
    obtain ⟨g, o, hA, hg, -, -, -⟩ := hl.pos (by omega)
    subst hA
    clear ih hl hr hok hg
    go_enter Try.func13, Try.ntmps13
    go_wp2_with fail
    clear n0 n0'
    go_loopw [5] (fun v5 wr => OrRel w k l row v5 wr) (fun v5 _ => n - (intOf v5).toNat)
    case atStart => exact ⟨0, Nat.zero_le _, rfl, Below.refl _ _, fun i hi => by omega⟩
    case round =>
      obtain ⟨i, hi, rfl, hbw, hno⟩ := hrel
      have HNO := Lib.hid hno
      clear hno
      by_cases hlt : i < n
      rotate_left
      · obtain rfl : i = n := by omega
        have g1 : decide ((i : Int) < i) = false := by simp
        go_wp2_with fail
        go_ret
        exact ⟨by rw [order_no (by omega) (fun i' hi' => HNO.out i' (by omega))]; rfl, hbw⟩
      have g1 : (i : Int) < n := by omega
      obtain ⟨d, hd⟩ : ∃ d, l[i]? = some d := ⟨_, List.getElem?_eq_getElem (by omega)⟩
      have HD := Lib.hid hd
      have HW : Hid (way k l row i = (firstOk l d && (fitsM row d).2 && orderM k (l.eraseIdx i) (fitsM row d).1)) := Lib.hid (by unfold way; rw [hd])
      have HNX : Hid (∀ wx, Below w.heap.size w wx → way k l row i = false → OrRel w k l row (.int .i64 ((i + 1 : Nat) : Int)) wx) := Lib.hid (fun wx hwx hf => ⟨i + 1, by omega, rfl, hwx, fun i' hi' => by
        by_cases e : i' = i
        · rw [e]; exact hf
        · exact HNO.out i' (by omega)⟩)
      clear hd
      go_wp2_with fail
      go_loopw [6, 7] (fun v6 v7 wr2 => OrIn w l d v6 v7 wr2) (fun _ v7 _ => n - (intOf v7).toNat)
      case atStart => exact ⟨0, true, Nat.zero_le _, rfl, rfl, hbw, rfl⟩
      case round =>
        clear hbw
        obtain ⟨j, b, hj, rfl, rfl, hbw, hb6⟩ := hrel
        have HL2 := Lib.hid (HL.out.below hbw)
        obtain ⟨g2, o2, hA, hgw, hc, hs1, hs2⟩ := HL2.out.pos (by omega)
        injection hA with hA
        injection hA with hA1 hA2 _
        subst hA1 hA2
        have HC := Lib.hid hc
        clear hc hs1 hs2
        by_cases hjl : j < n
        · obtain ⟨y, hy⟩ : ∃ y, l[j]? = some y := ⟨_, List.getElem?_eq_getElem (by omega)⟩
          have g2' : (j : Int) < n := by omega
          have cy : wr.cell? ⟨g, o + j * 12 + 6, none⟩ = some (.int .i64 (y.last : Nat)) := HC.out j y hy 6 _ rfl
          have cd : wr.cell? ⟨g, o + i * 12 + 5, none⟩ = some (.int .i64 (d.first : Nat)) := HC.out i d HD.out 5 _ rfl
          have HB6 : Hid ((l.take (j + 1)).all (fun x => decide (d.first ≤ x.last)) = (b && decide (d.first ≤ y.last))) := Lib.hid (by rw [List.take_add_one, hy, List.all_append, hb6]; simp)
          obtain ⟨fi, hfi⟩ : ∃ z, d.first = z := ⟨_, rfl⟩
          obtain ⟨la, hla⟩ : ∃ z, y.last = z := ⟨_, rfl⟩
          rw [hfi] at cd
          rw [hla] at cy
          obtain ⟨bv, hbv⟩ : ∃ b, decide (fi ≤ la) = b := ⟨_, rfl⟩
          have HBV := Lib.hid hbv
          have q1 : decide ((fi : Int) ≤ la) = bv := by rw [← hbv]; congr 1; exact propext Int.ofNat_le
          have q2 : decide ((la : Int) ≥ fi) = bv := q1
          have HV : Hid ((l.take (j + 1)).all (fun x => decide (d.first ≤ x.last)) = (b && bv)) := Lib.hid (by rw [HB6.out, hfi, hla, hbv])
          have HCC := Lib.hid (And.intro cy cd)
          clear hb6 HB6 hfi hla hbv hy HC cy cd
          cases b with
          | true =>
            go_upto_region 10 with fail
            refine wp_region_E (S := fun w' => Below wr.drew.heap.size wr.drew w') (E := fun _ => false) (by kernel_rfl) ?_
            have hbw2 := hbw.drew
            have cy : wr.drew.cell? ⟨g, o + j * 12 + 6, none⟩ = some (.int .i64 (la : Nat)) := HCC.out.1
            have cd : wr.drew.cell? ⟨g, o + i * 12 + 5, none⟩ = some (.int .i64 (fi : Nat)) := HCC.out.2
            clear HCC hbw HL2
            generalize wr.drew = w2 at *
            refine wpAnyE_take (i := 0) (oi := _) (v := .bool true) rfl (by kernel_rfl) (by kernel_rfl) (by kernel_rfl) (by kernel_rfl) (fun _ _ _ h => h) (Or.inl ⟨by rfl, ?_⟩) (Below.refl _ _) ?_
            · intro w' hSw
              (try simp only [List.getElem_toArray, List.getElem_cons_zero])
              go_simp
            (try simp only [List.getElem_toArray, List.getElem_cons_zero, Act.put, List.setIfInBounds_toArray, List.set_cons_zero, List.set_cons_succ])
            refine wpAnyE_take (i := 1) (oi := _) (v := .bool true) rfl (by kernel_rfl) (by kernel_rfl) (by kernel_rfl) (by kernel_rfl) (fun _ _ _ h => h) (Or.inl ⟨by rfl, ?_⟩) (Below.refl _ _) ?_
            · intro w' hSw
              (try simp only [List.getElem_toArray, List.getElem_cons_succ, List.getElem_cons_zero])
              go_simp
            (try simp only [List.getElem_toArray, List.getElem_cons_succ, List.getElem_cons_zero, Act.put, List.setIfInBounds_toArray, List.set_cons_zero, List.set_cons_succ])
            refine wpAnyE_take (i := 2) (oi := _) (v := .slice (some ⟨g, o, none⟩) n c) rfl (by kernel_rfl) (by kernel_rfl) (by kernel_rfl) (by kernel_rfl) (fun _ _ _ h => h) (Or.inl ⟨by rfl, ?_⟩) (Below.refl _ _) ?_
            · intro w' hSw
              (try simp only [List.getElem_toArray, List.getElem_cons_succ, List.getElem_cons_zero])
              go_simp
            (try simp only [List.getElem_toArray, List.getElem_cons_succ, List.getElem_cons_zero, Act.put, List.setIfInBounds_toArray, List.set_cons_zero, List.set_cons_succ])
            refine wpAnyE_take (i := 3) (oi := _) (v := .int .i64 (j : Nat)) rfl (by kernel_rfl) (by kernel_rfl) (by kernel_rfl) (by kernel_rfl) (fun _ _ _ h => h) (Or.inl ⟨by rfl, ?_⟩) (Below.refl _ _) ?_
            · intro w' hSw
              (try simp only [List.getElem_toArray, List.getElem_cons_succ, List.getElem_cons_zero])
              go_simp
            (try simp only [List.getElem_toArray, List.getElem_cons_succ, List.getElem_cons_zero, Act.put, List.setIfInBounds_toArray, List.set_cons_zero, List.set_cons_succ])
            refine wpAnyE_take (i := 4) (oi := _) (v := .pointer (some ⟨g, o + j * 12, none⟩)) rfl (by kernel_rfl) (by kernel_rfl) (by kernel_rfl) (by kernel_rfl) (fun _ _ _ h => h) (Or.inl ⟨by rfl, ?_⟩) (Below.refl _ _) ?_
            · intro w' hSw
              (try simp only [List.getElem_toArray, List.getElem_cons_succ, List.getElem_cons_zero])
              go_simp
            (try simp only [List.getElem_toArray, List.getElem_cons_succ, List.getElem_cons_zero, Act.put, List.setIfInBounds_toArray, List.set_cons_zero, List.set_cons_succ])
            refine wpAnyE_take (i := 5) (oi := _) (v := .pointer (some ⟨g, o + j * 12 + 6, none⟩)) rfl (by kernel_rfl) (by kernel_rfl) (by kernel_rfl) (by kernel_rfl) (fun _ _ _ h => h) (Or.inl ⟨by rfl, ?_⟩) (Below.refl _ _) ?_
            · intro w' hSw
              (try simp only [List.getElem_toArray, List.getElem_cons_succ, List.getElem_cons_zero])
              go_simp
            (try simp only [List.getElem_toArray, List.getElem_cons_succ, List.getElem_cons_zero, Act.put, List.setIfInBounds_toArray, List.set_cons_zero, List.set_cons_succ])
            refine wpAnyE_take (i := 6) (oi := _) (v := .int .i64 (la : Nat)) rfl (by kernel_rfl) (by kernel_rfl) (by kernel_rfl) (by kernel_rfl) (fun _ _ _ h => h) (Or.inl ⟨by rfl, ?_⟩) (Below.refl _ _) ?_
            · intro w' hSw
              have s1 := cell_keep hSw cy
              (try simp at s1)
              (try simp only [List.getElem_toArray, List.getElem_cons_succ, List.getElem_cons_zero])
              go_simp
            (try simp only [List.getElem_toArray, List.getElem_cons_succ, List.getElem_cons_zero, Act.put, List.setIfInBounds_toArray, List.set_cons_zero, List.set_cons_succ])
            refine wpAnyE_take (i := 7) (oi := _) (v := .slice (some ⟨g, o, none⟩) n c) rfl (by kernel_rfl) (by kernel_rfl) (by kernel_rfl) (by kernel_rfl) (fun _ _ _ h => h) (Or.inl ⟨by rfl, ?_⟩) (Below.refl _ _) ?_
            · intro w' hSw
              (try simp only [List.getElem_toArray, List.getElem_cons_succ, List.getElem_cons_zero])
              go_simp
            (try simp only [List.getElem_toArray, List.getElem_cons_succ, List.getElem_cons_zero, Act.put, List.setIfInBounds_toArray, List.set_cons_zero, List.set_cons_succ])
            refine wpAnyE_take (i := 8) (oi := _) (v := .int .i64 (i : Nat)) rfl (by kernel_rfl) (by kernel_rfl) (by kernel_rfl) (by kernel_rfl) (fun _ _ _ h => h) (Or.inl ⟨by rfl, ?_⟩) (Below.refl _ _) ?_
            · intro w' hSw
              (try simp only [List.getElem_toArray, List.getElem_cons_succ, List.getElem_cons_zero])
              go_simp
            (try simp only [List.getElem_toArray, List.getElem_cons_succ, List.getElem_cons_zero, Act.put, List.setIfInBounds_toArray, List.set_cons_zero, List.set_cons_succ])
            refine wpAnyE_take (i := 9) (oi := _) (v := .pointer (some ⟨g, o + i * 12, none⟩)) rfl (by kernel_rfl) (by kernel_rfl) (by kernel_rfl) (by kernel_rfl) (fun _ _ _ h => h) (Or.inl ⟨by rfl, ?_⟩) (Below.refl _ _) ?_
            · intro w' hSw
              (try simp only [List.getElem_toArray, List.getElem_cons_succ, List.getElem_cons_zero])
              go_simp
            (try simp only [List.getElem_toArray, List.getElem_cons_succ, List.getElem_cons_zero, Act.put, List.setIfInBounds_toArray, List.set_cons_zero, List.set_cons_succ])
            refine wpAnyE_take (i := 10) (oi := _) (v := .pointer (some ⟨g, o + i * 12 + 5, none⟩)) rfl (by kernel_rfl) (by kernel_rfl) (by kernel_rfl) (by kernel_rfl) (fun _ _ _ h => h) (Or.inl ⟨by rfl, ?_⟩) (Below.refl _ _) ?_
            · intro w' hSw
              (try simp only [List.getElem_toArray, List.getElem_cons_succ, List.getElem_cons_zero])
              go_simp
            (try simp only [List.getElem_toArray, List.getElem_cons_succ, List.getElem_cons_zero, Act.put, List.setIfInBounds_toArray, List.set_cons_zero, List.set_cons_succ])
            refine wpAnyE_take (i := 11) (oi := _) (v := .int .i64 (fi : Nat)) rfl (by kernel_rfl) (by kernel_rfl) (by kernel_rfl) (by kernel_rfl) (fun _ _ _ h => h) (Or.inl ⟨by rfl, ?_⟩) (Below.refl _ _) ?_
            · intro w' hSw
              have s1 := cell_keep hSw cd
              (try simp at s1)
              (try simp only [List.getElem_toArray, List.getElem_cons_succ, List.getElem_cons_zero])
              go_simp
            (try simp only [List.getElem_toArray, List.getElem_cons_succ, List.getElem_cons_zero, Act.put, List.setIfInBounds_toArray, List.set_cons_zero, List.set_cons_succ])
            refine wpAnyE_take (i := 12) (oi := _) (v := .bool bv) rfl (by kernel_rfl) (by kernel_rfl) (by kernel_rfl) (by kernel_rfl) (fun _ _ _ h => h) (Or.inl ⟨by rfl, ?_⟩) (Below.refl _ _) ?_
            · intro w' hSw
              (try simp only [List.getElem_toArray, List.getElem_cons_succ, List.getElem_cons_zero])
              go_simp
              (try exact HBV.out)
            (try simp only [List.getElem_toArray, List.getElem_cons_succ, List.getElem_cons_zero, Act.put, List.setIfInBounds_toArray, List.set_cons_zero, List.set_cons_succ])
            refine wpAnyE_take (i := 13) (oi := _) (v := .bool bv) rfl (by kernel_rfl) (by kernel_rfl) (by kernel_rfl) (by kernel_rfl) (fun _ _ _ h => h) (Or.inl ⟨by rfl, ?_⟩) (Below.refl _ _) ?_
            · intro w' hSw
              (try simp only [List.getElem_toArray, List.getElem_cons_succ, List.getElem_cons_zero])
              go_simp
            (try simp only [List.getElem_toArray, List.getElem_cons_succ, List.getElem_cons_zero, Act.put, List.setIfInBounds_toArray, List.set_cons_zero, List.set_cons_succ])
            refine wpAnyE_take (i := 14) (oi := _) (v := .bool bv) rfl (by kernel_rfl) (by kernel_rfl) (by kernel_rfl) (by kernel_rfl) (fun _ _ _ h => h) (Or.inl ⟨by rfl, ?_⟩) (Below.refl _ _) ?_
            · intro w' hSw
              (try simp only [List.getElem_toArray, List.getElem_cons_succ, List.getElem_cons_zero])
              go_simp
            (try simp only [List.getElem_toArray, List.getElem_cons_succ, List.getElem_cons_zero, Act.put, List.setIfInBounds_toArray, List.set_cons_zero, List.set_cons_succ])
            refine wpAnyE_done (by kernel_rfl) ?_ _
            go_wp2_with fail
            go_roundw
            case rel => exact ⟨j + 1, bv, by omega, by go_num, rfl, hbw2, by rw [HV.out]; rfl⟩
            case measure => simp [intOf]; omega
          | false =>
            go_upto_region 10 with fail
            refine wp_region_E (S := fun w' => Below wr.drew.heap.size wr.drew w') (E := fun _ => false) (by kernel_rfl) ?_
            have hbw2 := hbw.drew
            clear HCC hbw HL2
            generalize wr.drew = w2 at *
            refine wpAnyE_take (i := 0) (oi := _) (v := .bool false) rfl (by kernel_rfl) (by kernel_rfl) (by kernel_rfl) (by kernel_rfl) (fun _ _ _ h => h) (Or.inl ⟨by rfl, ?_⟩) (Below.refl _ _) ?_
            · intro w' hSw
              (try simp only [List.getElem_toArray, List.getElem_cons_zero])
              go_simp
            (try simp only [List.getElem_toArray, List.getElem_cons_zero, Act.put, List.setIfInBounds_toArray, List.set_cons_zero, List.set_cons_succ])
            refine wpAnyE_take (i := 1) (oi := _) (v := .bool false) rfl (by kernel_rfl) (by kernel_rfl) (by kernel_rfl) (by kernel_rfl) (fun _ _ _ h => h) (Or.inl ⟨by rfl, ?_⟩) (Below.refl _ _) ?_
            · intro w' hSw
              (try simp only [List.getElem_toArray, List.getElem_cons_succ, List.getElem_cons_zero])
              go_simp
            (try simp only [List.getElem_toArray, List.getElem_cons_succ, List.getElem_cons_zero, Act.put, List.setIfInBounds_toArray, List.set_cons_zero, List.set_cons_succ])
            refine wpAnyE_take (i := 2) (oi := _) (v := undef) rfl (by kernel_rfl) (by kernel_rfl) (by kernel_rfl) (by kernel_rfl) (fun _ _ _ h => h) (Or.inr ⟨by rfl, rfl⟩) (Below.refl _ _) ?_
            (try simp only [List.getElem_toArray, List.getElem_cons_succ, List.getElem_cons_zero, Act.put, List.setIfInBounds_toArray, List.set_cons_zero, List.set_cons_succ])
            refine wpAnyE_take (i := 3) (oi := _) (v := undef) rfl (by kernel_rfl) (by kernel_rfl) (by kernel_rfl) (by kernel_rfl) (fun _ _ _ h => h) (Or.inr ⟨by rfl, rfl⟩) (Below.refl _ _) ?_
            (try simp only [List.getElem_toArray, List.getElem_cons_succ, List.getElem_cons_zero, Act.put, List.setIfInBounds_toArray, List.set_cons_zero, List.set_cons_succ])
            refine wpAnyE_take (i := 4) (oi := _) (v := undef) rfl (by kernel_rfl) (by kernel_rfl) (by kernel_rfl) (by kernel_rfl) (fun _ _ _ h => h) (Or.inr ⟨by rfl, rfl⟩) (Below.refl _ _) ?_
            (try simp only [List.getElem_toArray, List.getElem_cons_succ, List.getElem_cons_zero, Act.put, List.setIfInBounds_toArray, List.set_cons_zero, List.set_cons_succ])
            refine wpAnyE_take (i := 5) (oi := _) (v := undef) rfl (by kernel_rfl) (by kernel_rfl) (by kernel_rfl) (by kernel_rfl) (fun _ _ _ h => h) (Or.inr ⟨by rfl, rfl⟩) (Below.refl _ _) ?_
            (try simp only [List.getElem_toArray, List.getElem_cons_succ, List.getElem_cons_zero, Act.put, List.setIfInBounds_toArray, List.set_cons_zero, List.set_cons_succ])
            refine wpAnyE_take (i := 6) (oi := _) (v := undef) rfl (by kernel_rfl) (by kernel_rfl) (by kernel_rfl) (by kernel_rfl) (fun _ _ _ h => h) (Or.inr ⟨by rfl, rfl⟩) (Below.refl _ _) ?_
            (try simp only [List.getElem_toArray, List.getElem_cons_succ, List.getElem_cons_zero, Act.put, List.setIfInBounds_toArray, List.set_cons_zero, List.set_cons_succ])
            refine wpAnyE_take (i := 7) (oi := _) (v := undef) rfl (by kernel_rfl) (by kernel_rfl) (by kernel_rfl) (by kernel_rfl) (fun _ _ _ h => h) (Or.inr ⟨by rfl, rfl⟩) (Below.refl _ _) ?_
            (try simp only [List.getElem_toArray, List.getElem_cons_succ, List.getElem_cons_zero, Act.put, List.setIfInBounds_toArray, List.set_cons_zero, List.set_cons_succ])
            refine wpAnyE_take (i := 8) (oi := _) (v := undef) rfl (by kernel_rfl) (by kernel_rfl) (by kernel_rfl) (by kernel_rfl) (fun _ _ _ h => h) (Or.inr ⟨by rfl, rfl⟩) (Below.refl _ _) ?_
            (try simp only [List.getElem_toArray, List.getElem_cons_succ, List.getElem_cons_zero, Act.put, List.setIfInBounds_toArray, List.set_cons_zero, List.set_cons_succ])
            refine wpAnyE_take (i := 9) (oi := _) (v := undef) rfl (by kernel_rfl) (by kernel_rfl) (by kernel_rfl) (by kernel_rfl) (fun _ _ _ h => h) (Or.inr ⟨by rfl, rfl⟩) (Below.refl _ _) ?_
            (try simp only [List.getElem_toArray, List.getElem_cons_succ, List.getElem_cons_zero, Act.put, List.setIfInBounds_toArray, List.set_cons_zero, List.set_cons_succ])
            refine wpAnyE_take (i := 10) (oi := _) (v := undef) rfl (by kernel_rfl) (by kernel_rfl) (by kernel_rfl) (by kernel_rfl) (fun _ _ _ h => h) (Or.inr ⟨by rfl, rfl⟩) (Below.refl _ _) ?_
            (try simp only [List.getElem_toArray, List.getElem_cons_succ, List.getElem_cons_zero, Act.put, List.setIfInBounds_toArray, List.set_cons_zero, List.set_cons_succ])
            refine wpAnyE_take (i := 11) (oi := _) (v := undef) rfl (by kernel_rfl) (by kernel_rfl) (by kernel_rfl) (by kernel_rfl) (fun _ _ _ h => h) (Or.inr ⟨by rfl, rfl⟩) (Below.refl _ _) ?_
            (try simp only [List.getElem_toArray, List.getElem_cons_succ, List.getElem_cons_zero, Act.put, List.setIfInBounds_toArray, List.set_cons_zero, List.set_cons_succ])
            refine wpAnyE_take (i := 12) (oi := _) (v := undef) rfl (by kernel_rfl) (by kernel_rfl) (by kernel_rfl) (by kernel_rfl) (fun _ _ _ h => h) (Or.inr ⟨by rfl, rfl⟩) (Below.refl _ _) ?_
            (try simp only [List.getElem_toArray, List.getElem_cons_succ, List.getElem_cons_zero, Act.put, List.setIfInBounds_toArray, List.set_cons_zero, List.set_cons_succ])
            refine wpAnyE_take (i := 13) (oi := _) (v := .bool false) rfl (by kernel_rfl) (by kernel_rfl) (by kernel_rfl) (by kernel_rfl) (fun _ _ _ h => h) (Or.inl ⟨by rfl, ?_⟩) (Below.refl _ _) ?_
            · intro w' hSw
              (try simp only [List.getElem_toArray, List.getElem_cons_succ, List.getElem_cons_zero])
              go_simp
            (try simp only [List.getElem_toArray, List.getElem_cons_succ, List.getElem_cons_zero, Act.put, List.setIfInBounds_toArray, List.set_cons_zero, List.set_cons_succ])
            refine wpAnyE_take (i := 14) (oi := _) (v := .bool false) rfl (by kernel_rfl) (by kernel_rfl) (by kernel_rfl) (by kernel_rfl) (fun _ _ _ h => h) (Or.inl ⟨by rfl, ?_⟩) (Below.refl _ _) ?_
            · intro w' hSw
              (try simp only [List.getElem_toArray, List.getElem_cons_succ, List.getElem_cons_zero])
              go_simp
            (try simp only [List.getElem_toArray, List.getElem_cons_succ, List.getElem_cons_zero, Act.put, List.setIfInBounds_toArray, List.set_cons_zero, List.set_cons_succ])
            refine wpAnyE_done (by kernel_rfl) ?_ _
            go_wp2_with fail
            go_roundw
            case rel => exact ⟨j + 1, false, by omega, by go_num, rfl, hbw2, by rw [HV.out]; rfl⟩
            case measure => simp [intOf]; omega
        · have hfo : b = firstOk l d := by
            rw [hb6, show l.take j = l by rw [show j = l.length by omega]; exact List.take_length]
            rfl
          have HFO := Lib.hid hfo
          have hcd : ∀ (q : Nat) (v : Value), (doneC d)[q]? = some v → wr.cell? ⟨g, o + i * 12 + q, none⟩ = some v := fun q v hv => HC.out i d HD.out q v (by simpa using hv)
          have HCD := Lib.hid hcd
          have g3 : decide ((j : Int) < n) = false := by simp; omega
          clear hb6 hfo hcd HC
          go_wp2_with (refine wpList_load_subG (by rfl) 52 (.tmp 45) rfl g (o + i * 12) rfl (doneC d) _ HCD.out Try.underlying52 rfl (by kernel_rfl) ?_)
          (with_reducible refine (rfit_any row d R nr cr _ (HR.out.below hbw) (by omega) (HO.out d (List.mem_of_getElem? HD.out))).mono ?_)
          rintro e w2 ⟨A2, n2, c2, rfl, hrow2, hb2⟩
          replace hbw := below_tr hbw hb2
          have hl2 := HL2.out.below hb2
          have hfl := fits_row (row := row) (d := d)
          have hrl := HR.out.2.2
          clear hb2 HCD HL2
          generalize fitsM row d = fr at *
          obtain ⟨nx, ok⟩ := fr
          dsimp only at hrow2 hfl HW ⊢
          rw [← HFO.out] at HW
          clear HFO
          cases b with
          | false =>
            clear hrow2 hl2
            go_wp2_with fail
            go_roundw
            case rel => exact HNX.out _ hbw (by rw [HW.out]; rfl)
            case measure => simp [intOf]; omega
          | true =>
          cases ok with
          | false =>
            clear hrow2 hl2
            go_wp2_with fail
            go_roundw
            case rel => exact HNX.out _ hbw (by rw [HW.out]; rfl)
            case measure => simp [intOf]; omega
          | true =>
          go_upto_region 13 with fail
          refine wp_region_E (S := fun w' => Below w2.drew.heap.size w2.drew w') (E := fun _ => false) (by kernel_rfl) ?_
          replace hrow2 : RowAt w2.drew A2 n2 c2 nx := hrow2.below (below_drew' (Below.refl _ _))
          replace hl2 : DnR w2.drew (some ⟨g, o, none⟩) n c l := hl2.below (below_drew' (Below.refl _ _))
          have HBW := Lib.hid hbw.drew
          clear hbw
          generalize w2.drew = w3 at *
          obtain ⟨g4, o4, hA, hgw4, -, hs1, hs2⟩ := hl2.pos (by omega)
          injection hA with hA
          injection hA with hA1 hA2 _
          subst hA1 hA2
          replace hs1 := hs1 i (by omega)
          replace hs2 := hs2 (i + 1) (by omega)
          have HS := Lib.hid (And.intro hs1 (And.intro hs2 (And.intro hrow2 hl2.2.2)))
          clear hs1 hs2 hrow2 hl2
          have b1 : IntKind.i64.wrap ((i : Int) + 1) = ((i + 1 : Nat) : Int) := by rw [IntWalk.i64_in _ (by omega)]; omega
          have b2 : (i : Int) ≤ c := by omega
          have b4 : (0 : Int) ≤ (i : Int) + 1 := by omega
          have b5 : (i : Int) + 1 ≤ n := by omega
          have b6 : ((i : Int) + 1).toNat = i + 1 := by omega
          refine wpAnyE_take (i := 1) (oi := _) (v := .slice (some ⟨g, o, none⟩) n c) rfl (by kernel_rfl) (by kernel_rfl) (by kernel_rfl) (by kernel_rfl) (fun _ _ _ h => h) (Or.inl ⟨by rfl, ?_⟩) (Below.refl _ _) ?_
          · intro w' hSw
            (try simp only [List.getElem_toArray, List.getElem_cons_succ, List.getElem_cons_zero])
            go_simp
          (try simp only [List.getElem_toArray, List.getElem_cons_succ, List.getElem_cons_zero, Act.put, List.setIfInBounds_toArray, List.set_cons_zero, List.set_cons_succ])
          refine wpAnyE_take (i := 2) (oi := _) (v := .int .i64 (i : Nat)) rfl (by kernel_rfl) (by kernel_rfl) (by kernel_rfl) (by kernel_rfl) (fun _ _ _ h => h) (Or.inl ⟨by rfl, ?_⟩) (Below.refl _ _) ?_
          · intro w' hSw
            (try simp only [List.getElem_toArray, List.getElem_cons_succ, List.getElem_cons_zero])
            go_simp
          (try simp only [List.getElem_toArray, List.getElem_cons_succ, List.getElem_cons_zero, Act.put, List.setIfInBounds_toArray, List.set_cons_zero, List.set_cons_succ])
          refine wpAnyE_take (i := 3) (oi := _) (v := .slice (some ⟨g, o, none⟩) i c) rfl (by kernel_rfl) (by kernel_rfl) (by kernel_rfl) (by kernel_rfl) (fun _ _ _ h => h) (Or.inl ⟨by rfl, ?_⟩) (Below.refl _ _) ?_
          · intro w' hSw
            (try simp only [List.getElem_toArray, List.getElem_cons_succ, List.getElem_cons_zero])
            go_simp
          (try simp only [List.getElem_toArray, List.getElem_cons_succ, List.getElem_cons_zero, Act.put, List.setIfInBounds_toArray, List.set_cons_zero, List.set_cons_succ])
          refine wpAnyE_take (i := 5) (oi := _) (v := .slice (some ⟨g, o, none⟩) n c) rfl (by kernel_rfl) (by kernel_rfl) (by kernel_rfl) (by kernel_rfl) (fun _ _ _ h => h) (Or.inl ⟨by rfl, ?_⟩) (Below.refl _ _) ?_
          · intro w' hSw
            (try simp only [List.getElem_toArray, List.getElem_cons_succ, List.getElem_cons_zero])
            go_simp
          (try simp only [List.getElem_toArray, List.getElem_cons_succ, List.getElem_cons_zero, Act.put, List.setIfInBounds_toArray, List.set_cons_zero, List.set_cons_succ])
          refine wpAnyE_take (i := 6) (oi := _) (v := .int .i64 (i : Nat)) rfl (by kernel_rfl) (by kernel_rfl) (by kernel_rfl) (by kernel_rfl) (fun _ _ _ h => h) (Or.inl ⟨by rfl, ?_⟩) (Below.refl _ _) ?_
          · intro w' hSw
            (try simp only [List.getElem_toArray, List.getElem_cons_succ, List.getElem_cons_zero])
            go_simp
          (try simp only [List.getElem_toArray, List.getElem_cons_succ, List.getElem_cons_zero, Act.put, List.setIfInBounds_toArray, List.set_cons_zero, List.set_cons_succ])
          refine wpAnyE_take (i := 7) (oi := _) (v := .int .i64 ((i + 1 : Nat) : Int)) rfl (by kernel_rfl) (by kernel_rfl) (by kernel_rfl) (by kernel_rfl) (fun _ _ _ h => h) (Or.inl ⟨by rfl, ?_⟩) (Below.refl _ _) ?_
          · intro w' hSw
            (try simp only [List.getElem_toArray, List.getElem_cons_succ, List.getElem_cons_zero])
            go_simp
          (try simp only [List.getElem_toArray, List.getElem_cons_succ, List.getElem_cons_zero, Act.put, List.setIfInBounds_toArray, List.set_cons_zero, List.set_cons_succ])
          refine wpAnyE_take (i := 8) (oi := _) (v := .slice (if c = i + 1 then some ⟨g, o, none⟩ else some ⟨g, o + (i + 1) * 12, none⟩) (n - (i + 1)) (c - (i + 1))) rfl (by kernel_rfl) (by kernel_rfl) (by kernel_rfl) (by kernel_rfl) (fun _ _ _ h => h) (Or.inl ⟨by rfl, ?_⟩) (Below.refl _ _) ?_
          · intro w' hSw
            (try simp only [List.getElem_toArray, List.getElem_cons_succ, List.getElem_cons_zero])
            go_simp
          (try simp only [List.getElem_toArray, List.getElem_cons_succ, List.getElem_cons_zero, Act.put, List.setIfInBounds_toArray, List.set_cons_zero, List.set_cons_succ])
          have hown0 := own_empty (e := 52) (size := 12) w3 w3.heap.size (Nat.le_refl _)
          have hba := below_al (Below.refl w3.heap.size w3) (.cells #[] 52)
          refine wpAnyE_one (i := 0) (o := _) (by kernel_rfl) rfl (fun K hK => ?_)
          rw [if_pos (by rfl)]
          refine oper_build0 hri rfl ?_
          refine hK.out _ _ (fun _ => hba) ?_
          clear hK K
          (try simp only [List.getElem_toArray, List.getElem_cons_zero, Act.put, List.setIfInBounds_toArray, List.set_cons_zero, List.set_cons_succ])
          refine wpAnyE_one (i := 4) (o := _) (by kernel_rfl) rfl (fun K hK => ?_)
          rw [if_pos (by rfl)]
          refine oper_append hri (.tmp 56) (.tmp 59) rfl w3.heap.size (.slice (some ⟨w3.heap.size, 0, none⟩) 0 0) 0 [] rfl hown0 (B := w3.heap.size) (some ⟨g, o, none⟩) i c (donesC (l.take i)) rfl (HS.out.1.below hba) (dones_one _) (by omega) (by omega) hba.size ?_
          intro vB wB hown1 hg1
          have hbB := below_grow hba hown0 hg1 hba.size (Nat.le_refl _)
          refine hK.out _ _ (fun _ => hbB) ?_
          clear hK K hg1 hown0 hba
          (try simp only [List.getElem_toArray, List.getElem_cons_succ, List.getElem_cons_zero, Act.put, List.setIfInBounds_toArray, List.set_cons_zero, List.set_cons_succ])
          refine wpAnyE_one (i := 9) (o := _) (by kernel_rfl) rfl (fun K hK => ?_)
          rw [if_pos (by rfl)]
          refine oper_append hri (.tmp 60) (.tmp 64) rfl w3.heap.size vB (0 + i) ([] ++ donesC (l.take i)) rfl hown1 (B := w3.heap.size) (if c = i + 1 then some ⟨g, o, none⟩ else some ⟨g, o + (i + 1) * 12, none⟩) (n - (i + 1)) (c - (i + 1)) (donesC (l.drop (i + 1))) rfl (HS.out.2.1.below hbB) (dones_one _) (by omega) (by omega) hbB.size ?_
          intro vC wC hown2 hg2
          have hbC := below_grow hbB hown1 hg2 hbB.size (Nat.le_refl _)
          refine hK.out _ _ (fun _ => hbC) ?_
          clear hK K hg2 hown1 hbB
          (try simp only [List.getElem_toArray, List.getElem_cons_succ, List.getElem_cons_zero, Act.put, List.setIfInBounds_toArray, List.set_cons_zero, List.set_cons_succ])
          rw [show 0 + i + (n - (i + 1)) = n - 1 by omega] at hown2
          obtain ⟨GC, cC, rfl⟩ := own_slice hown2
          refine wpAnyE_take (i := 10) (oi := _) (v := .slice GC (n - 1) cC) rfl (by kernel_rfl) (by kernel_rfl) (by kernel_rfl) (by kernel_rfl) (fun _ _ _ h => h) (Or.inl ⟨by rfl, ?_⟩) hbC ?_
          · intro w' hSw
            (try simp only [List.getElem_toArray, List.getElem_cons_succ, List.getElem_cons_zero])
            go_simp
          (try simp only [List.getElem_toArray, List.getElem_cons_succ, List.getElem_cons_zero, Act.put, List.setIfInBounds_toArray, List.set_cons_zero, List.set_cons_succ])
          refine wpAnyE_done (by kernel_rfl) ?_ _
          have e : donesC (l.eraseIdx i) = [] ++ donesC (l.take i) ++ donesC (l.drop (i + 1)) := by rw [List.eraseIdx_eq_take_drop_succ]; simp only [donesC, List.flatMap_append, List.nil_append]
          have hdr : DnR wC GC (n - 1) cC (l.eraseIdx i) := DnR.of_own (B := w3.heap.size) (by rw [e]; exact hown2) (by rw [List.length_eraseIdx_of_lt (by omega)]; omega)
          have hrow := HS.out.2.2.1.below hbC
          have hnx := hrow.2.2
          have hbw := HBW.out.trans (hbC.mono HBW.out.size)
          clear e hown2 hbC HS HBW b1 b4 b5 b6
          obtain ⟨A1, hA1⟩ : ∃ A1, (if c = i + 1 then some (⟨g, o, none⟩ : Addr) else some ⟨g, o + (i + 1) * 12, none⟩) = A1 := ⟨_, rfl⟩
          rw [hA1]
          clear hA1
          have HDR := Lib.hid (And.intro hdr hrow)
          clear hdr hrow
          go_wp2_with fail
          (with_reducible refine (HI.out (l.eraseIdx i) nx GC (n - 1) cC A2 n2 c2 _ (by omega) HDR.out.1 HDR.out.2 (fun x hx => HO.out x (List.mem_of_mem_eraseIdx hx)) (by omega)).mono ?_)
          rintro e w4 ⟨rfl, hb4⟩
          replace hbw := below_tr hbw hb4
          clear hb4 HDR
          obtain ⟨bo, hbo⟩ : ∃ bo, orderM k (l.eraseIdx i) nx = bo := ⟨_, rfl⟩
          rw [hbo] at HW ⊢
          clear hbo
          cases bo with
          | false =>
            go_wp2_with fail
            go_roundw
            case rel => exact HNX.out _ hbw (by rw [HW.out]; rfl)
            case measure => simp [intOf]; omega
          | true =>
            go_wp2_with fail
            go_ret
            exact ⟨by rw [order_yes (i := i) (by omega) (by rw [HW.out]; rfl)]; rfl, hbw⟩
end Go.Proofs.Ytdjglkpcdhkodaa
