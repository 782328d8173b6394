/- The walk of MemOwn. -/
import Derived.Test.YtdajnmmjmfhihaaLaw02B
import Derived.Deep.DeepCutAuto
namespace Go.Proofs.Ytdajnmmjmfhihaa
open Go.RowKit
attribute [local go_sem ↓] Go.wp_at_zero Go.wp_at_succ

structure Boxes2 (A : Option Addr) (n c : Nat) (a : Acc) (w w1 : World) : Prop where
  bel : Below w.heap.size w w1
  k0 : Bk w1 w.heap.size 24 #[.slice A n c]
  k1 : Bk w1 (w.heap.size + 1) 26 #[.int .i64 a.kind, .int .i64 a.cell, .int .i64 a.old, .int .i64 a.new]
theorem boxes2 (A : Option Addr) (n c : Nat) (a : Acc) (w : World) : Boxes2 A n c a w ((w.alloc (.cells #[.slice A n c] 24)).alloc (.cells #[.int .i64 a.kind, .int .i64 a.cell, .int .i64 a.old, .int .i64 a.new] 26)) :=
  ⟨below_al (below_al (Below.refl w.heap.size w) _) _, (Bk.made w _ _).alloc _, Bk.new _ (by simp) _ _⟩
theorem Boxes2.keep {A : Option Addr} {n c : Nat} {a : Acc} {w w1 w2 : World} (h : Boxes2 A n c a w w1) (hb : Below w1.heap.size w1 w2) : Boxes2 A n c a w w2 :=
  ⟨below_tr h.bel hb, h.k0.keep hb, h.k1.keep hb⟩

theorem Acc.make_other (a : Acc) (zs : List Int) (k : Nat) (h : k ≠ a.cell.toNat) : (a.make zs)[k]? = zs[k]? := by
  unfold Acc.make
  rw [List.getElem?_set_ne (Ne.symm h)]
theorem Acc.make_own (a : Acc) (zs : List Int) (h : a.cell.toNat < zs.length) : (a.make zs)[a.cell.toNat]? = some (a.next (a.had zs)) := by
  unfold Acc.make
  rw [List.getElem?_set_self h]
theorem Acc.had_get (a : Acc) (zs : List Int) (h : a.cell.toNat < zs.length) : zs[a.cell.toNat]? = some (a.had zs) := by
  unfold Acc.had
  rw [List.getD_eq_getElem?_getD, List.getElem?_eq_getElem h]; rfl

set_option maxRecDepth 100000 in
set_option maxHeartbeats 8000000 in
theorem own_bad (A : Option Addr) (c : Nat) (zs : List Int) (a : Acc) (w : World) (h : Sl w w.heap.size A zs.length (ints zs)) (h1 : zs.length ≤ 100) (he : a.err zs.length ≠ 0) :
    Calls Try.prog 6 #[memV A zs.length c, accV a] w (BoolBelow true w) := by
  have hn : (a.err zs.length != 0) = true := by simpa using he
  have ev : a.valOut zs = 0 := by simp only [Acc.valOut, he, if_false]
  have eo : a.okOut zs = false := by simp only [Acc.okOut, he, if_false]
  have ec : a.cellsOut zs = zs := by simp only [Acc.cellsOut, he, if_false]
  have hcase : a.err zs.length = 1 ∨ (a.err zs.length = 12 ∧ (zs.length : Int) ≤ a.cell) := by
    revert he
    unfold Acc.err
    split
    · split
      · intro h; exact absurd rfl h
      · intro _; right; exact ⟨rfl, by omega⟩
    · intro _; left; rfl
  have HM := Lib.hid (MemAt.of_sl (c := c) h)
  have HV := Lib.hid (And.intro ev (And.intro eo ec))
  clear h ev eo ec he
  go_enter Try.func6, Try.ntmps6
  go_wp2_with fail
  refine (shown_any _).mono ?_
  rintro e w1 ⟨rfl, hb⟩
  have K := (boxes2 A zs.length c a w).keep hb
  clear hb
  have c0 := K.k0.cell 0
  have d0 := K.k1.cell 0
  have d1 := K.k1.cell 1
  have d2 := K.k1.cell 2
  have d3 := K.k1.cell 3
  simp at c0 d0 d1 d2 d3
  go_wp2_with fail
  (with_reducible refine (do_any A w.heap.size c zs a _ K.bel.size (HM.out.keep (Nat.le_refl _) K.bel) (by omega)).mono ?_)
  rintro e w2 ⟨X, cx, rfl, hMx, hb⟩
  obtain ⟨ev, eo, ec⟩ := HV.out
  rw [ev, eo]
  rw [ec] at hMx
  have hs := Nat.le_trans K.bel.size hb.size
  have K1 := K.keep hb
  clear c0 d0 d1 d2 d3 K ev eo ec HV
  have l0 := K1.k0.lt
  have l1 := K1.k1.lt
  have c0 := K1.k0.cell 0
  have d1 := K1.k1.cell 1
  simp at c0 d1
  have m0 : w.heap.size < w2.heap.size + 1 := by omega
  rcases hcase with h12 | ⟨h12, hge⟩
  all_goals
    rw [h12]
    clear h12 hn
    go_wp2_with fail
    have hbx := below_al (below_al (Below.refl w2.heap.size w2) (.cells #[.slice X zs.length cx] 24)) (.cells #[.int .i64 0, .bool false] 29)
    (with_reducible refine (same_self X A zs.length cx c zs _ w.heap.size w.heap.size (hMx.keep hs hbx) (HM.out.keep (Nat.le_refl _) (below_tr K1.bel hbx)) (Nat.le_trans hs hbx.size) (Nat.le_trans hs hbx.size) (by omega)).mono ?_)
    rintro e w3 ⟨rfl, hb3⟩
    have K2 := (K1.keep hbx).keep hb3
    have kr := (Bk.new (w2.alloc (.cells #[.slice X zs.length cx] 24)) (g := w2.heap.size + 1) (by simp) 29 #[.int .i64 0, .bool false]).keep hb3
    have e0 := K2.k0.cell 0
    have e1 := K2.k1.cell 1
    have e2 := kr.cell 0
    have e3 := kr.cell 1
    simp at e0 e1 e2 e3
    clear c0 d1 l0 l1 m0 K1 hb3 hbx kr
    go_wp2
    go_ret
    exact ⟨rfl, K2.bel⟩

def OwnRel (n : Nat) (w3 : World) (i : Value) (wr : World) : Prop := ∃ k : Nat, k ≤ n ∧ i = .int .i64 k ∧ Below w3.heap.size w3 wr

/-- What is known of memory behind the access. -/
structure OwnMem (gx ox ga oa P B n c cx : Nat) (a : Acc) (zs zs' : List Int) (val : Int) (ok : Bool) (w : World) : Prop where
  k0 : Bk w B 24 #[.slice (some ⟨ga, oa, none⟩) n c]
  k1 : Bk w (B + 1) 26 #[.int .i64 a.kind, .int .i64 a.cell, .int .i64 a.old, .int .i64 a.new]
  kx : Bk w P 24 #[.slice (some ⟨gx, ox, none⟩) n cx]
  kr : Bk w (P + 1) 29 #[.int .i64 val, .bool ok]
  hx : ∀ (j : Nat) (z : Int), zs'[j]? = some z → w.cell? ⟨gx, ox + j, none⟩ = some (.int .i64 z)
  ha : ∀ (j : Nat) (z : Int), zs[j]? = some z → w.cell? ⟨ga, oa + j, none⟩ = some (.int .i64 z)
  lx : gx < w.heap.size
  la : ga < w.heap.size
theorem OwnMem.keep {gx ox ga oa P B n c cx : Nat} {a : Acc} {zs zs' : List Int} {val : Int} {ok : Bool} {w w' : World} (h : OwnMem gx ox ga oa P B n c cx a zs zs' val ok w) (hb : Below w.heap.size w w') : OwnMem gx ox ga oa P B n c cx a zs zs' val ok w' :=
  ⟨h.k0.keep hb, h.k1.keep hb, h.kx.keep hb, h.kr.keep hb, fun j z hz => (bcellA hb h.lx).trans (h.hx j z hz), fun j z hz => (bcellA hb h.la).trans (h.ha j z hz), Nat.lt_of_lt_of_le h.lx hb.size, Nat.lt_of_lt_of_le h.la hb.size⟩

set_option maxRecDepth 100000 in
set_option maxHeartbeats 16000000 in
theorem own_good (A : Option Addr) (c : Nat) (zs : List Int) (a : Acc) (w : World) (h : Sl w w.heap.size A zs.length (ints zs)) (h1 : zs.length ≤ 100) (he : a.err zs.length = 0) :
    Calls Try.prog 6 #[memV A zs.length c, accV a] w (BoolBelow true w) := by
  obtain ⟨hr, hc0, hc1⟩ := Acc.err_ok he
  have hi : a.cell.toNat < zs.length := by omega
  have hic : ((a.cell.toNat : Nat) : Int) = a.cell := by omega
  have ev : a.valOut zs = a.had zs := by simp only [Acc.valOut, he, if_true]
  have eo : a.okOut zs = a.ok (a.had zs) := by simp only [Acc.okOut, he, if_true]
  have ec : a.cellsOut zs = a.make zs := by simp only [Acc.cellsOut, he, if_true]
  have HV := Lib.hid (And.intro ev (And.intro eo ec))
  have HIC := Lib.hid hic
  have HE := Lib.hid he
  have HM := Lib.hid (MemAt.of_sl (c := c) h)
  obtain ⟨ga, oa, hA, hla, hca⟩ := h.2 (by omega)
  subst hA
  have HCA := Lib.hid hca
  clear hic ev eo ec he h hca
  go_enter Try.func6, Try.ntmps6
  go_wp2_with fail
  refine (shown_any _).mono ?_
  rintro e w1 ⟨rfl, hb⟩
  have K := (boxes2 (some ⟨ga, oa, none⟩) zs.length c a w).keep hb
  clear hb
  have c0 := K.k0.cell 0
  have d0 := K.k1.cell 0
  have d1 := K.k1.cell 1
  have d2 := K.k1.cell 2
  have d3 := K.k1.cell 3
  simp at c0 d0 d1 d2 d3
  go_wp2_with fail
  (with_reducible refine (do_any (some ⟨ga, oa, none⟩) w.heap.size c zs a _ K.bel.size (HM.out.keep (Nat.le_refl _) K.bel) (by omega)).mono ?_)
  rintro e w2 ⟨X, cx, rfl, hMx, hb⟩
  obtain ⟨ev, eo, ec⟩ := HV.out
  rw [ev, eo, HE.out]
  rw [ec] at hMx
  have hs := Nat.le_trans K.bel.size hb.size
  have K1 := K.keep hb
  have hXs := hMx.sl hs
  obtain ⟨gx, ox, hX, hlx, hcx⟩ := hXs.2 (by omega)
  subst hX
  generalize hvh : a.had zs = val at *
  generalize hok : a.ok val = ok at *
  have HVO := Lib.hid (And.intro hvh hok)
  clear hvh hok
  have hbx := below_al (below_al (Below.refl w2.heap.size w2) (.cells #[.slice (some ⟨gx, ox, none⟩) zs.length cx] 24)) (.cells #[.int .i64 val, .bool ok] 29)
  have hOM : OwnMem gx ox ga oa w2.heap.size w.heap.size zs.length c cx a zs (a.make zs) val ok ((w2.alloc (.cells #[.slice (some ⟨gx, ox, none⟩) zs.length cx] 24)).alloc (.cells #[.int .i64 val, .bool ok] 29)) := by
    refine ⟨K1.k0.keep hbx, K1.k1.keep hbx, (Bk.made _ _ _).alloc _, Bk.new _ (by simp) _ _, fun j z hz => ?_, fun j z hz => ?_, Nat.lt_of_lt_of_le hlx hbx.size, Nat.lt_of_lt_of_le hla (below_tr K1.bel hbx).size⟩
    · exact (bcellA hbx hlx).trans (hcx j _ (by simp [ints, hz]))
    · exact (bcellA (below_tr K1.bel hbx) hla).trans (HCA.out j _ (by simp [ints, hz]))
  have hbl := below_tr K1.bel hbx
  clear c0 d0 d1 d2 d3 K K1 ev eo ec HV hMx hXs hcx hb HM HCA hbx hs hlx hla
  go_upto_region 7 with fail
  generalize (w2.alloc (.cells #[.slice (some ⟨gx, ox, none⟩) zs.length cx] 24)).alloc (.cells #[.int .i64 val, .bool ok] 29) = w3 at *
  have c0 := hOM.k0.cell 0
  have d1 := hOM.k1.cell 1
  have cx0 := hOM.kx.cell 0
  have cr0 := hOM.kr.cell 0
  simp at c0 d1 cx0 cr0
  have cai := hOM.ha a.cell.toNat val (by rw [Acc.had_get a zs hi, HVO.out.1])
  have hd1 : decide (a.cell < 0) = false := by simp; omega
  have hd2 : decide ((zs.length : Int) ≤ a.cell) = false := by simp; omega
  go_quiet (fail)
  go_wp2_with fail
  clear c0 d1 cx0 cr0 cai
  go_loopw [9] (fun i wr => OwnRel zs.length w3 i wr) (fun i _ => zs.length - (intOf i).toNat)
  case atStart => exact ⟨0, Nat.zero_le _, rfl, below_drewN (Below.refl _ _) _⟩
  case round =>
    obtain ⟨k, hk, rfl, hbw⟩ := hrel
    have hOW := hOM.keep hbw
    have c0 := hOW.k0.cell 0
    have d1 := hOW.k1.cell 1
    have cx0 := hOW.kx.cell 0
    simp at c0 d1 cx0
    by_cases hlt : k < zs.length
    · have i1 : (k : Int) < zs.length := by omega
      have i2 : (0 : Int) ≤ k := by omega
      obtain ⟨z, hz⟩ : ∃ z, zs[k]? = some z := ⟨_, List.getElem?_eq_getElem hlt⟩
      by_cases hke : (k : Int) = a.cell
      · have hq : ((k : Int) != a.cell) = false := by simpa using hke
        have HB := Lib.hid hbw
        clear hke hbw hz hOW
        go_wp2_with fail
        go_quiet (fail)
        go_wp2
        go_roundw
        case rel => exact ⟨k + 1, by omega, by go_num, below_drewN HB.out _⟩
        case measure => simp [intOf]; omega
      · have hq : ((k : Int) != a.cell) = true := by simpa using hke
        have e1 := hOW.ha k z hz
        have e2 := hOW.hx k z (by rw [Acc.make_other a zs k (by have := HIC.out; omega)]; exact hz)
        have HB := Lib.hid hbw
        clear hke hbw hz hOW
        go_wp2_with fail
        go_quiet (fail)
        go_wp2
        go_roundw
        case rel => exact ⟨k + 1, by omega, by go_num, below_drewN HB.out _⟩
        case measure => simp [intOf]; omega
    · obtain rfl : k = zs.length := by omega
      have d0 := hOW.k1.cell 0
      have d2 := hOW.k1.cell 2
      have cr0 := hOW.kr.cell 0
      have cr1 := hOW.kr.cell 1
      simp at d0 d2 cr0 cr1
      have cai := hOW.ha a.cell.toNat val (by rw [Acc.had_get a zs hi, HVO.out.1])
      have cxi := hOW.hx a.cell.toNat (a.next val) (by rw [Acc.make_own a zs hi, HVO.out.1])
      have hkk : a.kind = 1 ∨ a.kind = 2 ∨ a.kind = 3 ∨ a.kind = 4 ∨ a.kind = 5 := by
        have := hr
        simp [Acc.right] at this
        omega
      have HB := Lib.hid (below_tr hbl hbw)
      obtain ⟨kd, cl, old, new⟩ := a
      simp only at hkk d0 d1 d2 cxi cai hi hc0 hc1 hd1 hd2 cx0 c0
      have hok := HVO.out.2
      clear hbw hOW hOM HVO HE HIC hbl hr
      rcases hkk with rfl | rfl | rfl | rfl | rfl
      · simp [Acc.ok] at hok
        subst hok
        simp [Acc.next] at cxi
        go_wp2_with fail
        go_quiet (fail)
        go_wp2
        go_ret
        exact ⟨rfl, below_drewN HB.out _⟩
      · simp [Acc.ok] at hok
        subst hok
        simp [Acc.next] at cxi
        go_wp2_with fail
        go_quiet (fail)
        go_wp2
        go_ret
        exact ⟨rfl, below_drewN HB.out _⟩
      · by_cases hvo : val = old
        · subst hvo
          simp [Acc.ok] at hok
          subst hok
          simp [Acc.next] at cxi
          go_wp2_with fail
          go_quiet (fail)
          go_wp2
          go_ret
          exact ⟨rfl, below_drewN HB.out _⟩
        · have hq : (val == old) = false := by simpa using hvo
          have hvb : (val != old) = true := by simpa using hvo
          have hokf : ok = false := by rw [← hok]; unfold Acc.ok; simp [hvb]
          clear hok hvb
          subst hokf
          simp [Acc.next, hvo] at cxi
          clear hvo
          go_wp2_with fail
          go_quiet (fail)
          go_wp2
          go_ret
          exact ⟨rfl, below_drewN HB.out _⟩
      · simp [Acc.ok] at hok
        subst hok
        simp [Acc.next] at cxi
        go_wp2_with fail
        go_quiet (fail)
        go_wp2
        go_ret
        exact ⟨rfl, below_drewN HB.out _⟩
      · simp [Acc.ok] at hok
        subst hok
        simp [Acc.next] at cxi
        go_wp2_with fail
        go_quiet (fail)
        go_wp2
        go_ret
        exact ⟨rfl, below_drewN HB.out _⟩

set_option maxHeartbeats 1000000 in
theorem own_any (A : Option Addr) (c : Nat) (zs : List Int) (a : Acc) (w : World) (h : Sl w w.heap.size A zs.length (ints zs)) :
    Calls Try.prog 6 #[memV A zs.length c, accV a] w (BoolBelow true w) := by
  by_cases h1 : 100 < zs.length
  · go_enter Try.func6, Try.ntmps6
    go_wp2_with (go_at_call 10; refine (shown_any _).mono ?_; rintro e w1 ⟨rfl, hb⟩; have K := (boxes2 A zs.length c a w).keep hb; have c0 := K.k0.cell 0; simp at c0; clear hb)
    go_ret
    exact ⟨rfl, K.bel⟩
  · by_cases he : a.err zs.length = 0
    · exact own_good A c zs a w h (by omega) he
    · exact own_bad A c zs a w h (by omega) he
end Go.Proofs.Ytdajnmmjmfhihaa
