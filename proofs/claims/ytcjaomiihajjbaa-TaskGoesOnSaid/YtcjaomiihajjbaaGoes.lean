/- TaskGoesOn. Printed by go_gen.py. -/
import Derived.Test.YtcjaomiihajjbaaGoL
import Derived.Test.YtcjaomiihajjbaaGoM
import Derived.IntWalk
namespace Go.Proofs.Ytcjaomiihajjbaa
open Go.RowKit
set_option linter.unusedVariables false
attribute [local go_sem ↓] Go.wp_at_zero Go.wp_at_succ

theorem op_rowT : ∃ i, RowT Try.prog 28 30 i (.agg #[.int .i64 0, .int .i64 0, .int .i64 0, .int .i64 0]) 4 32 := RowT.of Try.underlying28 op_info (by kernel_rfl) (by decide)
theorem opCells_one (l : List Opr) : ∀ v ∈ opCells l, v.oneCell' = true := by
  intro v hv
  obtain ⟨u, _, hu⟩ := List.mem_flatMap.1 hv
  simp at hu
  rcases hu with rfl | rfl | rfl | rfl <;> rfl
theorem opsOwn {wx : World} {base : Nat} {ops : List Opr} {op : Opr} {G : Option Addr} {cp : Nat} (h : wx.ownsRow base 30 4 (.slice G (ops.length + 1) cp) (ops.length + 1) (opCells ops ++ (oprC op).toList)) : wx.ownsRow 0 30 4 (.slice G (ops ++ [op]).length cp) (ops ++ [op]).length (opCells (ops ++ [op])) := by
  rw [opCells_snoc, List.length_append]
  exact own_lower h (Nat.zero_le _)
theorem slWant_get {want : List (List Opr)} {q : Nat} (h3 : want.length = 3) (hq : q < 3) : want[q]? = some (want.getD q []) := by
  rw [List.getD_eq_getElem?_getD, List.getElem?_eq_getElem (by omega)]
  rfl
def KRel (w0 : World) (b8 gW bL b14 : Nat) (T : Option Addr) (m d : Nat) (l : Ly) (kids : List Nat) (v9 : Value) (wr : World) : Prop :=
  ∃ i : Nat, i ≤ kids.length ∧ v9 = .int .i64 i ∧ Below w0.heap.size w0 wr ∧ WAt wr b8 gW T m d (kwant kids i) ∧ Bk wr bL 34 (lyC l) ∧ ∃ g cap, Bk wr b14 39 #[.slice (some ⟨g, 0, none⟩) (kidM l i).length cap] ∧ OwnInts wr 0 (.slice (some ⟨g, 0, none⟩) (kidM l i).length cap) (kidM l i)
set_option maxRecDepth 1000000 in
set_option maxHeartbeats 16000000 in
theorem goes_any (KA : Option Addr) (nk ck : Nat) (kids : List Nat) (T : Option Addr) (m d : Nat) (turns : List Nat) (w : World) (hk : kids.length = nk) (hKs : SlU8 w w.heap.size KA kids) (hm : turns.length = m) (hT : SlU8 w w.heap.size T turns) :
    Calls Try.prog 5 #[.slice KA nk ck, .slice T m d] w (BoolBelow true w) := by
  have HT := Lib.hid hT
  have HM := Lib.hid hm
  have HKS := Lib.hid (And.intro hKs hk)
  clear hT hm hKs hk
  go_enter Try.func5, Try.ntmps5
  go_wp2_with fail
  (with_reducible refine (awake_any _).mono ?_)
  rintro e w1 ⟨rfl, hbl⟩
  by_cases hk5 : 5 < nk
  · have g1 : decide ((5 : Int) < nk) = true := by simp; omega
    go_wp2
    go_ret
    exact ⟨rfl, hbl⟩
  have g1 : decide ((5 : Int) < nk) = false := by simp; omega
  by_cases hm2 : 200 < m
  · have g2 : decide ((200 : Int) < m) = true := by simp; omega
    go_wp2
    go_ret
    exact ⟨rfl, hbl⟩
  have g2 : decide ((200 : Int) < m) = false := by simp; omega
  go_upto_region 5 with fail
  clear g1 g2
  have kW := (Bk.made w1 28 #[.slice none 0 0, .slice none 0 0, .slice none 0 0]).alloc (.cells (playC 7 (some ⟨w1.heap.size, 0, none⟩) 3 3 T m d) 27)
  have kP := Bk.new (w1.alloc (.cells #[.slice none 0 0, .slice none 0 0, .slice none 0 0] 28)) (g := w1.heap.size + 1) (by simp) 27 (playC 7 (some ⟨w1.heap.size, 0, none⟩) 3 3 T m d)
  have hbl2 := below_al (below_al hbl (.cells #[.slice none 0 0, .slice none 0 0, .slice none 0 0] 28)) (.cells (playC 7 (some ⟨w1.heap.size, 0, none⟩) 3 3 T m d) 27)
  have zw : w.heap.size ≤ w1.heap.size := hbl.size
  clear hbl
  dsimp only [playC] at kW kP hbl2
  generalize (w1.alloc (.cells #[.slice none 0 0, .slice none 0 0, .slice none 0 0] 28)).alloc (.cells #[.int .u8 7, .slice (some ⟨w1.heap.size, 0, none⟩) 3 3, .slice T m d] 27) = w2 at *
  generalize w1.heap.size = gW at *
  have hwa : WAt w2 (gW + 1) gW T m d (kwant kids 0) := ⟨kP, _, kW, rfl, fun j ops hj => by
    have hj3 := (List.getElem?_eq_some_iff.1 hj).1
    have hj3' : j < 3 := hj3
    obtain rfl | rfl | rfl : j = 0 ∨ j = 1 ∨ j = 2 := by omega
    all_goals
      simp [kwant] at hj
      subst hj
      exact ⟨none, 0, rfl, World.ownsRow_nil _ _ _ _⟩⟩
  have HWA := Lib.hid hwa
  have q0 := kP.cell 0
  have q1 := kP.cell 1
  have q2 := kP.cell 2
  have zP := kP.lt
  simp at q0 q1 q2
  clear hwa kW kP
  have HOK := Lib.hid (playL_ok 3 7 (by omega) (by omega))
  go_wp2_with fail
  (with_reducible refine (where_any 7 (some ⟨gW, 0, none⟩) 3 3 T m d _ (by omega) (by omega) (by omega) (by omega)).mono ?_)
  rintro e w3 ⟨rfl, hb⟩
  clear q0 q1 q2
  have hwa := HWA.out.keep hb
  replace hbl2 := below_tr hbl2 hb
  obtain ⟨l, hl⟩ : ∃ l, playL 3 7 = l := ⟨_, rfl⟩
  have htk : l.c.tasks = 9 := by rw [← hl]; decide +kernel
  rw [hl] at HOK
  rw [hl]
  have HTK := Lib.hid htk
  clear hl htk hb HWA
  have zP3 : gW + 1 < w3.heap.size := hwa.kP.lt
  have HWA := Lib.hid hwa
  clear hwa
  go_upto_region 6 with (refine wpList_store_new rfl 34 (.tmp 7) (.tmp 48) rfl rfl w3.heap.size _ _ (lyC l) rfl rfl rfl rfl (by kernel_rfl) rfl (by simp [Value.oneCell']) ?_)
  have kL := Bk.made w3 34 (lyC l)
  have hwa := HWA.out.keep (below_al (Below.refl _ _) (.cells (lyC l) 34))
  replace hbl2 := below_al hbl2 (.cells (lyC l) 34)
  clear HWA
  generalize w3.alloc (.cells (lyC l) 34) = w4 at *
  generalize w3.heap.size = bL at *
  have HWA := Lib.hid hwa
  clear hwa
  go_wp2_with (refine wpList_load_row rfl 34 (.tmp 7) rfl bL rfl 34 (lyC l) (0, 0) _ kL Try.underlying34 rfl (by kernel_rfl) ?_)
  (with_reducible refine (begin_any l _ HOK.out).mono ?_)
  rintro e w5 ⟨g, cap, rfl, hown, hb⟩
  replace kL := kL.keep hb
  have hwa := HWA.out.keep hb
  replace hbl2 := below_tr hbl2 hb
  clear hb HWA
  have hLM : (beginM l).length ≤ 1000 := by rw [beginM_length]; have := HOK.out.s1; omega
  obtain ⟨M, hM⟩ : ∃ M, (beginM l).length = M := ⟨_, rfl⟩
  rw [hM] at hown hLM
  rw [hM]
  have HMM := Lib.hid hM
  have HOW := Lib.hid (And.intro hown (And.intro hwa hbl2))
  have zL : bL < w5.heap.size := kL.lt
  clear hM hown hwa hbl2
  go_upto_region 7 with fail
  have kM := Bk.made w5 39 #[.slice (some ⟨g, 0, none⟩) M cap]
  have hrel0 : KRel w (gW + 1) gW bL w5.heap.size T m d l kids (.int .i64 0) (w5.alloc (.cells #[.slice (some ⟨g, 0, none⟩) M cap] 39)) := by
    refine ⟨0, Nat.zero_le _, rfl, below_al HOW.out.2.2 _, HOW.out.2.1.keep (below_al (Below.refl _ _) _), kL.alloc _, g, cap, ?_, ?_⟩
    · show Bk _ _ _ #[.slice (some ⟨g, 0, none⟩) (beginM l).length cap]
      rw [HMM.out]
      exact kM
    · show OwnInts _ 0 (.slice (some ⟨g, 0, none⟩) (beginM l).length cap) (beginM l)
      rw [HMM.out]
      exact HOW.out.1.alloc _
  have HR := Lib.hid hrel0
  clear hrel0 kL kM HOW
  generalize w5.alloc (.cells #[.slice (some ⟨g, 0, none⟩) M cap] 39) = w6 at *
  generalize w5.heap.size = b14 at *
  have hnum : w.heap.size ≤ gW ∧ gW + 1 < bL ∧ bL < b14 := ⟨zw, zP3, zL⟩
  clear zw zP3 zL zP
  obtain ⟨zw, zP3, zL⟩ := hnum
  go_wp2_with fail
  go_loopw [9] (fun v9 wr => KRel w (gW + 1) gW bL b14 T m d l kids v9 wr) (fun v9 _ => nk - (intOf v9).toNat)
  case atStart => exact HR.out
  case round =>
    clear HR
    obtain ⟨i, hi, rfl, hbl, hwa, kL, g', cap', kM, hom⟩ := hrel
    rw [HKS.out.2] at hi
    by_cases hlt : i < nk
    · have i1 : (i : Int) < nk := by omega
      have hKI := kidM_inv HOK.out i (by rw [HTK.out]; omega) (by omega)
      have hMA := mk_all HOK.out hKI (by rw [HTK.out]; omega) (by omega)
      have hzl : (kidM l i).length ≤ 1000 := by have := hKI.ml; have := HOK.out.s1; omega
      have HMA := Lib.hid (And.intro hMA (And.intro hzl (And.intro kL (And.intro kM hom))))
      have HWA := Lib.hid hwa
      clear hKI hMA hzl kL kM hom hwa
      go_wp2_with fail
      refine go_mk _ _ _ _ _ _ _ _ _ _ _ _ _ _ _ _ _ _ _ _ _ _ _ _ _ _ _ _ _ _ _ _ _ _ _ _ _ _ _ _ _ _ _ _ _ _ _ _ _ _ _ _ _ _ _ _ _ _ _ _ _ _ _ _ _ _ _ _ _ _ _ _ _ _ _ _ _ _ _ _ _ _ _ _ _ _ _ _ _ _ _ _ _ _ _ _ _ _ _ _ _ _ _ _ _ _ _ _ _ _ _ _ _ _ _ _ _ _ _ _ _ _ _ _ _ _ _ _ _ _ _ _ _ _ _ _ _ _ _ _ _ _ _ _ _ _ _ _ _ _ _ _ _ _ _ _ _ _ _ _ _ _ _ _ _ _ _ _ _ _ _ _ _ _ _ _ _ _ _ _ _ _ _ _ _ _ _ _ _ _ _ _ _ _ _ _ _ _ _ _ _ _ _ _ _ _ _ _ _ _ _ _ _ _ _ _ _ _ _ _ _ _ _ _ _ _ _ _ _ _ _ _ _ _ _ _ _ _ _ _ _ _ _ _ _ _ _ _ _ _ _ _ _ _ _ _ _ _ _ _ _ _ _ _ _ _ _ _ _ _ _ _ _ _ _ _ _ _ _ _ _ _ _ _ _ _ _ _ _ _ _ _ _ _ _ _ _ _ wr bL b14 l i (kidM l i) g' cap' (fun _ _ _ _ _ h => h) HOK.out HMA.out.1 HMA.out.2.1 (by omega) HMA.out.2.2.1 HMA.out.2.2.2.1 HMA.out.2.2.2.2 ?_
      intro x4 x10 x11 x12 x13 x14 x15 x16 x17 x57 x58 x59 x60 x61 x62 x63 x64 x65 x66 x67 x68 x69 x70 x71 x72 x73 x74 x75 x76 x77 x78 x79 x80 x81 x82 x83 x84 x85 wx g2 cap2 hst kM2 hom2
      dsimp only [ptr]
      have hwa := HWA.out.keptT (keptT_stp HMA.out.2.2.2.1 hst) (by decide) (by decide) (by decide)
      have kL2 := hst.keep HMA.out.2.2.1 (by omega)
      have hbl2 := hst.below (by omega) hbl
      have hlen : (kidM l i).length = (kidM l (i + 1)).length := (HMA.out.1.fits 5 (Nat.le_refl _)).1.symm
      obtain ⟨bK, oK, rfl, hbK, hcK⟩ := (HKS.out.1.below hbl2) (by rw [HKS.out.2]; omega)
      obtain ⟨x, hxx⟩ : ∃ x, kids[i]? = some x := ⟨_, List.getElem?_eq_getElem (by rw [HKS.out.2]; exact hlt)⟩
      obtain ⟨q3, q4⟩ := hcK i x hxx
      obtain ⟨q, hq⟩ : ∃ n, x % 3 = n := ⟨_, rfl⟩
      have hx3 : (x : Int) % 3 = (q : Nat) := by omega
      have hq3 : q < 3 := by omega
      have hwq : kids.getD i 0 % 3 = q := by rw [List.getD_eq_getElem?_getD, hxx]; exact hq
      have hkw := kwant_inv kids i
      have hWQ := slWant_get hkw.len hq3
      obtain ⟨AO, cO, cW, hsO⟩ := hwa.at_ hWQ
      obtain ⟨ops, hops⟩ : ∃ ops, (kwant kids i).getD q [] = ops := ⟨_, rfl⟩
      rw [hops] at cW hsO
      have hol : ops.length ≤ 10 := by rw [← hops]; have := hkw.each q; omega
      have hkn : kwant kids (i + 1) = (kwant kids i).set q (ops ++ [enOp (2 + (i : Int))]) := by rw [kwant, hwq, hops]
      have HKN := Lib.hid (And.intro hkn (And.intro hkw.len (And.intro hom2 (And.intro hlen hsO))))
      have HB2 := Lib.hid hbl2
      have HW2 := Lib.hid hwa
      have hst0 : True := trivial
      clear hcK hxx hq hwq hkw hWQ hops hkn hom2 hlen hsO hbl2 HWA HMA hst
      go_upto_region 22 with fail
      refine wp_region_E (S := fun w' => Below wx.drew.heap.size wx.drew w') (E := fun i => i == 18) (by kernel_rfl) ?_
      have kP := HW2.out.kP.drew
      replace cW : wx.drew.cell? ⟨gW, q, none⟩ = some (.slice AO ops.length cO) := cW
      have hsO : wx.drew.ownsRow 0 30 4 (.slice AO ops.length cO) ops.length (opCells ops) := HKN.out.2.2.2.2
      have hbd := below_drew (Below.refl wx.heap.size wx)
      have hs1 : IntKind.i64.wrap (2 + (i : Int)) = 2 + i := IntWalk.i64_in _ (by omega)
      have hs2 : IntKind.i64.wrap (50 + (i : Int)) = 50 + i := IntWalk.i64_in _ (by omega)
      have HS12 := Lib.hid (And.intro hs1 hs2)
      clear hs1 hs2
      generalize wx.drew = w14 at *
      obtain ⟨ri, hri⟩ := op_rowT
      refine wpAnyE_take (i := 0) (oi := _) (v := .pointer (some ⟨gW + 1, 1, none⟩)) rfl (by kernel_rfl) (by kernel_rfl) (by kernel_rfl) (by kernel_rfl) (fun _ _ _ h => h) (Or.inl ⟨by rfl, ?_⟩) (Below.refl _ _) ?_
      · intro w' hSw
        (try simp only [List.getElem_toArray, List.getElem_cons_zero])
        go_simp
      (try simp only [List.getElem_toArray, List.getElem_cons_zero, Act.put, List.setIfInBounds_toArray, List.set_cons_zero, List.set_cons_succ])
      refine wpAnyE_take (i := 1) (oi := _) (v := .slice (some ⟨gW, 0, none⟩) 3 3) rfl (by kernel_rfl) (by kernel_rfl) (by kernel_rfl) (by kernel_rfl) (fun _ _ _ h => h) (Or.inl ⟨by rfl, ?_⟩) (Below.refl _ _) ?_
      · intro w' hSw
        have s1 := (kP.keep hSw).cell 1
        (try simp at s1)
        (try simp only [List.getElem_toArray, List.getElem_cons_succ, List.getElem_cons_zero])
        go_simp
      (try simp only [List.getElem_toArray, List.getElem_cons_succ, List.getElem_cons_zero, Act.put, List.setIfInBounds_toArray, List.set_cons_zero, List.set_cons_succ])
      refine wpAnyE_take (i := 2) (oi := _) (v := .int .i64 (q : Nat)) rfl (by kernel_rfl) (by kernel_rfl) (by kernel_rfl) (by kernel_rfl) (fun _ _ _ h => h) (Or.inl ⟨by rfl, ?_⟩) (Below.refl _ _) ?_
      · intro w' hSw
        (try simp only [List.getElem_toArray, List.getElem_cons_succ, List.getElem_cons_zero])
        go_simp
      (try simp only [List.getElem_toArray, List.getElem_cons_succ, List.getElem_cons_zero, Act.put, List.setIfInBounds_toArray, List.set_cons_zero, List.set_cons_succ])
      refine wpAnyE_take (i := 4) (oi := _) (v := .pointer (some ⟨gW + 1, 1, none⟩)) rfl (by kernel_rfl) (by kernel_rfl) (by kernel_rfl) (by kernel_rfl) (fun _ _ _ h => h) (Or.inl ⟨by rfl, ?_⟩) (Below.refl _ _) ?_
      · intro w' hSw
        (try simp only [List.getElem_toArray, List.getElem_cons_succ, List.getElem_cons_zero])
        go_simp
      (try simp only [List.getElem_toArray, List.getElem_cons_succ, List.getElem_cons_zero, Act.put, List.setIfInBounds_toArray, List.set_cons_zero, List.set_cons_succ])
      refine wpAnyE_take (i := 5) (oi := _) (v := .slice (some ⟨gW, 0, none⟩) 3 3) rfl (by kernel_rfl) (by kernel_rfl) (by kernel_rfl) (by kernel_rfl) (fun _ _ _ h => h) (Or.inl ⟨by rfl, ?_⟩) (Below.refl _ _) ?_
      · intro w' hSw
        have s1 := (kP.keep hSw).cell 1
        (try simp at s1)
        (try simp only [List.getElem_toArray, List.getElem_cons_succ, List.getElem_cons_zero])
        go_simp
      (try simp only [List.getElem_toArray, List.getElem_cons_succ, List.getElem_cons_zero, Act.put, List.setIfInBounds_toArray, List.set_cons_zero, List.set_cons_succ])
      refine wpAnyE_take (i := 6) (oi := _) (v := .int .i64 (q : Nat)) rfl (by kernel_rfl) (by kernel_rfl) (by kernel_rfl) (by kernel_rfl) (fun _ _ _ h => h) (Or.inl ⟨by rfl, ?_⟩) (Below.refl _ _) ?_
      · intro w' hSw
        (try simp only [List.getElem_toArray, List.getElem_cons_succ, List.getElem_cons_zero])
        go_simp
      (try simp only [List.getElem_toArray, List.getElem_cons_succ, List.getElem_cons_zero, Act.put, List.setIfInBounds_toArray, List.set_cons_zero, List.set_cons_succ])
      refine wpAnyE_take (i := 7) (oi := _) (v := .pointer (some ⟨gW, q, none⟩)) rfl (by kernel_rfl) (by kernel_rfl) (by kernel_rfl) (by kernel_rfl) (fun _ _ _ h => h) (Or.inl ⟨by rfl, ?_⟩) (Below.refl _ _) ?_
      · intro w' hSw
        have g3 : (q : Int) < 3 := by omega
        (try simp only [List.getElem_toArray, List.getElem_cons_succ, List.getElem_cons_zero])
        go_simp
      (try simp only [List.getElem_toArray, List.getElem_cons_succ, List.getElem_cons_zero, Act.put, List.setIfInBounds_toArray, List.set_cons_zero, List.set_cons_succ])
      refine wpAnyE_take (i := 8) (oi := _) (v := .slice AO ops.length cO) rfl (by kernel_rfl) (by kernel_rfl) (by kernel_rfl) (by kernel_rfl) (fun _ _ _ h => h) (Or.inl ⟨by rfl, ?_⟩) (Below.refl _ _) ?_
      · intro w' hSw
        have s1 := cell_keep hSw cW
        (try simp at s1)
        (try simp only [List.getElem_toArray, List.getElem_cons_succ, List.getElem_cons_zero])
        go_simp
      (try simp only [List.getElem_toArray, List.getElem_cons_succ, List.getElem_cons_zero, Act.put, List.setIfInBounds_toArray, List.set_cons_zero, List.set_cons_succ])
      refine wpAnyE_take (i := 10) (oi := _) (v := .int .i64 (i : Nat)) rfl (by kernel_rfl) (by kernel_rfl) (by kernel_rfl) (by kernel_rfl) (fun _ _ _ h => h) (Or.inl ⟨by rfl, ?_⟩) (Below.refl _ _) ?_
      · intro w' hSw
        (try simp only [List.getElem_toArray, List.getElem_cons_succ, List.getElem_cons_zero])
        go_simp
      (try simp only [List.getElem_toArray, List.getElem_cons_succ, List.getElem_cons_zero, Act.put, List.setIfInBounds_toArray, List.set_cons_zero, List.set_cons_succ])
      refine wpAnyE_take (i := 11) (oi := _) (v := .int .i64 (2 + (i : Int))) rfl (by kernel_rfl) (by kernel_rfl) (by kernel_rfl) (by kernel_rfl) (fun _ _ _ h => h) (Or.inl ⟨by rfl, ?_⟩) (Below.refl _ _) ?_
      · intro w' hSw
        have g3 := HS12.out.1
        (try simp only [List.getElem_toArray, List.getElem_cons_succ, List.getElem_cons_zero])
        go_simp
      (try simp only [List.getElem_toArray, List.getElem_cons_succ, List.getElem_cons_zero, Act.put, List.setIfInBounds_toArray, List.set_cons_zero, List.set_cons_succ])
      refine wpAnyE_take (i := 12) (oi := _) (v := .int .i64 (i : Nat)) rfl (by kernel_rfl) (by kernel_rfl) (by kernel_rfl) (by kernel_rfl) (fun _ _ _ h => h) (Or.inl ⟨by rfl, ?_⟩) (Below.refl _ _) ?_
      · intro w' hSw
        (try simp only [List.getElem_toArray, List.getElem_cons_succ, List.getElem_cons_zero])
        go_simp
      (try simp only [List.getElem_toArray, List.getElem_cons_succ, List.getElem_cons_zero, Act.put, List.setIfInBounds_toArray, List.set_cons_zero, List.set_cons_succ])
      refine wpAnyE_take (i := 13) (oi := _) (v := .int .i64 (50 + (i : Int))) rfl (by kernel_rfl) (by kernel_rfl) (by kernel_rfl) (by kernel_rfl) (fun _ _ _ h => h) (Or.inl ⟨by rfl, ?_⟩) (Below.refl _ _) ?_
      · intro w' hSw
        have g3 := HS12.out.2
        (try simp only [List.getElem_toArray, List.getElem_cons_succ, List.getElem_cons_zero])
        go_simp
      (try simp only [List.getElem_toArray, List.getElem_cons_succ, List.getElem_cons_zero, Act.put, List.setIfInBounds_toArray, List.set_cons_zero, List.set_cons_succ])
      refine wpAnyE_take (i := 14) (oi := _) (v := .agg #[.int .i64 14, .int .i64 0, .int .i64 (2 + (i : Int)), .int .i64 (50 + (i : Int))]) rfl (by kernel_rfl) (by kernel_rfl) (by kernel_rfl) (by kernel_rfl) (fun _ _ _ h => h) (Or.inl ⟨by rfl, ?_⟩) (Below.refl _ _) ?_
      · intro w' hSw
        (try simp only [List.getElem_toArray, List.getElem_cons_succ, List.getElem_cons_zero])
        go_simp
      (try simp only [List.getElem_toArray, List.getElem_cons_succ, List.getElem_cons_zero, Act.put, List.setIfInBounds_toArray, List.set_cons_zero, List.set_cons_succ])
      refine wpAnyE_app2 hri 3 9 15 16 95 101 107 108 (.tmp 100) (.tmp 106) rfl rfl rfl rfl ⟨rfl, rfl, rfl⟩ ⟨rfl, rfl, rfl⟩ ⟨rfl, rfl, rfl⟩ ⟨rfl, rfl, rfl⟩ (by kernel_rfl) (by kernel_rfl) (by kernel_rfl) (by kernel_rfl) (by kernel_rfl) (by kernel_rfl) (by simp) ⟨of_decide_eq_true (by kernel_rfl), of_decide_eq_true (by kernel_rfl), of_decide_eq_true (by kernel_rfl)⟩ w14.heap.size (Nat.le_refl _) (Below.refl _ _) (fun w1 w2 h12 h1 => h1.trans h12) AO ops.length cO (opCells ops) rfl (Src.own hsO (Nat.le_refl _)) (opCells_one ops) (.agg #[.int .i64 14, .int .i64 0, .int .i64 (2 + (i : Int)), .int .i64 (50 + (i : Int))]) #[.int .i64 14, .int .i64 0, .int .i64 (2 + (i : Int)), .int .i64 (50 + (i : Int))] rfl (fun w => by kernel_rfl) rfl (by simp [Value.oneCell']) (by omega) (by omega) ?_
      intro vA vB vC vD w15 hown hb15 hS15
      (try simp only [Act.put, List.setIfInBounds_toArray, List.set_cons_zero, List.set_cons_succ])
      obtain ⟨GD, cD, rfl⟩ := own_slice hown
      refine wpAnyE_take (i := 17) (oi := _) (v := .pointer (some ⟨gW, q, none⟩)) rfl (by kernel_rfl) (by kernel_rfl) (by kernel_rfl) (by kernel_rfl) (fun _ _ _ h => h) (Or.inl ⟨by rfl, ?_⟩) hS15 ?_
      · intro w' hSw
        have g3 : (q : Int) < 3 := by omega
        (try simp only [List.getElem_toArray, List.getElem_cons_succ, List.getElem_cons_zero])
        go_simp
      (try simp only [List.getElem_toArray, List.getElem_cons_succ, List.getElem_cons_zero, Act.put, List.setIfInBounds_toArray, List.set_cons_zero, List.set_cons_succ])
      have hwx := HW2.out.keep (below_tr hbd hb15)
      obtain ⟨rows, kW, hrs, _⟩ := hwx.kW
      have x1 := cell_keep hb15 cW
      have xf := kW.free q
      have xl := kW.lt
      refine wpAnyE_one (i := 18) (o := _) (by kernel_rfl) rfl (fun K hK => ?_)
      (try simp only [List.getElem_toArray, List.getElem_cons_succ, List.getElem_cons_zero])
      go_simp
      clear x1 xf xl
      refine hK.out _ _ (fun h => absurd h (by decide)) ?_
      clear hK K
      refine wpAnyE_done (by kernel_rfl) ?_ _
      have hopo : w15.ownsRow 0 30 4 (.slice GD (ops ++ [enOp (2 + (i : Int))]).length cD) (ops ++ [enOp (2 + (i : Int))]).length (opCells (ops ++ [enOp (2 + (i : Int))])) := opsOwn (by
        rw [show oprC (enOp (2 + (i : Int))) = #[.int .i64 14, .int .i64 0, .int .i64 (2 + (i : Int)), .int .i64 (50 + (i : Int))] from by simp only [oprC, enOp]; rw [show (2 + (i : Int)) + 48 = 50 + i from by omega]]
        exact hown)
      have hset := hwx.set HKN.out.2.1 hq3 hopo
      rw [← HKN.out.1, List.length_append] at hset
      have hbz := below_set (below_tr (below_tr HB2.out hbd) hb15) (p := ⟨gW, q, none⟩) (by dsimp only; omega) (.slice GD (ops.length + 1) cD)
      have hkt := keptT_set kW q (.slice GD (ops.length + 1) cD)
      have kL3 := ((kL2.keep hbd).keep hb15).keptT hkt (by decide)
      have kM3 := ((kM2.keep hbd).keep hb15).keptT hkt (by decide)
      have hom3 := own_keptT (own_keepb (own_keepb HKN.out.2.2.1 hbd) hb15) hkt (by decide)
      rw [HKN.out.2.2.2.1] at kM3 hom3
      have hr1 : KRel w (gW + 1) gW bL b14 T m d l kids (.int .i64 ((i + 1 : Nat) : Int)) (w15.setCell ⟨gW, q, none⟩ (.slice GD (ops.length + 1) cD)) :=
        ⟨i + 1, by rw [HKS.out.2]; omega, rfl, hbz, hset, kL3, g2, cap2, kM3, hom3⟩
      have HR1 := Lib.hid hr1
      clear hr1 hset hbz hkt kL3 kM3 hom3 hopo hown hwx kW hb15 hS15 kL2 kM2 hbd kP cW hsO HW2 HB2 HKN q3
      generalize w15.setCell ⟨gW, q, none⟩ (.slice GD (ops.length + 1) cD) = w16 at *
      go_wp2_with fail
      exact ⟨HR1.out, by simp [intOf]; omega⟩
    · obtain rfl : i = nk := by omega
      have i1 : decide ((i : Int) < i) = false := by simp
      have i2 : decide (i < i) = false := by simp
      have hkw := kwant_inv kids i
      have hWQ := slWant_get hkw.len (show 0 < 3 by omega)
      obtain ⟨AO, cO, cW, hsO⟩ := hwa.at_ hWQ
      obtain ⟨ops, hops⟩ : ∃ ops, (kwant kids i).getD 0 [] = ops := ⟨_, rfl⟩
      rw [hops] at cW hsO
      have hol : ops.length ≤ 10 := by rw [← hops]; have := hkw.each 0; omega
      have hkn : gwant kids i = (kwant kids i).set 0 (ops ++ [syOp]) := by rw [gwant, hops]
      have HKN := Lib.hid (And.intro hkn (And.intro hkw.len (And.intro hom hsO)))
      have HB2 := Lib.hid hbl
      have HW2 := Lib.hid hwa
      clear hkw hWQ hops hkn hom hsO hwa
      go_upto_region 23 with fail
      clear i1 i2
      refine wp_region_E (S := fun w' => Below wr.drew.heap.size wr.drew w') (E := fun i => i == 12) (by kernel_rfl) ?_
      have kP := HW2.out.kP.drew
      replace cW : wr.drew.cell? ⟨gW, 0, none⟩ = some (.slice AO ops.length cO) := cW
      have hsO : wr.drew.ownsRow 0 30 4 (.slice AO ops.length cO) ops.length (opCells ops) := HKN.out.2.2.2
      have hbd := below_drew (Below.refl wr.heap.size wr)
      generalize wr.drew = w14 at *
      obtain ⟨ri, hri⟩ := op_rowT
      refine wpAnyE_take (i := 0) (oi := _) (v := .pointer (some ⟨gW + 1, 1, none⟩)) rfl (by kernel_rfl) (by kernel_rfl) (by kernel_rfl) (by kernel_rfl) (fun _ _ _ h => h) (Or.inl ⟨by rfl, ?_⟩) (Below.refl _ _) ?_
      · intro w' hSw
        (try simp only [List.getElem_toArray, List.getElem_cons_zero])
        go_simp
      (try simp only [List.getElem_toArray, List.getElem_cons_zero, Act.put, List.setIfInBounds_toArray, List.set_cons_zero, List.set_cons_succ])
      refine wpAnyE_take (i := 1) (oi := _) (v := .slice (some ⟨gW, 0, none⟩) 3 3) rfl (by kernel_rfl) (by kernel_rfl) (by kernel_rfl) (by kernel_rfl) (fun _ _ _ h => h) (Or.inl ⟨by rfl, ?_⟩) (Below.refl _ _) ?_
      · intro w' hSw
        have s1 := (kP.keep hSw).cell 1
        (try simp at s1)
        (try simp only [List.getElem_toArray, List.getElem_cons_succ, List.getElem_cons_zero])
        go_simp
      (try simp only [List.getElem_toArray, List.getElem_cons_succ, List.getElem_cons_zero, Act.put, List.setIfInBounds_toArray, List.set_cons_zero, List.set_cons_succ])
      refine wpAnyE_take (i := 3) (oi := _) (v := .pointer (some ⟨gW + 1, 1, none⟩)) rfl (by kernel_rfl) (by kernel_rfl) (by kernel_rfl) (by kernel_rfl) (fun _ _ _ h => h) (Or.inl ⟨by rfl, ?_⟩) (Below.refl _ _) ?_
      · intro w' hSw
        (try simp only [List.getElem_toArray, List.getElem_cons_succ, List.getElem_cons_zero])
        go_simp
      (try simp only [List.getElem_toArray, List.getElem_cons_succ, List.getElem_cons_zero, Act.put, List.setIfInBounds_toArray, List.set_cons_zero, List.set_cons_succ])
      refine wpAnyE_take (i := 4) (oi := _) (v := .slice (some ⟨gW, 0, none⟩) 3 3) rfl (by kernel_rfl) (by kernel_rfl) (by kernel_rfl) (by kernel_rfl) (fun _ _ _ h => h) (Or.inl ⟨by rfl, ?_⟩) (Below.refl _ _) ?_
      · intro w' hSw
        have s1 := (kP.keep hSw).cell 1
        (try simp at s1)
        (try simp only [List.getElem_toArray, List.getElem_cons_succ, List.getElem_cons_zero])
        go_simp
      (try simp only [List.getElem_toArray, List.getElem_cons_succ, List.getElem_cons_zero, Act.put, List.setIfInBounds_toArray, List.set_cons_zero, List.set_cons_succ])
      refine wpAnyE_take (i := 5) (oi := _) (v := .pointer (some ⟨gW, 0, none⟩)) rfl (by kernel_rfl) (by kernel_rfl) (by kernel_rfl) (by kernel_rfl) (fun _ _ _ h => h) (Or.inl ⟨by rfl, ?_⟩) (Below.refl _ _) ?_
      · intro w' hSw
        (try simp only [List.getElem_toArray, List.getElem_cons_succ, List.getElem_cons_zero])
        go_simp
      (try simp only [List.getElem_toArray, List.getElem_cons_succ, List.getElem_cons_zero, Act.put, List.setIfInBounds_toArray, List.set_cons_zero, List.set_cons_succ])
      refine wpAnyE_take (i := 6) (oi := _) (v := .slice AO ops.length cO) rfl (by kernel_rfl) (by kernel_rfl) (by kernel_rfl) (by kernel_rfl) (fun _ _ _ h => h) (Or.inl ⟨by rfl, ?_⟩) (Below.refl _ _) ?_
      · intro w' hSw
        have s1 := cell_keep hSw cW
        (try simp at s1)
        (try simp only [List.getElem_toArray, List.getElem_cons_succ, List.getElem_cons_zero])
        go_simp
      (try simp only [List.getElem_toArray, List.getElem_cons_succ, List.getElem_cons_zero, Act.put, List.setIfInBounds_toArray, List.set_cons_zero, List.set_cons_succ])
      refine wpAnyE_take (i := 8) (oi := _) (v := .agg #[.int .i64 13, .int .i64 0, .int .i64 1, .int .i64 0]) rfl (by kernel_rfl) (by kernel_rfl) (by kernel_rfl) (by kernel_rfl) (fun _ _ _ h => h) (Or.inl ⟨by rfl, ?_⟩) (Below.refl _ _) ?_
      · intro w' hSw
        (try simp only [List.getElem_toArray, List.getElem_cons_succ, List.getElem_cons_zero])
        go_simp
      (try simp only [List.getElem_toArray, List.getElem_cons_succ, List.getElem_cons_zero, Act.put, List.setIfInBounds_toArray, List.set_cons_zero, List.set_cons_succ])
      refine wpAnyE_app2 hri 2 7 9 10 112 117 119 120 (.tmp 116) (.tmp 118) rfl rfl rfl rfl ⟨rfl, rfl, rfl⟩ ⟨rfl, rfl, rfl⟩ ⟨rfl, rfl, rfl⟩ ⟨rfl, rfl, rfl⟩ (by kernel_rfl) (by kernel_rfl) (by kernel_rfl) (by kernel_rfl) (by kernel_rfl) (by kernel_rfl) (by simp) ⟨of_decide_eq_true (by kernel_rfl), of_decide_eq_true (by kernel_rfl), of_decide_eq_true (by kernel_rfl)⟩ w14.heap.size (Nat.le_refl _) (Below.refl _ _) (fun w1 w2 h12 h1 => h1.trans h12) AO ops.length cO (opCells ops) rfl (Src.own hsO (Nat.le_refl _)) (opCells_one ops) (.agg #[.int .i64 13, .int .i64 0, .int .i64 1, .int .i64 0]) #[.int .i64 13, .int .i64 0, .int .i64 1, .int .i64 0] rfl (fun w => by kernel_rfl) rfl (by simp [Value.oneCell']) (by omega) (by omega) ?_
      intro vA vB vC vD w15 hown hb15 hS15
      (try simp only [Act.put, List.setIfInBounds_toArray, List.set_cons_zero, List.set_cons_succ])
      obtain ⟨GD, cD, rfl⟩ := own_slice hown
      refine wpAnyE_take (i := 11) (oi := _) (v := .pointer (some ⟨gW, 0, none⟩)) rfl (by kernel_rfl) (by kernel_rfl) (by kernel_rfl) (by kernel_rfl) (fun _ _ _ h => h) (Or.inl ⟨by rfl, ?_⟩) hS15 ?_
      · intro w' hSw
        (try simp only [List.getElem_toArray, List.getElem_cons_succ, List.getElem_cons_zero])
        go_simp
      (try simp only [List.getElem_toArray, List.getElem_cons_succ, List.getElem_cons_zero, Act.put, List.setIfInBounds_toArray, List.set_cons_zero, List.set_cons_succ])
      have hwx := HW2.out.keep (below_tr hbd hb15)
      obtain ⟨rows, kW, hrs, _⟩ := hwx.kW
      have x1 := cell_keep hb15 cW
      have xf := kW.free 0
      have xl := kW.lt
      refine wpAnyE_one (i := 12) (o := _) (by kernel_rfl) rfl (fun K hK => ?_)
      (try simp only [List.getElem_toArray, List.getElem_cons_succ, List.getElem_cons_zero])
      go_simp
      clear x1 xf xl
      refine hK.out _ _ (fun h => absurd h (by decide)) ?_
      clear hK K
      refine wpAnyE_done (by kernel_rfl) ?_ _
      have hopo : w15.ownsRow 0 30 4 (.slice GD (ops ++ [syOp]).length cD) (ops ++ [syOp]).length (opCells (ops ++ [syOp])) := opsOwn hown
      have hset := hwx.set HKN.out.2.1 (show 0 < 3 by omega) hopo
      rw [← HKN.out.1, List.length_append] at hset
      have hbz := below_set (below_tr (below_tr HB2.out hbd) hb15) (p := ⟨gW, 0, none⟩) (by dsimp only; omega) (.slice GD (ops.length + 1) cD)
      have hkt := keptT_set kW 0 (.slice GD (ops.length + 1) cD)
      have kL3 := ((kL.keep hbd).keep hb15).keptT hkt (by decide)
      have kM3 := ((kM.keep hbd).keep hb15).keptT hkt (by decide)
      have hom3 := own_keptT (own_keepb (own_keepb HKN.out.2.2.1 hbd) hb15) hkt (by decide)
      have HR1 := Lib.hid (And.intro hset (And.intro hbz (And.intro kL3 (And.intro kM3 hom3))))
      clear hset hbz hkt kL3 kM3 hom3 hopo hown hwx kW hb15 hS15 kL kM hbd kP cW hsO HW2 HB2 HKN hbl
      generalize w15.setCell ⟨gW, 0, none⟩ (.slice GD (ops.length + 1) cD) = w16 at *
      have zM : b14 < w16.heap.size := HR1.out.2.2.2.1.lt
      go_upto_region 25 with (refine wpList_make_row rfl _ _ rfl 3 _ rfl rfl (run_make_seats _ 3 (by omega)) ?_)
      have kS := Bk.made w16 63 (seatZ 3)
      have hal := below_al (Below.refl w16.heap.size w16) (.cells (seatZ 3) 63)
      have hrep0 : GRep (w16.alloc (.cells (seatZ 3) 63)) (gW + 1) gW bL b14 w16.heap.size T m d (gwant kids i) l (go0 (kidM l i)) :=
        ⟨HR1.out.1.keep hal, HR1.out.2.2.1.keep hal, ⟨g', cap', HR1.out.2.2.2.1.keep hal, own_keepb HR1.out.2.2.2.2 hal⟩, ⟨_, seats_made kS⟩⟩
      have hb0 := below_al HR1.out.2.1 (.cells (seatZ 3) 63)
      have HC := Lib.hid (And.intro hrep0 hb0)
      clear hrep0 hb0 kS hal HR1
      generalize w16.alloc (.cells (seatZ 3) 63) = w17 at *
      generalize w16.heap.size = gs at *
      have hKI := kidM_inv HOK.out i (by rw [HTK.out]; omega) (by omega)
      have hGW := gwant_inv kids i
      have hGI := go0_inv hKI hGW
      have hPI := go0_pinv hKI
      have hml : (go0 (kidM l i)).m.length ≤ 1000 := by have := hKI.ml; have := HOK.out.s1; simp only [go0]; omega
      obtain ⟨s', hrun, hend⟩ := go_end (turns := turns) HOK.out (by rw [HTK.out]; omega) hGW.ok hGW.many (by omega) (fun k => by have := hGW.each k; omega) hGI rfl
      have HALL := Lib.hid (And.intro hGW (And.intro hGI (And.intro hPI (And.intro hml (And.intro hrun hend)))))
      clear hKI hGW hGI hPI hml hrun hend
      go_wp2_with fail
      refine go_loop_any _ _ _ _ _ _ _ _ _ _ _ _ _ _ _ _ _ _ _ _ _ _ _ _ _ _ _ _ _ _ _ _ _ _ _ _ _ _ _ _ _ _ _ _ _ _ _ _ _ _ _ _ _ _ _ _ _ _ _ _ _ _ _ _ _ _ _ _ _ _ _ _ _ _ _ _ _ _ _ _ _ _ _ _ _ _ _ _ _ _ _ _ _ _ _ _ _ _ _ _ _ _ _ _ _ _ _ _ _ _ _ _ _ _ _ _ _ _ _ _ _ _ _ _ _ _ _ _ _ _ _ _ _ _ _ _ _ _ _ _ _ _ _ _ _ _ _ _ _ _ _ _ _ _ _ _ _ _ _ _ _ _ _ _ _ _ _ _ _ _ _ _ _ _ _ _ _ _ _ _ _ _ _ _ _ _ _ _ _ _ _ _ _ _ _ _ _ _ _ _ _ _ _ _ _ _ _ _ _ _ _ _ _ _ _ _ _ _ _ _ _ _ _ _ _ _ _ _ _ _ _ _ _ _ _ _ _ _ _ _ _ _ _ _ _ _ _ _ _ _ _ _ _ _ _ _ _ _ _ _ _ _ _ _ _ _ _ _ _ _ _ _ _ _ _ _ _ _ _ _ _ _ _ _ _ _ _ _ _ _ _ _ _ w w17 T m d (gW + 1) gW bL b14 gs l i (i + 1) (gwant kids i) turns (go0 (kidM l i)) (fun _ _ _ _ _ h => h) HC.out.2 HM.out (by omega) HALL.out.1.len HT.out HOK.out (by omega) (by rw [HTK.out]; omega) (by omega) HALL.out.1.ok HALL.out.1.many (by omega) HALL.out.2.1 ⟨rfl, rfl, rfl, rfl⟩ HALL.out.2.2.1 HALL.out.2.2.2.1 HC.out.1 ?_
      intro x4 x23 x24 x25 x26 x27 x28 x29 x30 x31 x32 x123 x124 x125 x126 x127 x128 x129 x130 x131 x132 x133 x134 x135 x136 x137 x138 x139 x140 x141 x142 x143 x144 x145 x146 x147 x148 x149 x150 x151 x152 x153 x154 x155 x156 x157 x158 x159 x160 x161 x162 x163 x164 x165 x166 x167 x168 x169 x170 x171 x172 x173 x174 x175 x176 x177 x178 x179 x180 x181 x182 x183 x184 x185 x186 x187 x188 x189 x190 x191 x192 x193 x194 x195 x196 x197 x198 x199 x200 x201 x202 x203 x204 x205 x206 x207 x208 x209 x210 x211 x212 x213 x214 x215 x216 x217 x218 x219 x220 x221 x222 x223 x224 x225 x226 x227 x228 x229 x230 x231 x232 x233 x234 x235 x236 x237 x238 x239 x240 x241 x242 x243 x244 x245 x246 x247 x248 x249 x250 x251 x252 x253 x254 x255 x256 x257 x258 x21 wx hbx hrepx
      dsimp only [ptr]
      rw [HALL.out.2.2.2.2.1] at hrepx ⊢
      dsimp only at hrepx ⊢
      have hE := HALL.out.2.2.2.2.2
      rw [hE.go, hE.add, show ((i + 1 : Nat) : Int) = (i : Int) + 1 from rfl, show ((1 : Nat) : Int) = 1 from rfl]
      obtain ⟨gz, cz, kM, hom⟩ := hrepx.mem
      have kL := hrepx.kL
      have hkid : ∀ q : Nat, q < i → cellN s'.m (taskAt l (2 + (q : Int)) 2) = 50 + q ∧ cellN s'.m (taskAt l (2 + (q : Int)) 0) = 3 := by
        intro q hq
        obtain ⟨k, j, hk3, hj⟩ := HALL.out.1.has q hq
        obtain ⟨e1, e2⟩ := hE.kids k j _ hk3 hj rfl
        have ta : ∀ p : Int, 0 ≤ p → p < 4 → cellN s'.m (taskAt l (2 + (q : Int)) p) = s'.m.getD (taskAt l (2 + (q : Int)) p).toNat 0 := fun p p0 p4 => by
          have := task_lt HOK.out hE.ml (2 + q) p (by omega) (by rw [HTK.out]; omega) p0 p4
          unfold cellN
          rw [if_neg (by omega)]
        rw [ta 2 (by omega) (by omega), ta 0 (by omega) (by omega)]
        refine ⟨?_, e2⟩
        have e1' : s'.m.getD (taskAt l (2 + (q : Int)) 2).toNat 0 = 2 + (q : Int) + 48 := e1
        rw [e1']
        omega
      have hjn : cellN s'.m (taskAt l 1 1) = 1 := by
        have := task_lt HOK.out hE.ml 1 1 (by omega) HOK.out.t1 (by omega) (by omega)
        unfold cellN
        rw [if_neg (by omega)]
        exact hE.join
      generalize s'.m = zs at *
      have HKID := Lib.hid (And.intro hkid hjn)
      clear hkid hjn hE hrepx HALL
      have HBX := Lib.hid hbx
      have HST : Hid (Bk wx b14 39 #[.slice (some ⟨gz, 0, none⟩) zs.length cz] ∧ OwnInts wx 0 (.slice (some ⟨gz, 0, none⟩) zs.length cz) zs ∧ Bk wx bL 34 (lyC l)) := Lib.hid ⟨kM, hom, kL⟩
      clear hbx kM hom kL
      go_wp2_with fail
      go_loopw [33] (fun v33 wr' => ∃ k : Nat, k ≤ i ∧ v33 = .int .i64 k ∧ Below wx.heap.size wx wr') (fun v33 _ => i - (intOf v33).toNat)
      case atStart => exact ⟨0, Nat.zero_le _, rfl, Below.refl _ _⟩
      case round =>
        obtain ⟨k, hk, rfl, hbr⟩ := hrel
        obtain ⟨kM, hom, kL⟩ := HST.out
        replace kM := kM.keep hbr
        replace kL := kL.keep hbr
        replace hom := own_keepb hom hbr
        by_cases hlt2 : k < i
        · have j1 : (k : Int) < i := by omega
          have hkk := HKID.out.1 k hlt2
          have HKK := Lib.hid hkk
          clear hkk
          have hs1 : IntKind.i64.wrap (2 + (k : Int)) = 2 + k := IntWalk.i64_in _ (by omega)
          have hs2 : IntKind.i64.wrap (50 + (k : Int)) = 50 + k := IntWalk.i64_in _ (by omega)
          have HS12 := Lib.hid (And.intro hs1 hs2)
          clear hs1 hs2
          go_upto_region 56 with fail
          refine wp_region_E (S := fun w' => Below wr.drew.heap.size wr.drew w') (E := fun _ => false) (by kernel_rfl) ?_
          replace kM := kM.drew
          replace kL := kL.drew
          replace hom : OwnInts wr.drew 0 (.slice (some ⟨gz, 0, none⟩) zs.length cz) zs := hom
          replace hbr := below_drew hbr
          generalize wr.drew = w14 at *
          have hb1 := Below.refl w14.heap.size w14
          refine wpAnyE_take (i := 0) (oi := _) (v := .agg #[.slice (some ⟨gz, 0, none⟩) zs.length cz]) rfl (by kernel_rfl) (by kernel_rfl) (by kernel_rfl) (by kernel_rfl) (fun _ _ _ h => h) (Or.inl ⟨by rfl, ?_⟩) hb1 ?_
          · intro w' hSw
            have s1 := (kM.keep hSw).cell 0
            (try simp at s1)
            (try simp only [List.getElem_toArray, List.getElem_cons_zero])
            go_simp
          (try simp only [List.getElem_toArray, List.getElem_cons_zero, Act.put, List.setIfInBounds_toArray, List.set_cons_zero, List.set_cons_succ])
          refine wpAnyE_take (i := 1) (oi := _) (v := .agg (lyC l)) rfl (by kernel_rfl) (by kernel_rfl) (by kernel_rfl) (by kernel_rfl) (fun _ _ _ h => h) (Or.inl ⟨by rfl, ?_⟩) hb1 ?_
          · intro w' hSw
            (try simp only [List.getElem_toArray, List.getElem_cons_succ, List.getElem_cons_zero])
            simp only [execOp, Instr.loadAt, Instr.sureAddr, Sem.run_bind, Sem.run_pure]
            rw [show (Act.eval _ (Operand.tmp 7)) = Value.pointer (some ⟨bL, 0, none⟩) from rfl]
            simp only [Sem.run_pure, Result.andThen_ok, run_loadVar_row w' bL 34 34 (lyC l) (0, 0) _ (kL.keep hSw) Try.underlying34 rfl (by kernel_rfl)]
          (try simp only [List.getElem_toArray, List.getElem_cons_succ, List.getElem_cons_zero, Act.put, List.setIfInBounds_toArray, List.set_cons_zero, List.set_cons_succ])
          refine wpAnyE_take (i := 2) (oi := _) (v := .int .i64 (k : Nat)) rfl (by kernel_rfl) (by kernel_rfl) (by kernel_rfl) (by kernel_rfl) (fun _ _ _ h => h) (Or.inl ⟨by rfl, ?_⟩) hb1 ?_
          · intro w' hSw
            (try simp only [List.getElem_toArray, List.getElem_cons_succ, List.getElem_cons_zero])
            go_simp
          (try simp only [List.getElem_toArray, List.getElem_cons_succ, List.getElem_cons_zero, Act.put, List.setIfInBounds_toArray, List.set_cons_zero, List.set_cons_succ])
          refine wpAnyE_take (i := 3) (oi := _) (v := .int .i64 (2 + (k : Int))) rfl (by kernel_rfl) (by kernel_rfl) (by kernel_rfl) (by kernel_rfl) (fun _ _ _ h => h) (Or.inl ⟨by rfl, ?_⟩) hb1 ?_
          · intro w' hSw
            have g3 := HS12.out.1
            (try simp only [List.getElem_toArray, List.getElem_cons_succ, List.getElem_cons_zero])
            go_simp
          (try simp only [List.getElem_toArray, List.getElem_cons_succ, List.getElem_cons_zero, Act.put, List.setIfInBounds_toArray, List.set_cons_zero, List.set_cons_succ])
          refine wpAnyE_take (i := 6) (oi := _) (v := .int .i64 (k : Nat)) rfl (by kernel_rfl) (by kernel_rfl) (by kernel_rfl) (by kernel_rfl) (fun _ _ _ h => h) (Or.inl ⟨by rfl, ?_⟩) hb1 ?_
          · intro w' hSw
            (try simp only [List.getElem_toArray, List.getElem_cons_succ, List.getElem_cons_zero])
            go_simp
          (try simp only [List.getElem_toArray, List.getElem_cons_succ, List.getElem_cons_zero, Act.put, List.setIfInBounds_toArray, List.set_cons_zero, List.set_cons_succ])
          refine wpAnyE_take (i := 7) (oi := _) (v := .int .i64 (50 + (k : Int))) rfl (by kernel_rfl) (by kernel_rfl) (by kernel_rfl) (by kernel_rfl) (fun _ _ _ h => h) (Or.inl ⟨by rfl, ?_⟩) hb1 ?_
          · intro w' hSw
            have g3 := HS12.out.2
            (try simp only [List.getElem_toArray, List.getElem_cons_succ, List.getElem_cons_zero])
            go_simp
          (try simp only [List.getElem_toArray, List.getElem_cons_succ, List.getElem_cons_zero, Act.put, List.setIfInBounds_toArray, List.set_cons_zero, List.set_cons_succ])
          refine wpAnyE_one (i := 4) (o := _) (by kernel_rfl) rfl (fun K hK => ?_)
          (try simp only [List.getElem_toArray, List.getElem_cons_succ, List.getElem_cons_zero])
          go_simp
          (with_reducible refine (task_any l (2 + (k : Int)) 2 _ HOK.out.fit (by omega)).mono ?_)
          rintro e wa ⟨rfl, hb⟩
          have hb1n := below_tr hb1 hb
          clear hb
          refine hK.out _ _ (fun _ => hb1n) ?_
          clear hK K
          (try simp only [List.getElem_toArray, List.getElem_cons_succ, List.getElem_cons_zero, Act.put, List.setIfInBounds_toArray, List.set_cons_zero, List.set_cons_succ])
          refine wpAnyE_one (i := 5) (o := _) (by kernel_rfl) rfl (fun K hK => ?_)
          (try simp only [List.getElem_toArray, List.getElem_cons_succ, List.getElem_cons_zero])
          go_simp
          have sl : SlInt wa wa.heap.size (some ⟨gz, 0, none⟩) zs := slInt_own (base := 0) (n := zs.length) (cap := cz) (own_keepb hom hb1n)
          (with_reducible refine (cell_any (some ⟨gz, 0, none⟩) cz zs (taskAt l (2 + (k : Int)) 2) _ sl).mono ?_)
          rintro e wb ⟨rfl, hb⟩
          clear sl
          rw [HKK.out.1]
          have hb1nn := below_tr hb1n hb
          clear hb
          refine hK.out _ _ (fun _ => hb1nn) ?_
          clear hK K
          (try simp only [List.getElem_toArray, List.getElem_cons_succ, List.getElem_cons_zero, Act.put, List.setIfInBounds_toArray, List.set_cons_zero, List.set_cons_succ])
          refine wpAnyE_take (i := 8) (oi := _) (v := .bool false) rfl (by kernel_rfl) (by kernel_rfl) (by kernel_rfl) (by kernel_rfl) (fun _ _ _ h => h) (Or.inl ⟨by rfl, ?_⟩) hb1nn ?_
          · intro w' hSw
            (try simp only [List.getElem_toArray, List.getElem_cons_succ, List.getElem_cons_zero])
            go_simp
          (try simp only [List.getElem_toArray, List.getElem_cons_succ, List.getElem_cons_zero, Act.put, List.setIfInBounds_toArray, List.set_cons_zero, List.set_cons_succ])
          refine wpAnyE_take (i := 9) (oi := _) (v := .bool false) rfl (by kernel_rfl) (by kernel_rfl) (by kernel_rfl) (by kernel_rfl) (fun _ _ _ h => h) (Or.inl ⟨by rfl, ?_⟩) hb1nn ?_
          · intro w' hSw
            (try simp only [List.getElem_toArray, List.getElem_cons_succ, List.getElem_cons_zero])
            go_simp
          (try simp only [List.getElem_toArray, List.getElem_cons_succ, List.getElem_cons_zero, Act.put, List.setIfInBounds_toArray, List.set_cons_zero, List.set_cons_succ])
          refine wpAnyE_take (i := 10) (oi := _) (v := .agg #[.slice (some ⟨gz, 0, none⟩) zs.length cz]) rfl (by kernel_rfl) (by kernel_rfl) (by kernel_rfl) (by kernel_rfl) (fun _ _ _ h => h) (Or.inl ⟨by rfl, ?_⟩) hb1nn ?_
          · intro w' hSw
            have s1 := (kM.keep hSw).cell 0
            (try simp at s1)
            (try simp only [List.getElem_toArray, List.getElem_cons_succ, List.getElem_cons_zero])
            go_simp
          (try simp only [List.getElem_toArray, List.getElem_cons_succ, List.getElem_cons_zero, Act.put, List.setIfInBounds_toArray, List.set_cons_zero, List.set_cons_succ])
          refine wpAnyE_take (i := 11) (oi := _) (v := .agg (lyC l)) rfl (by kernel_rfl) (by kernel_rfl) (by kernel_rfl) (by kernel_rfl) (fun _ _ _ h => h) (Or.inl ⟨by rfl, ?_⟩) hb1nn ?_
          · intro w' hSw
            (try simp only [List.getElem_toArray, List.getElem_cons_succ, List.getElem_cons_zero])
            simp only [execOp, Instr.loadAt, Instr.sureAddr, Sem.run_bind, Sem.run_pure]
            rw [show (Act.eval _ (Operand.tmp 7)) = Value.pointer (some ⟨bL, 0, none⟩) from rfl]
            simp only [Sem.run_pure, Result.andThen_ok, run_loadVar_row w' bL 34 34 (lyC l) (0, 0) _ (kL.keep hSw) Try.underlying34 rfl (by kernel_rfl)]
          (try simp only [List.getElem_toArray, List.getElem_cons_succ, List.getElem_cons_zero, Act.put, List.setIfInBounds_toArray, List.set_cons_zero, List.set_cons_succ])
          refine wpAnyE_take (i := 12) (oi := _) (v := .int .i64 (k : Nat)) rfl (by kernel_rfl) (by kernel_rfl) (by kernel_rfl) (by kernel_rfl) (fun _ _ _ h => h) (Or.inl ⟨by rfl, ?_⟩) hb1nn ?_
          · intro w' hSw
            (try simp only [List.getElem_toArray, List.getElem_cons_succ, List.getElem_cons_zero])
            go_simp
          (try simp only [List.getElem_toArray, List.getElem_cons_succ, List.getElem_cons_zero, Act.put, List.setIfInBounds_toArray, List.set_cons_zero, List.set_cons_succ])
          refine wpAnyE_take (i := 13) (oi := _) (v := .int .i64 (2 + (k : Int))) rfl (by kernel_rfl) (by kernel_rfl) (by kernel_rfl) (by kernel_rfl) (fun _ _ _ h => h) (Or.inl ⟨by rfl, ?_⟩) hb1nn ?_
          · intro w' hSw
            have g3 := HS12.out.1
            (try simp only [List.getElem_toArray, List.getElem_cons_succ, List.getElem_cons_zero])
            go_simp
          (try simp only [List.getElem_toArray, List.getElem_cons_succ, List.getElem_cons_zero, Act.put, List.setIfInBounds_toArray, List.set_cons_zero, List.set_cons_succ])
          refine wpAnyE_one (i := 14) (o := _) (by kernel_rfl) rfl (fun K hK => ?_)
          (try simp only [List.getElem_toArray, List.getElem_cons_succ, List.getElem_cons_zero])
          go_simp
          (with_reducible refine (task_any l (2 + (k : Int)) 0 _ HOK.out.fit (by omega)).mono ?_)
          rintro e wd ⟨rfl, hb⟩
          have hb1nnn := below_tr hb1nn hb
          clear hb
          refine hK.out _ _ (fun _ => hb1nnn) ?_
          clear hK K
          (try simp only [List.getElem_toArray, List.getElem_cons_succ, List.getElem_cons_zero, Act.put, List.setIfInBounds_toArray, List.set_cons_zero, List.set_cons_succ])
          refine wpAnyE_one (i := 15) (o := _) (by kernel_rfl) rfl (fun K hK => ?_)
          (try simp only [List.getElem_toArray, List.getElem_cons_succ, List.getElem_cons_zero])
          go_simp
          have sl : SlInt wd wd.heap.size (some ⟨gz, 0, none⟩) zs := slInt_own (base := 0) (n := zs.length) (cap := cz) (own_keepb hom hb1nnn)
          (with_reducible refine (cell_any (some ⟨gz, 0, none⟩) cz zs (taskAt l (2 + (k : Int)) 0) _ sl).mono ?_)
          rintro e we ⟨rfl, hb⟩
          clear sl
          rw [HKK.out.2]
          have hb1nnnn := below_tr hb1nnn hb
          clear hb
          refine hK.out _ _ (fun _ => hb1nnnn) ?_
          clear hK K
          (try simp only [List.getElem_toArray, List.getElem_cons_succ, List.getElem_cons_zero, Act.put, List.setIfInBounds_toArray, List.set_cons_zero, List.set_cons_succ])
          refine wpAnyE_take (i := 16) (oi := _) (v := .bool false) rfl (by kernel_rfl) (by kernel_rfl) (by kernel_rfl) (by kernel_rfl) (fun _ _ _ h => h) (Or.inl ⟨by rfl, ?_⟩) hb1nnnn ?_
          · intro w' hSw
            (try simp only [List.getElem_toArray, List.getElem_cons_succ, List.getElem_cons_zero])
            go_simp
          (try simp only [List.getElem_toArray, List.getElem_cons_succ, List.getElem_cons_zero, Act.put, List.setIfInBounds_toArray, List.set_cons_zero, List.set_cons_succ])
          refine wpAnyE_take (i := 17) (oi := _) (v := .bool false) rfl (by kernel_rfl) (by kernel_rfl) (by kernel_rfl) (by kernel_rfl) (fun _ _ _ h => h) (Or.inl ⟨by rfl, ?_⟩) hb1nnnn ?_
          · intro w' hSw
            (try simp only [List.getElem_toArray, List.getElem_cons_succ, List.getElem_cons_zero])
            go_simp
          (try simp only [List.getElem_toArray, List.getElem_cons_succ, List.getElem_cons_zero, Act.put, List.setIfInBounds_toArray, List.set_cons_zero, List.set_cons_succ])
          refine wpAnyE_done (by kernel_rfl) ?_ _
          have hbf := below_tr hbr hb1nnnn
          clear hb1 hb1n hb1nn hb1nnn hb1nnnn kM kL hom hbr
          go_wp2_with fail
          go_roundw
          case rel => exact ⟨k + 1, by omega, by go_num, hbf⟩
          case measure => simp [intOf]; omega
        · obtain rfl : k = i := by omega
          have j1 : decide ((k : Int) < k) = false := by simp
          have j2 : decide (k < k) = false := by simp
          have hs1 : IntKind.i64.wrap ((k : Int) + 1) = k + 1 := IntWalk.i64_in _ (by omega)
          have HS12 := Lib.hid hs1
          clear hs1
          go_upto_region 58 with fail
          clear j1 j2
          refine wp_region_E (S := fun w' => Below wr.drew.heap.size wr.drew w') (E := fun _ => false) (by kernel_rfl) ?_
          replace kM := kM.drew
          replace kL := kL.drew
          replace hom : OwnInts wr.drew 0 (.slice (some ⟨gz, 0, none⟩) zs.length cz) zs := hom
          replace hbr := below_drew hbr
          generalize wr.drew = w14 at *
          have hb1 := Below.refl w14.heap.size w14
          refine wpAnyE_take (i := 0) (oi := _) (v := .bool true) rfl (by kernel_rfl) (by kernel_rfl) (by kernel_rfl) (by kernel_rfl) (fun _ _ _ h => h) (Or.inl ⟨by rfl, ?_⟩) hb1 ?_
          · intro w' hSw
            (try simp only [List.getElem_toArray, List.getElem_cons_zero])
            go_simp
          (try simp only [List.getElem_toArray, List.getElem_cons_zero, Act.put, List.setIfInBounds_toArray, List.set_cons_zero, List.set_cons_succ])
          refine wpAnyE_take (i := 1) (oi := _) (v := .bool true) rfl (by kernel_rfl) (by kernel_rfl) (by kernel_rfl) (by kernel_rfl) (fun _ _ _ h => h) (Or.inl ⟨by rfl, ?_⟩) hb1 ?_
          · intro w' hSw
            (try simp only [List.getElem_toArray, List.getElem_cons_succ, List.getElem_cons_zero])
            go_simp
          (try simp only [List.getElem_toArray, List.getElem_cons_succ, List.getElem_cons_zero, Act.put, List.setIfInBounds_toArray, List.set_cons_zero, List.set_cons_succ])
          refine wpAnyE_take (i := 2) (oi := _) (v := .int .i64 1) rfl (by kernel_rfl) (by kernel_rfl) (by kernel_rfl) (by kernel_rfl) (fun _ _ _ h => h) (Or.inl ⟨by rfl, ?_⟩) hb1 ?_
          · intro w' hSw
            (try simp only [List.getElem_toArray, List.getElem_cons_succ, List.getElem_cons_zero])
            go_simp
          (try simp only [List.getElem_toArray, List.getElem_cons_succ, List.getElem_cons_zero, Act.put, List.setIfInBounds_toArray, List.set_cons_zero, List.set_cons_succ])
          refine wpAnyE_take (i := 3) (oi := _) (v := .bool true) rfl (by kernel_rfl) (by kernel_rfl) (by kernel_rfl) (by kernel_rfl) (fun _ _ _ h => h) (Or.inl ⟨by rfl, ?_⟩) hb1 ?_
          · intro w' hSw
            (try simp only [List.getElem_toArray, List.getElem_cons_succ, List.getElem_cons_zero])
            go_simp
          (try simp only [List.getElem_toArray, List.getElem_cons_succ, List.getElem_cons_zero, Act.put, List.setIfInBounds_toArray, List.set_cons_zero, List.set_cons_succ])
          refine wpAnyE_take (i := 4) (oi := _) (v := .bool true) rfl (by kernel_rfl) (by kernel_rfl) (by kernel_rfl) (by kernel_rfl) (fun _ _ _ h => h) (Or.inl ⟨by rfl, ?_⟩) hb1 ?_
          · intro w' hSw
            (try simp only [List.getElem_toArray, List.getElem_cons_succ, List.getElem_cons_zero])
            go_simp
          (try simp only [List.getElem_toArray, List.getElem_cons_succ, List.getElem_cons_zero, Act.put, List.setIfInBounds_toArray, List.set_cons_zero, List.set_cons_succ])
          refine wpAnyE_take (i := 5) (oi := _) (v := .bool true) rfl (by kernel_rfl) (by kernel_rfl) (by kernel_rfl) (by kernel_rfl) (fun _ _ _ h => h) (Or.inl ⟨by rfl, ?_⟩) hb1 ?_
          · intro w' hSw
            (try simp only [List.getElem_toArray, List.getElem_cons_succ, List.getElem_cons_zero])
            go_simp
          (try simp only [List.getElem_toArray, List.getElem_cons_succ, List.getElem_cons_zero, Act.put, List.setIfInBounds_toArray, List.set_cons_zero, List.set_cons_succ])
          refine wpAnyE_take (i := 6) (oi := _) (v := .int .i64 ((k : Int) + 1)) rfl (by kernel_rfl) (by kernel_rfl) (by kernel_rfl) (by kernel_rfl) (fun _ _ _ h => h) (Or.inl ⟨by rfl, ?_⟩) hb1 ?_
          · intro w' hSw
            (try simp only [List.getElem_toArray, List.getElem_cons_succ, List.getElem_cons_zero])
            go_simp
          (try simp only [List.getElem_toArray, List.getElem_cons_succ, List.getElem_cons_zero, Act.put, List.setIfInBounds_toArray, List.set_cons_zero, List.set_cons_succ])
          refine wpAnyE_take (i := 7) (oi := _) (v := .slice KA k ck) rfl (by kernel_rfl) (by kernel_rfl) (by kernel_rfl) (by kernel_rfl) (fun _ _ _ h => h) (Or.inl ⟨by rfl, ?_⟩) hb1 ?_
          · intro w' hSw
            (try simp only [List.getElem_toArray, List.getElem_cons_succ, List.getElem_cons_zero])
            go_simp
          (try simp only [List.getElem_toArray, List.getElem_cons_succ, List.getElem_cons_zero, Act.put, List.setIfInBounds_toArray, List.set_cons_zero, List.set_cons_succ])
          refine wpAnyE_take (i := 8) (oi := _) (v := .int .i64 (k : Nat)) rfl (by kernel_rfl) (by kernel_rfl) (by kernel_rfl) (by kernel_rfl) (fun _ _ _ h => h) (Or.inl ⟨by rfl, ?_⟩) hb1 ?_
          · intro w' hSw
            (try simp only [List.getElem_toArray, List.getElem_cons_succ, List.getElem_cons_zero])
            go_simp
          (try simp only [List.getElem_toArray, List.getElem_cons_succ, List.getElem_cons_zero, Act.put, List.setIfInBounds_toArray, List.set_cons_zero, List.set_cons_succ])
          refine wpAnyE_take (i := 9) (oi := _) (v := .int .i64 ((k : Int) + 1)) rfl (by kernel_rfl) (by kernel_rfl) (by kernel_rfl) (by kernel_rfl) (fun _ _ _ h => h) (Or.inl ⟨by rfl, ?_⟩) hb1 ?_
          · intro w' hSw
            have g3 := HS12.out
            (try simp only [List.getElem_toArray, List.getElem_cons_succ, List.getElem_cons_zero])
            go_simp
          (try simp only [List.getElem_toArray, List.getElem_cons_succ, List.getElem_cons_zero, Act.put, List.setIfInBounds_toArray, List.set_cons_zero, List.set_cons_succ])
          refine wpAnyE_take (i := 10) (oi := _) (v := .bool true) rfl (by kernel_rfl) (by kernel_rfl) (by kernel_rfl) (by kernel_rfl) (fun _ _ _ h => h) (Or.inl ⟨by rfl, ?_⟩) hb1 ?_
          · intro w' hSw
            (try simp only [List.getElem_toArray, List.getElem_cons_succ, List.getElem_cons_zero])
            go_simp
          (try simp only [List.getElem_toArray, List.getElem_cons_succ, List.getElem_cons_zero, Act.put, List.setIfInBounds_toArray, List.set_cons_zero, List.set_cons_succ])
          refine wpAnyE_take (i := 11) (oi := _) (v := .bool true) rfl (by kernel_rfl) (by kernel_rfl) (by kernel_rfl) (by kernel_rfl) (fun _ _ _ h => h) (Or.inl ⟨by rfl, ?_⟩) hb1 ?_
          · intro w' hSw
            (try simp only [List.getElem_toArray, List.getElem_cons_succ, List.getElem_cons_zero])
            go_simp
          (try simp only [List.getElem_toArray, List.getElem_cons_succ, List.getElem_cons_zero, Act.put, List.setIfInBounds_toArray, List.set_cons_zero, List.set_cons_succ])
          refine wpAnyE_take (i := 12) (oi := _) (v := .bool true) rfl (by kernel_rfl) (by kernel_rfl) (by kernel_rfl) (by kernel_rfl) (fun _ _ _ h => h) (Or.inl ⟨by rfl, ?_⟩) hb1 ?_
          · intro w' hSw
            (try simp only [List.getElem_toArray, List.getElem_cons_succ, List.getElem_cons_zero])
            go_simp
          (try simp only [List.getElem_toArray, List.getElem_cons_succ, List.getElem_cons_zero, Act.put, List.setIfInBounds_toArray, List.set_cons_zero, List.set_cons_succ])
          refine wpAnyE_take (i := 13) (oi := _) (v := .agg #[.slice (some ⟨gz, 0, none⟩) zs.length cz]) rfl (by kernel_rfl) (by kernel_rfl) (by kernel_rfl) (by kernel_rfl) (fun _ _ _ h => h) (Or.inl ⟨by rfl, ?_⟩) hb1 ?_
          · intro w' hSw
            have s1 := (kM.keep hSw).cell 0
            (try simp at s1)
            (try simp only [List.getElem_toArray, List.getElem_cons_succ, List.getElem_cons_zero])
            go_simp
          (try simp only [List.getElem_toArray, List.getElem_cons_succ, List.getElem_cons_zero, Act.put, List.setIfInBounds_toArray, List.set_cons_zero, List.set_cons_succ])
          refine wpAnyE_take (i := 14) (oi := _) (v := .agg (lyC l)) rfl (by kernel_rfl) (by kernel_rfl) (by kernel_rfl) (by kernel_rfl) (fun _ _ _ h => h) (Or.inl ⟨by rfl, ?_⟩) hb1 ?_
          · intro w' hSw
            (try simp only [List.getElem_toArray, List.getElem_cons_succ, List.getElem_cons_zero])
            simp only [execOp, Instr.loadAt, Instr.sureAddr, Sem.run_bind, Sem.run_pure]
            rw [show (Act.eval _ (Operand.tmp 7)) = Value.pointer (some ⟨bL, 0, none⟩) from rfl]
            simp only [Sem.run_pure, Result.andThen_ok, run_loadVar_row w' bL 34 34 (lyC l) (0, 0) _ (kL.keep hSw) Try.underlying34 rfl (by kernel_rfl)]
          (try simp only [List.getElem_toArray, List.getElem_cons_succ, List.getElem_cons_zero, Act.put, List.setIfInBounds_toArray, List.set_cons_zero, List.set_cons_succ])
          refine wpAnyE_one (i := 15) (o := _) (by kernel_rfl) rfl (fun K hK => ?_)
          (try simp only [List.getElem_toArray, List.getElem_cons_succ, List.getElem_cons_zero])
          go_simp
          (with_reducible refine (task_any l 1 1 _ HOK.out.fit (by omega)).mono ?_)
          rintro e wa ⟨rfl, hb⟩
          have hb1n := below_tr hb1 hb
          clear hb
          refine hK.out _ _ (fun _ => hb1n) ?_
          clear hK K
          (try simp only [List.getElem_toArray, List.getElem_cons_succ, List.getElem_cons_zero, Act.put, List.setIfInBounds_toArray, List.set_cons_zero, List.set_cons_succ])
          refine wpAnyE_one (i := 16) (o := _) (by kernel_rfl) rfl (fun K hK => ?_)
          (try simp only [List.getElem_toArray, List.getElem_cons_succ, List.getElem_cons_zero])
          go_simp
          have sl : SlInt wa wa.heap.size (some ⟨gz, 0, none⟩) zs := slInt_own (base := 0) (n := zs.length) (cap := cz) (own_keepb hom hb1n)
          (with_reducible refine (cell_any (some ⟨gz, 0, none⟩) cz zs (taskAt l 1 1) _ sl).mono ?_)
          rintro e wb ⟨rfl, hb⟩
          clear sl
          rw [HKID.out.2]
          have hb1nn := below_tr hb1n hb
          clear hb
          refine hK.out _ _ (fun _ => hb1nn) ?_
          clear hK K
          (try simp only [List.getElem_toArray, List.getElem_cons_succ, List.getElem_cons_zero, Act.put, List.setIfInBounds_toArray, List.set_cons_zero, List.set_cons_succ])
          refine wpAnyE_take (i := 17) (oi := _) (v := .bool true) rfl (by kernel_rfl) (by kernel_rfl) (by kernel_rfl) (by kernel_rfl) (fun _ _ _ h => h) (Or.inl ⟨by rfl, ?_⟩) hb1nn ?_
          · intro w' hSw
            (try simp only [List.getElem_toArray, List.getElem_cons_succ, List.getElem_cons_zero])
            go_simp
          (try simp only [List.getElem_toArray, List.getElem_cons_succ, List.getElem_cons_zero, Act.put, List.setIfInBounds_toArray, List.set_cons_zero, List.set_cons_succ])
          refine wpAnyE_take (i := 18) (oi := _) (v := .bool true) rfl (by kernel_rfl) (by kernel_rfl) (by kernel_rfl) (by kernel_rfl) (fun _ _ _ h => h) (Or.inl ⟨by rfl, ?_⟩) hb1nn ?_
          · intro w' hSw
            (try simp only [List.getElem_toArray, List.getElem_cons_succ, List.getElem_cons_zero])
            go_simp
          (try simp only [List.getElem_toArray, List.getElem_cons_succ, List.getElem_cons_zero, Act.put, List.setIfInBounds_toArray, List.set_cons_zero, List.set_cons_succ])
          refine wpAnyE_one (i := 19) (o := _) (by kernel_rfl) rfl (fun K hK => ?_)
          (try simp only [List.getElem_toArray, List.getElem_cons_succ, List.getElem_cons_zero])
          go_simp
          refine hK.out _ _ (fun _ => hb1nn) ?_
          clear hK K
          (try simp only [List.getElem_toArray, List.getElem_cons_succ, List.getElem_cons_zero, Act.put, List.setIfInBounds_toArray, List.set_cons_zero, List.set_cons_succ])
          refine wpAnyE_done (by kernel_rfl) ?_ _
          have hbf := below_tr (below_tr HBX.out hbr) hb1nn
          go_wp2
          go_ret
          exact ⟨rfl, hbf⟩
end Go.Proofs.Ytcjaomiihajjbaa
