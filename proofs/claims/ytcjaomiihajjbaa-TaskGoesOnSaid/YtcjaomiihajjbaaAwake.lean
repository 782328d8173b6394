/- law25.awake. Printed by awake_gen.py. -/
import Derived.Test.YtcjaomiihajjbaaAwakeP
namespace Go.Proofs.Ytcjaomiihajjbaa
open Go.RowKit
attribute [local go_sem ↓] Go.wp_at_zero Go.wp_at_succ

abbrev awOps : Array Value := #[.int .i64 11, .int .i64 0, .int .i64 1, .int .i64 0, .int .i64 12, .int .i64 0, .int .i64 2, .int .i64 0, .int .i64 12, .int .i64 0, .int .i64 2, .int .i64 0, .int .i64 13, .int .i64 0, .int .i64 1, .int .i64 0, .int .i64 14, .int .i64 0, .int .i64 2, .int .i64 7, .int .i64 15, .int .i64 0, .int .i64 2, .int .i64 0, .int .i64 11, .int .i64 0, .int .i64 1, .int .i64 0]
theorem awake_slops {w : World} {g B : Nat} (k : Bk w g 30 awOps) (hB : g < B) : SlOps w B (some ⟨g, 0, none⟩) [⟨11, 0, 1, 0⟩, ⟨12, 0, 2, 0⟩, ⟨12, 0, 2, 0⟩, ⟨13, 0, 1, 0⟩, ⟨14, 0, 2, 7⟩, ⟨15, 0, 2, 0⟩, ⟨11, 0, 1, 0⟩] := by
  intro _
  refine ⟨g, 0, rfl, hB, fun j op hj => ?_⟩
  have hj7 : j = 0 ∨ j = 1 ∨ j = 2 ∨ j = 3 ∨ j = 4 ∨ j = 5 ∨ j = 6 := by
    have := (List.getElem?_eq_some_iff.1 hj).1
    simp at this
    omega
  rcases hj7 with rfl | rfl | rfl | rfl | rfl | rfl | rfl <;> (simp at hj; subst hj; simp only [Bk.cell k]; simp)
theorem awake_slwant {w : World} {g g1 B : Nat} (k : Bk w g 30 awOps) (k1 : Bk w g1 28 #[.slice (some ⟨g, 0, none⟩) 7 7]) (hB : g < B) (hB1 : g1 < B) : SlWant w B (some ⟨g1, 0, none⟩) awakeW := by
  intro _
  refine ⟨g1, 0, rfl, hB1, fun j ops hj => ?_⟩
  have hj0 : j = 0 := by
    have := (List.getElem?_eq_some_iff.1 hj).1
    simp [awakeW] at this
    omega
  subst hj0
  simp [awakeW] at hj
  subst hj
  refine ⟨some ⟨g, 0, none⟩, 7, ?_, awake_slops k hB⟩
  rw [Bk.cell k1]
  rfl
/-- Ints of two rows that are one list. -/
theorem ints_same (A A' : Option Addr) (c c' n : Nat) (xs : List Int) (w : World) (hn : xs.length = n) (h : SlInt w w.heap.size A xs) (h' : SlInt w w.heap.size A' xs) (hm : n ≤ 1000000) :
    Calls Try.prog 16 #[.slice A n c, .slice A' n c'] w (BoolBelow true w) := by
  subst hn
  have := ints_any A A' c c' xs xs w h h' hm hm
  rwa [show decide (xs = xs) = true by simp] at this
def ARel (w0 : World) (bM b1 : Nat) (A : Option Addr) (cap : Nat) (outs : List StepM) (g c : Nat) (zs : List Int) (pc : Array Value) (v4 v5 : Value) (wr : World) : Prop :=
  ∃ k : Nat, k ≤ outs.length ∧ v5 = .int .i64 k ∧ Below w0.heap.size w0 wr ∧ Bk wr bM 39 #[.slice (some ⟨g, 0, none⟩) zs.length c] ∧ Bk wr b1 27 pc ∧ wr.ownsRow w0.heap.size 52 18 (.slice A outs.length cap) outs.length (stepCells outs) ∧ OwnInts wr 0 (.slice (some ⟨g, 0, none⟩) zs.length c) zs ∧ OwnInts wr (bM + 1) v4 (toldM (outs.take k))
set_option maxRecDepth 100000 in
set_option maxHeartbeats 4000000 in
theorem awake_any (w : World) : Calls Try.prog 7 #[] w (BoolBelow true w) := by
  go_enter Try.func7, Try.ntmps7
  go_wp2_with fail
  have kO := ((Bk.made w 30 awOps).alloc (.cells #[.slice (some ⟨w.heap.size, 0, none⟩) 7 7] 28)).alloc (.cells (playC 0 (some ⟨w.heap.size + 1, 0, none⟩) 1 1 none 0 0) 27)
  have kW := (Bk.new (w.alloc (.cells awOps 30)) (g := w.heap.size + 1) (by simp) 28 #[.slice (some ⟨w.heap.size, 0, none⟩) 7 7]).alloc (.cells (playC 0 (some ⟨w.heap.size + 1, 0, none⟩) 1 1 none 0 0) 27)
  have kP := Bk.new ((w.alloc (.cells awOps 30)).alloc (.cells #[.slice (some ⟨w.heap.size, 0, none⟩) 7 7] 28)) (g := w.heap.size + 1 + 1) (by simp) 27 (playC 0 (some ⟨w.heap.size + 1, 0, none⟩) 1 1 none 0 0)
  have hbl := below_al (below_al (below_al (Below.refl w.heap.size w) (.cells awOps 30)) (.cells #[.slice (some ⟨w.heap.size, 0, none⟩) 7 7] 28)) (.cells (playC 0 (some ⟨w.heap.size + 1, 0, none⟩) 1 1 none 0 0) 27)
  generalize ((w.alloc (.cells awOps 30)).alloc (.cells #[.slice (some ⟨w.heap.size, 0, none⟩) 7 7] 28)).alloc (.cells (playC 0 (some ⟨w.heap.size + 1, 0, none⟩) 1 1 none 0 0) 27) = w1 at *
  have hsw := awake_slwant kO kW kO.lt kW.lt
  have hsu : SlU8 w1 w1.heap.size none [] := fun h => absurd h (by simp)
  (with_reducible refine (played_any 0 (some ⟨w.heap.size + 1, 0, none⟩) 1 1 none 0 0 awakeW [] _ (by omega) (by omega) (by omega) (by omega) rfl rfl (by omega) hsw hsu awakeW_ok).mono ?_)
  rintro e w2 ⟨A, cap, g, c, rfl, hsteps, hmem, hb⟩
  rw [show (runP (playL 1 0) awakeW (startP (playL 1 0) 1 (beginM (playL 1 0))) (whosP 1 [])).1 = awakeS from rfl] at *
  replace kP := kP.keep hb
  replace hsteps := own_lower hsteps hbl.size
  replace hbl := below_tr hbl hb
  clear hb hsw hsu kO kW
  obtain ⟨outs, hos⟩ : ∃ l, awakeS.out = l := ⟨_, rfl⟩
  obtain ⟨zs, hzs⟩ : ∃ l, awakeS.m = l := ⟨_, rfl⟩
  have hT := awake_told
  have hV := awake_vals
  have hW := awake_words
  have hJ := awake_joins
  have hD := awake_done
  have hZ := awake_len
  have hol := awake_out
  rw [hos] at hT hV hol hsteps
  rw [hzs] at hW hJ hD hZ hmem
  rw [hos, hzs]
  clear hos hzs
  have HT := Lib.hid hT
  have HV := Lib.hid hV
  have HWJ := Lib.hid (And.intro hW (And.intro hJ (And.intro hD hZ)))
  clear hT hV hW hJ hD hZ
  obtain ⟨i0, hi0, hz0, hz1, hz2⟩ := info_parts int_info
  go_wp2_with fail
  have hgM : g < w2.heap.size := (World.ownsRow.lt hmem g rfl).2
  have kM := Bk.made w2 39 #[.slice (some ⟨g, 0, none⟩) zs.length c]
  replace kP := kP.alloc (.cells #[.slice (some ⟨g, 0, none⟩) zs.length c] 39)
  replace hsteps := World.ownsRow.alloc hsteps (.cells #[.slice (some ⟨g, 0, none⟩) zs.length c] 39)
  replace hmem := hmem.alloc (.cells #[.slice (some ⟨g, 0, none⟩) zs.length c] 39)
  replace hbl := below_al hbl (.cells #[.slice (some ⟨g, 0, none⟩) zs.length c] 39)
  have hsz : (w2.alloc (.cells #[.slice (some ⟨g, 0, none⟩) zs.length c] 39)).heap.size = w2.heap.size + 1 := by simp
  have hsw : w.heap.size ≤ w2.heap.size := by have := kP.lt; omega
  have hPM : w.heap.size + 1 + 1 < w2.heap.size + 1 := by have := kP.lt; omega
  have hrel0 : ARel w w2.heap.size (w.heap.size + 1 + 1) A cap outs g c zs (playC 0 (some ⟨w.heap.size + 1, 0, none⟩) 1 1 none 0 0) (.slice none 0 0) (.int .i64 0) (w2.alloc (.cells #[.slice (some ⟨g, 0, none⟩) zs.length c] 39)) :=
    ⟨0, Nat.zero_le _, rfl, hbl, kM, kP, hsteps, hmem, World.ownsRow_nil _ _ _ _⟩
  have HR := Lib.hid hrel0
  clear hrel0 hbl kM kP hsteps hmem hsz
  generalize w2.alloc (.cells #[.slice (some ⟨g, 0, none⟩) zs.length c] 39) = w3 at *
  generalize w2.heap.size = bM at *
  go_loopw [4, 5] (fun v4 v5 wr => ARel w bM (w.heap.size + 1 + 1) A cap outs g c zs (playC 0 (some ⟨w.heap.size + 1, 0, none⟩) 1 1 none 0 0) v4 v5 wr) (fun _ v5 _ => outs.length - (intOf v5).toNat)
  case atStart => exact HR.out
  case round =>
    clear HR
    obtain ⟨k, hk, rfl, hbl, kM, kP, hsteps, hmem, hown⟩ := hrel
    by_cases hlt : k < outs.length
    · obtain ⟨x, hx⟩ : ∃ x, outs[k]? = some x := ⟨_, List.getElem?_eq_getElem hlt⟩
      obtain ⟨gA, capA, hA, hA1, hA2⟩ := World.ownsRow.form hsteps (by omega)
      injection hA with hA _ hcA
      subst hA
      have cl : ∀ i, i < 18 → wr.cell? ⟨gA, k * 18 + i, none⟩ = (stepC x)[i]? := fun i hi => by
        rw [World.ownsRow.cellAt hsteps (k * 18 + i) (by omega)]
        exact stepCells_get outs k x hx i hi
      have d0 := cl 12 (by omega)
      have d1 := cl 13 (by omega)
      have d2 := cl 14 (by omega)
      simp at d0 d1 d2
      have hxv := HV.out x (List.mem_of_getElem? hx)
      have htk : toldM (outs.take (k + 1)) = toldM (outs.take k) ++ if x.done then [10 * x.val + if x.is then 1 else 0] else [] := by
        rw [List.take_add_one, hx]
        exact toldM_snoc _ _
      have HTK := Lib.hid htk
      have hl1 := toldM_length (outs.take k)
      rw [List.length_take] at hl1
      have i1 : (k : Int) < outs.length := by omega
      have HS := Lib.hid (And.intro hsteps (And.intro hmem hown))
      have zM := kM.lt
      clear cl hx htk hsteps hmem hown hcA
      obtain ⟨who, at_, op, acc, res, done, val, is, err, point⟩ := x
      dsimp only at d0 d1 d2 hxv HTK
      cases done with
      | false =>
        go_wp2_with fail
        refine ⟨⟨k + 1, by omega, by go_num, hbl, kM, kP, HS.out.1, HS.out.2.1, ?_⟩, by simp [intOf]; omega⟩
        rw [HTK.out]
        simpa using HS.out.2.2
      | true =>
        cases is with
        | false =>
          have hrow := World.ownsRow.alloc HS.out.2.2 (.cells #[.int .i64 (10 * val)] 3)
          have kM' := kM.alloc (.cells #[.int .i64 (10 * val)] 3)
          have kP' := kP.alloc (.cells #[.int .i64 (10 * val)] 3)
          have hbl' := below_al hbl (.cells #[.int .i64 (10 * val)] 3)
          have hs1 := World.ownsRow.alloc HS.out.1 (.cells #[.int .i64 (10 * val)] 3)
          have hm1 := HS.out.2.1.alloc (.cells #[.int .i64 (10 * val)] 3)
          go_wp2_with (at_builtin; go_must (refine wpList_append_own_at _ rfl (.tmp 49) (.tmp 51) _ rfl (bM + 1) 3 i0 _ 1 8 Try.underlying37 hi0 hz0 hz1 hz2 rfl (by omega) u4 _ (ints (toldM (outs.take k))) rfl hrow ⟨wr.heap.size, 0, none⟩ 1 1 [.int .i64 (10 * val)] rfl rfl (by intro j u hu; rw [Go.WideShapes.add_plain, Nat.zero_add, (Bk.made wr 3 #[.int .i64 (10 * val)]).cell j]; simpa using hu) (by simp [Value.oneCell']) (by simp only [maxLen]; omega) (by omega) (by simp; omega) ?_; intro v9 w5 hrow4 hgrow4 _ _))
          have hk' := keptT_grown hrow hgrow4
          refine ⟨⟨k + 1, by omega, by go_num, grown_below hbl' hrow hgrow4 hbl'.size (by omega), kM'.keptT hk' (by decide), kP'.keptT hk' (by decide), own_keptT hs1 hk' (by decide), ?_, ?_⟩, by simp [intOf]; omega⟩
          · exact World.ownsRow.kept hm1 hgrow4 (.inr (fun e => by have := (World.ownsRow.lt hrow _ e.symm).1; dsimp only at this; omega))
          · rw [HTK.out]
            unfold OwnInts
            simpa [ints] using hrow4
        | true =>
          have hrow := World.ownsRow.alloc HS.out.2.2 (.cells #[.int .i64 (10 * val + 1)] 3)
          have kM' := kM.alloc (.cells #[.int .i64 (10 * val + 1)] 3)
          have kP' := kP.alloc (.cells #[.int .i64 (10 * val + 1)] 3)
          have hbl' := below_al hbl (.cells #[.int .i64 (10 * val + 1)] 3)
          have hs1 := World.ownsRow.alloc HS.out.1 (.cells #[.int .i64 (10 * val + 1)] 3)
          have hm1 := HS.out.2.1.alloc (.cells #[.int .i64 (10 * val + 1)] 3)
          go_wp2_with (at_builtin; go_must (refine wpList_append_own_at _ rfl (.tmp 49) (.tmp 51) _ rfl (bM + 1) 3 i0 _ 1 8 Try.underlying37 hi0 hz0 hz1 hz2 rfl (by omega) u4 _ (ints (toldM (outs.take k))) rfl hrow ⟨wr.heap.size, 0, none⟩ 1 1 [.int .i64 (10 * val + 1)] rfl rfl (by intro j u hu; rw [Go.WideShapes.add_plain, Nat.zero_add, (Bk.made wr 3 #[.int .i64 (10 * val + 1)]).cell j]; simpa using hu) (by simp [Value.oneCell']) (by simp only [maxLen]; omega) (by omega) (by simp; omega) ?_; intro v9 w5 hrow4 hgrow4 _ _))
          have hk' := keptT_grown hrow hgrow4
          refine ⟨⟨k + 1, by omega, by go_num, grown_below hbl' hrow hgrow4 hbl'.size (by omega), kM'.keptT hk' (by decide), kP'.keptT hk' (by decide), own_keptT hs1 hk' (by decide), ?_, ?_⟩, by simp [intOf]; omega⟩
          · exact World.ownsRow.kept hm1 hgrow4 (.inr (fun e => by have := (World.ownsRow.lt hrow _ e.symm).1; dsimp only at this; omega))
          · rw [HTK.out]
            unfold OwnInts
            simpa [ints] using hrow4
    · obtain rfl : k = outs.length := by omega
      rw [List.take_of_length_le (Nat.le_refl _), HT.out] at hown
      have i1 : decide ((outs.length : Int) < outs.length) = false := by simp
      obtain ⟨G4, c4, rfl⟩ := own_slice hown
      have zM := kM.lt
      have q0 := kP.cell 0
      have q1 := kP.cell 1
      have q2 := kP.cell 2
      have zP := kP.lt
      simp at q0 q1 q2
      have HS := Lib.hid (And.intro hmem hown)
      clear hsteps hmem hown
      go_wp2_with fail
      clear q0 q1 q2
      (with_reducible refine (where_any 0 (some ⟨w.heap.size + 1, 0, none⟩) 1 1 none 0 0 _ (by omega) (by omega) (by omega) (by omega)).mono ?_)
      rintro e w6 ⟨rfl, hb⟩
      have hown := own_keepb HS.out.2 hb
      have hmem : OwnInts w6 0 (.slice (some ⟨g, 0, none⟩) zs.length c) zs := own_keepb HS.out.1 hb
      replace kM := kM.keep hb
      replace hbl := below_tr hbl hb
      obtain ⟨l, hl⟩ : ∃ l, playL 1 0 = l := ⟨_, rfl⟩
      have hW := HWJ.out
      have hok := playL_ok 1 0 (by omega) (by omega)
      have htk := awake_tasks
      rw [hl] at hW hok htk
      rw [hl]
      have HW := Lib.hid hW
      have HOK := Lib.hid hok
      have HTK := Lib.hid htk
      clear hb hl hW hok htk HS
      go_upto_region 13 with (refine wpList_store_new rfl 34 (.tmp 7) (.tmp 54) rfl rfl w6.heap.size _ _ (lyC l) rfl rfl rfl rfl (by kernel_rfl) rfl (by simp [Value.oneCell']) ?_)
      have kL := Bk.made w6 34 (lyC l)
      replace kM := kM.alloc (.cells (lyC l) 34)
      replace hown := World.ownsRow.alloc hown (.cells (lyC l) 34)
      replace hmem := hmem.alloc (.cells (lyC l) 34)
      replace hbl := below_al hbl (.cells (lyC l) 34)
      generalize w6.alloc (.cells (lyC l) 34) = w7 at *
      generalize w6.heap.size = bL at *
      have HOW := Lib.hid (And.intro hmem hown)
      clear hmem hown
      refine wp_region_held_drew (S := fun w' => Bk w' bM 39 #[.slice (some ⟨g, 0, none⟩) zs.length c] ∧ Bk w' bL 34 (lyC l)) (by kernel_rfl) ⟨kM.drew, kL.drew⟩ (fun hHeld => ?_)
      clear hHeld
      replace kM := kM.drew
      replace kL := kL.drew
      replace hbl := below_drew hbl
      have hmem := own_drew HOW.out.1
      have hown : w7.drew.ownsRow (bM + 1) 3 1 (.slice G4 7 c4) 7 (ints [21, 1, 0, 0, 10, 71, 0]) := HOW.out.2
      clear HOW
      generalize w7.drew = w8 at *
      refine wpAnyH_take (i := 0) (oi := _) (v := .slice G4 7 c4) rfl (by kernel_rfl) (by kernel_rfl) (by kernel_rfl) (fun _ _ _ h => h) (Or.inl ⟨by rfl, ?_⟩) ⟨kM, kL⟩ ?_
      · intro w' hSw
        (try simp only [List.getElem_toArray, List.getElem_cons_zero])
        go_simp
      (try simp only [List.getElem_toArray, List.getElem_cons_zero, Act.put, List.setIfInBounds_toArray, List.set_cons_zero, List.set_cons_succ])
      refine wpAnyH_ready (rs := [1]) (by kernel_rfl) (by simp) ?_
      refine AllReadyH.cons (o := _) rfl (fun K hK => ?_) AllReadyH.nil
      (try simp only [List.getElem_toArray, List.getElem_cons_succ, List.getElem_cons_zero])
      go_simp
      have kA := Bk.made w8 3 #[.int .i64 21, .int .i64 1, .int .i64 0, .int .i64 0, .int .i64 10, .int .i64 71, .int .i64 0]
      replace hown := World.ownsRow.alloc hown (.cells #[.int .i64 21, .int .i64 1, .int .i64 0, .int .i64 0, .int .i64 10, .int .i64 71, .int .i64 0] 3)
      replace hmem := hmem.alloc (.cells #[.int .i64 21, .int .i64 1, .int .i64 0, .int .i64 0, .int .i64 10, .int .i64 71, .int .i64 0] 3)
      replace kM := kM.alloc (.cells #[.int .i64 21, .int .i64 1, .int .i64 0, .int .i64 0, .int .i64 10, .int .i64 71, .int .i64 0] 3)
      replace kL := kL.alloc (.cells #[.int .i64 21, .int .i64 1, .int .i64 0, .int .i64 0, .int .i64 10, .int .i64 71, .int .i64 0] 3)
      replace hbl := below_al hbl (.cells #[.int .i64 21, .int .i64 1, .int .i64 0, .int .i64 0, .int .i64 10, .int .i64 71, .int .i64 0] 3)
      refine hK.out _ _ ⟨kM, kL⟩ (fun hS' => ?_)
      clear hS' hK K
      (try simp only [List.getElem_toArray, List.getElem_cons_succ, List.getElem_cons_zero, Act.put, List.setIfInBounds_toArray, List.set_cons_zero, List.set_cons_succ])
      generalize w8.alloc (.cells #[.int .i64 21, .int .i64 1, .int .i64 0, .int .i64 0, .int .i64 10, .int .i64 71, .int .i64 0] 3) = w9 at *
      generalize w8.heap.size = bkA at *
      refine wpAnyH_ready (rs := [2]) (by kernel_rfl) (by simp) ?_
      refine AllReadyH.cons (o := _) rfl (fun K hK => ?_) AllReadyH.nil
      (try simp only [List.getElem_toArray, List.getElem_cons_succ, List.getElem_cons_zero])
      go_simp
      have sl1 : SlInt w9 w9.heap.size G4 [21, 1, 0, 0, 10, 71, 0] := slInt_own (base := bM + 1) (n := 7) (cap := c4) hown
      have sl2 : SlInt w9 w9.heap.size (some ⟨bkA, 0, none⟩) [21, 1, 0, 0, 10, 71, 0] := SlInt.of_bk kA
      (with_reducible refine (ints_same G4 (some ⟨bkA, 0, none⟩) c4 7 7 [21, 1, 0, 0, 10, 71, 0] _ rfl sl1 sl2 (by omega)).mono ?_)
      rintro e w10 ⟨rfl, hb⟩
      clear hown kA sl1 sl2
      replace kM := kM.keep hb
      replace kL := kL.keep hb
      replace hbl := below_tr hbl hb
      replace hmem := (own_keepb hmem hb : OwnInts w10 0 (.slice (some ⟨g, 0, none⟩) zs.length c) zs)
      clear hb
      refine hK.out _ _ ⟨kM, kL⟩ (fun hS' => ?_)
      clear hS' hK K
      (try simp only [List.getElem_toArray, List.getElem_cons_succ, List.getElem_cons_zero, Act.put, List.setIfInBounds_toArray, List.set_cons_zero, List.set_cons_succ])
      refine wpAnyH_take (i := 3) (oi := _) (v := .bool true) rfl (by kernel_rfl) (by kernel_rfl) (by kernel_rfl) (fun _ _ _ h => h) (Or.inl ⟨by rfl, ?_⟩) ⟨kM, kL⟩ ?_
      · intro w' hSw
        (try simp only [List.getElem_toArray, List.getElem_cons_succ, List.getElem_cons_zero])
        go_simp
      (try simp only [List.getElem_toArray, List.getElem_cons_succ, List.getElem_cons_zero, Act.put, List.setIfInBounds_toArray, List.set_cons_zero, List.set_cons_succ])
      refine wpAnyH_take (i := 4) (oi := _) (v := .agg (lyC l)) rfl (by kernel_rfl) (by kernel_rfl) (by kernel_rfl) (fun _ _ _ h => h) (Or.inl ⟨by rfl, ?_⟩) ⟨kM, kL⟩ ?_
      · intro w' hSw
        (try simp only [List.getElem_toArray, List.getElem_cons_succ, List.getElem_cons_zero])
        simp only [execOp, Instr.loadAt, Instr.sureAddr, Sem.run_bind, Sem.run_pure]
        rw [show (Act.eval _ (Operand.tmp 7)) = Value.pointer (some ⟨bL, 0, none⟩) from rfl]
        simp only [Sem.run_pure, Result.andThen_ok, run_loadVar_row w' bL 34 34 (lyC l) (0, 0) _ hSw.2 Try.underlying34 rfl (by kernel_rfl)]
      (try simp only [List.getElem_toArray, List.getElem_cons_succ, List.getElem_cons_zero, Act.put, List.setIfInBounds_toArray, List.set_cons_zero, List.set_cons_succ])
      refine wpAnyH_take (i := 5) (oi := _) (v := .agg #[.slice (some ⟨g, 0, none⟩) zs.length c]) rfl (by kernel_rfl) (by kernel_rfl) (by kernel_rfl) (fun _ _ _ h => h) (Or.inl ⟨by rfl, ?_⟩) ⟨kM, kL⟩ ?_
      · intro w' hSw
        have s1 := hSw.1.cell 0
        simp at s1
        (try simp only [List.getElem_toArray, List.getElem_cons_succ, List.getElem_cons_zero])
        go_simp
      (try simp only [List.getElem_toArray, List.getElem_cons_succ, List.getElem_cons_zero, Act.put, List.setIfInBounds_toArray, List.set_cons_zero, List.set_cons_succ])
      refine wpAnyH_ready (rs := [6, 7]) (by kernel_rfl) (by simp) ?_
      refine AllReadyH.cons (o := _) rfl (fun K hK => ?_) (AllReadyH.cons (o := _) rfl (fun K hK => ?_) AllReadyH.nil)
      · (try simp only [List.getElem_toArray, List.getElem_cons_succ, List.getElem_cons_zero])
        go_simp
        have sl3 : SlInt w10 w10.heap.size (some ⟨g, 0, none⟩) zs := slInt_own (base := 0) (n := zs.length) (cap := c) hmem
        (with_reducible refine (words_any l (some ⟨g, 0, none⟩) c zs _ HOK.out HW.out.2.2.2 sl3).mono ?_)
        rintro e w11 ⟨vW, rfl, hw2, hb⟩
        rw [HTK.out] at hw2
        rw [show (2 : Int).toNat = 2 from rfl, HW.out.1] at hw2
        obtain ⟨GW, cW, rfl⟩ := own_slice hw2
        clear sl3
        replace kM := kM.keep hb
        replace kL := kL.keep hb
        replace hbl := below_tr hbl hb
        replace hmem := (own_keepb hmem hb : OwnInts w11 0 (.slice (some ⟨g, 0, none⟩) zs.length c) zs)
        clear hb
        refine hK.out _ _ ⟨kM, kL⟩ (fun hS' => ?_)
        clear hS' hK K
        (try simp only [List.getElem_toArray, List.getElem_cons_succ, List.getElem_cons_zero, Act.put, List.setIfInBounds_toArray, List.set_cons_zero, List.set_cons_succ])
        refine wpAnyH_ready (rs := [7]) (by kernel_rfl) (by simp) ?_
        refine AllReadyH.cons (o := _) rfl (fun K hK => ?_) AllReadyH.nil
        (try simp only [List.getElem_toArray, List.getElem_cons_succ, List.getElem_cons_zero])
        go_simp
        have kB := Bk.made w11 3 #[.int .i64 2, .int .i64 3]
        replace hw2 := World.ownsRow.alloc hw2 (.cells #[.int .i64 2, .int .i64 3] 3)
        replace hmem := hmem.alloc (.cells #[.int .i64 2, .int .i64 3] 3)
        replace kM := kM.alloc (.cells #[.int .i64 2, .int .i64 3] 3)
        replace kL := kL.alloc (.cells #[.int .i64 2, .int .i64 3] 3)
        replace hbl := below_al hbl (.cells #[.int .i64 2, .int .i64 3] 3)
        refine hK.out _ _ ⟨kM, kL⟩ (fun hS' => ?_)
        clear hS' hK K
        (try simp only [List.getElem_toArray, List.getElem_cons_succ, List.getElem_cons_zero, Act.put, List.setIfInBounds_toArray, List.set_cons_zero, List.set_cons_succ])
        generalize w11.alloc (.cells #[.int .i64 2, .int .i64 3] 3) = w12 at *
        generalize w11.heap.size = bkB at *
        refine wpAnyH_ready (rs := [8]) (by kernel_rfl) (by simp) ?_
        refine AllReadyH.cons (o := _) rfl (fun K hK => ?_) AllReadyH.nil
        (try simp only [List.getElem_toArray, List.getElem_cons_succ, List.getElem_cons_zero])
        go_simp
        have sl4 : SlInt w12 w12.heap.size GW [2, 3] := slInt_own hw2
        have sl5 : SlInt w12 w12.heap.size (some ⟨bkB, 0, none⟩) [2, 3] := SlInt.of_bk kB
        (with_reducible refine (ints_same GW (some ⟨bkB, 0, none⟩) cW 2 2 [2, 3] _ rfl sl4 sl5 (by omega)).mono ?_)
        rintro e w15 ⟨rfl, hb⟩
        clear hw2 kB sl4 sl5
        replace kM := kM.keep hb
        replace kL := kL.keep hb
        replace hbl := below_tr hbl hb
        replace hmem := (own_keepb hmem hb : OwnInts w15 0 (.slice (some ⟨g, 0, none⟩) zs.length c) zs)
        clear hb
        refine hK.out _ _ ⟨kM, kL⟩ (fun hS' => ?_)
        clear hS' hK K
        (try simp only [List.getElem_toArray, List.getElem_cons_succ, List.getElem_cons_zero, Act.put, List.setIfInBounds_toArray, List.set_cons_zero, List.set_cons_succ])
        refine wpAnyH_take (i := 9) (oi := _) (v := .bool true) rfl (by kernel_rfl) (by kernel_rfl) (by kernel_rfl) (fun _ _ _ h => h) (Or.inl ⟨by rfl, ?_⟩) ⟨kM, kL⟩ ?_
        · intro w' hSw
          (try simp only [List.getElem_toArray, List.getElem_cons_succ, List.getElem_cons_zero])
          go_simp
        (try simp only [List.getElem_toArray, List.getElem_cons_succ, List.getElem_cons_zero, Act.put, List.setIfInBounds_toArray, List.set_cons_zero, List.set_cons_succ])
        refine wpAnyH_take (i := 10) (oi := _) (v := .bool true) rfl (by kernel_rfl) (by kernel_rfl) (by kernel_rfl) (fun _ _ _ h => h) (Or.inl ⟨by rfl, ?_⟩) ⟨kM, kL⟩ ?_
        · intro w' hSw
          (try simp only [List.getElem_toArray, List.getElem_cons_succ, List.getElem_cons_zero])
          go_simp
        (try simp only [List.getElem_toArray, List.getElem_cons_succ, List.getElem_cons_zero, Act.put, List.setIfInBounds_toArray, List.set_cons_zero, List.set_cons_succ])
        refine wpAnyH_take (i := 11) (oi := _) (v := .agg #[.slice (some ⟨g, 0, none⟩) zs.length c]) rfl (by kernel_rfl) (by kernel_rfl) (by kernel_rfl) (fun _ _ _ h => h) (Or.inl ⟨by rfl, ?_⟩) ⟨kM, kL⟩ ?_
        · intro w' hSw
          have s1 := hSw.1.cell 0
          simp at s1
          (try simp only [List.getElem_toArray, List.getElem_cons_succ, List.getElem_cons_zero])
          go_simp
        (try simp only [List.getElem_toArray, List.getElem_cons_succ, List.getElem_cons_zero, Act.put, List.setIfInBounds_toArray, List.set_cons_zero, List.set_cons_succ])
        refine wpAnyH_take (i := 12) (oi := _) (v := .agg (lyC l)) rfl (by kernel_rfl) (by kernel_rfl) (by kernel_rfl) (fun _ _ _ h => h) (Or.inl ⟨by rfl, ?_⟩) ⟨kM, kL⟩ ?_
        · intro w' hSw
          (try simp only [List.getElem_toArray, List.getElem_cons_succ, List.getElem_cons_zero])
          simp only [execOp, Instr.loadAt, Instr.sureAddr, Sem.run_bind, Sem.run_pure]
          rw [show (Act.eval _ (Operand.tmp 7)) = Value.pointer (some ⟨bL, 0, none⟩) from rfl]
          simp only [Sem.run_pure, Result.andThen_ok, run_loadVar_row w' bL 34 34 (lyC l) (0, 0) _ hSw.2 Try.underlying34 rfl (by kernel_rfl)]
        (try simp only [List.getElem_toArray, List.getElem_cons_succ, List.getElem_cons_zero, Act.put, List.setIfInBounds_toArray, List.set_cons_zero, List.set_cons_succ])
        refine wpAnyH_ready (rs := [13]) (by kernel_rfl) (by simp) ?_
        refine AllReadyH.cons (o := _) rfl (fun K hK => ?_) AllReadyH.nil
        (try simp only [List.getElem_toArray, List.getElem_cons_succ, List.getElem_cons_zero])
        go_simp
        (with_reducible refine (task_any l 1 1 _ HOK.out.fit (by omega)).mono ?_)
        rintro e w16 ⟨rfl, hb⟩
        replace kM := kM.keep hb
        replace kL := kL.keep hb
        replace hbl := below_tr hbl hb
        replace hmem := (own_keepb hmem hb : OwnInts w16 0 (.slice (some ⟨g, 0, none⟩) zs.length c) zs)
        clear hb
        refine hK.out _ _ ⟨kM, kL⟩ (fun hS' => ?_)
        clear hS' hK K
        (try simp only [List.getElem_toArray, List.getElem_cons_succ, List.getElem_cons_zero, Act.put, List.setIfInBounds_toArray, List.set_cons_zero, List.set_cons_succ])
        refine wpAnyH_ready (rs := [14]) (by kernel_rfl) (by simp) ?_
        refine AllReadyH.cons (o := _) rfl (fun K hK => ?_) AllReadyH.nil
        (try simp only [List.getElem_toArray, List.getElem_cons_succ, List.getElem_cons_zero])
        go_simp
        have sl6 : SlInt w16 w16.heap.size (some ⟨g, 0, none⟩) zs := slInt_own (base := 0) (n := zs.length) (cap := c) hmem
        (with_reducible refine (cell_any (some ⟨g, 0, none⟩) c zs (taskAt l 1 1) _ sl6).mono ?_)
        rintro e w17 ⟨rfl, hb⟩
        clear sl6
        rw [HW.out.2.1]
        replace kM := kM.keep hb
        replace kL := kL.keep hb
        replace hbl := below_tr hbl hb
        replace hmem := (own_keepb hmem hb : OwnInts w17 0 (.slice (some ⟨g, 0, none⟩) zs.length c) zs)
        clear hb
        refine hK.out _ _ ⟨kM, kL⟩ (fun hS' => ?_)
        clear hS' hK K
        (try simp only [List.getElem_toArray, List.getElem_cons_succ, List.getElem_cons_zero, Act.put, List.setIfInBounds_toArray, List.set_cons_zero, List.set_cons_succ])
        refine wpAnyH_take (i := 15) (oi := _) (v := .bool true) rfl (by kernel_rfl) (by kernel_rfl) (by kernel_rfl) (fun _ _ _ h => h) (Or.inl ⟨by rfl, ?_⟩) ⟨kM, kL⟩ ?_
        · intro w' hSw
          (try simp only [List.getElem_toArray, List.getElem_cons_succ, List.getElem_cons_zero])
          go_simp
        (try simp only [List.getElem_toArray, List.getElem_cons_succ, List.getElem_cons_zero, Act.put, List.setIfInBounds_toArray, List.set_cons_zero, List.set_cons_succ])
        refine wpAnyH_take (i := 16) (oi := _) (v := .bool true) rfl (by kernel_rfl) (by kernel_rfl) (by kernel_rfl) (fun _ _ _ h => h) (Or.inl ⟨by rfl, ?_⟩) ⟨kM, kL⟩ ?_
        · intro w' hSw
          (try simp only [List.getElem_toArray, List.getElem_cons_succ, List.getElem_cons_zero])
          go_simp
        (try simp only [List.getElem_toArray, List.getElem_cons_succ, List.getElem_cons_zero, Act.put, List.setIfInBounds_toArray, List.set_cons_zero, List.set_cons_succ])
        refine wpAnyH_take (i := 17) (oi := _) (v := .bool true) rfl (by kernel_rfl) (by kernel_rfl) (by kernel_rfl) (fun _ _ _ h => h) (Or.inl ⟨by rfl, ?_⟩) ⟨kM, kL⟩ ?_
        · intro w' hSw
          (try simp only [List.getElem_toArray, List.getElem_cons_succ, List.getElem_cons_zero])
          go_simp
        (try simp only [List.getElem_toArray, List.getElem_cons_succ, List.getElem_cons_zero, Act.put, List.setIfInBounds_toArray, List.set_cons_zero, List.set_cons_succ])
        refine wpAnyH_take (i := 18) (oi := _) (v := .agg #[.slice (some ⟨g, 0, none⟩) zs.length c]) rfl (by kernel_rfl) (by kernel_rfl) (by kernel_rfl) (fun _ _ _ h => h) (Or.inl ⟨by rfl, ?_⟩) ⟨kM, kL⟩ ?_
        · intro w' hSw
          have s1 := hSw.1.cell 0
          simp at s1
          (try simp only [List.getElem_toArray, List.getElem_cons_succ, List.getElem_cons_zero])
          go_simp
        (try simp only [List.getElem_toArray, List.getElem_cons_succ, List.getElem_cons_zero, Act.put, List.setIfInBounds_toArray, List.set_cons_zero, List.set_cons_succ])
        refine wpAnyH_take (i := 19) (oi := _) (v := .pointer (some ⟨bL, 9, none⟩)) rfl (by kernel_rfl) (by kernel_rfl) (by kernel_rfl) (fun _ _ _ h => h) (Or.inl ⟨by rfl, ?_⟩) ⟨kM, kL⟩ ?_
        · intro w' hSw
          (try simp only [List.getElem_toArray, List.getElem_cons_succ, List.getElem_cons_zero])
          go_simp
        (try simp only [List.getElem_toArray, List.getElem_cons_succ, List.getElem_cons_zero, Act.put, List.setIfInBounds_toArray, List.set_cons_zero, List.set_cons_succ])
        refine wpAnyH_take (i := 20) (oi := _) (v := .int .i64 l.done) rfl (by kernel_rfl) (by kernel_rfl) (by kernel_rfl) (fun _ _ _ h => h) (Or.inl ⟨by rfl, ?_⟩) ⟨kM, kL⟩ ?_
        · intro w' hSw
          have s1 := hSw.2.cell 9
          simp at s1
          (try simp only [List.getElem_toArray, List.getElem_cons_succ, List.getElem_cons_zero])
          go_simp
        (try simp only [List.getElem_toArray, List.getElem_cons_succ, List.getElem_cons_zero, Act.put, List.setIfInBounds_toArray, List.set_cons_zero, List.set_cons_succ])
        refine wpAnyH_ready (rs := [21]) (by kernel_rfl) (by simp) ?_
        refine AllReadyH.cons (o := _) rfl (fun K hK => ?_) AllReadyH.nil
        (try simp only [List.getElem_toArray, List.getElem_cons_succ, List.getElem_cons_zero])
        go_simp
        have sl7 : SlInt w17 w17.heap.size (some ⟨g, 0, none⟩) zs := slInt_own (base := 0) (n := zs.length) (cap := c) hmem
        (with_reducible refine (cell_any (some ⟨g, 0, none⟩) c zs l.done _ sl7).mono ?_)
        rintro e w18 ⟨rfl, hb⟩
        clear sl7
        rw [HW.out.2.2.1]
        replace kM := kM.keep hb
        replace kL := kL.keep hb
        replace hbl := below_tr hbl hb
        replace hmem := (own_keepb hmem hb : OwnInts w18 0 (.slice (some ⟨g, 0, none⟩) zs.length c) zs)
        clear hb
        refine hK.out _ _ ⟨kM, kL⟩ (fun hS' => ?_)
        clear hS' hK K
        (try simp only [List.getElem_toArray, List.getElem_cons_succ, List.getElem_cons_zero, Act.put, List.setIfInBounds_toArray, List.set_cons_zero, List.set_cons_succ])
        refine wpAnyH_take (i := 22) (oi := _) (v := .bool true) rfl (by kernel_rfl) (by kernel_rfl) (by kernel_rfl) (fun _ _ _ h => h) (Or.inl ⟨by rfl, ?_⟩) ⟨kM, kL⟩ ?_
        · intro w' hSw
          (try simp only [List.getElem_toArray, List.getElem_cons_succ, List.getElem_cons_zero])
          go_simp
        (try simp only [List.getElem_toArray, List.getElem_cons_succ, List.getElem_cons_zero, Act.put, List.setIfInBounds_toArray, List.set_cons_zero, List.set_cons_succ])
        refine wpAnyH_take (i := 23) (oi := _) (v := .bool true) rfl (by kernel_rfl) (by kernel_rfl) (by kernel_rfl) (fun _ _ _ h => h) (Or.inl ⟨by rfl, ?_⟩) ⟨kM, kL⟩ ?_
        · intro w' hSw
          (try simp only [List.getElem_toArray, List.getElem_cons_succ, List.getElem_cons_zero])
          go_simp
        (try simp only [List.getElem_toArray, List.getElem_cons_succ, List.getElem_cons_zero, Act.put, List.setIfInBounds_toArray, List.set_cons_zero, List.set_cons_succ])
        refine wpAnyH_take (i := 24) (oi := _) (v := .bool true) rfl (by kernel_rfl) (by kernel_rfl) (by kernel_rfl) (fun _ _ _ h => h) (Or.inl ⟨by rfl, ?_⟩) ⟨kM, kL⟩ ?_
        · intro w' hSw
          (try simp only [List.getElem_toArray, List.getElem_cons_succ, List.getElem_cons_zero])
          go_simp
        (try simp only [List.getElem_toArray, List.getElem_cons_succ, List.getElem_cons_zero, Act.put, List.setIfInBounds_toArray, List.set_cons_zero])
        refine wpAnyH_done (by kernel_rfl) ?_ _
        go_wp2
        go_ret
        exact ⟨rfl, hbl⟩
      · (try simp only [List.getElem_toArray, List.getElem_cons_succ, List.getElem_cons_zero])
        go_simp
        have kB := Bk.made w10 3 #[.int .i64 2, .int .i64 3]
        replace hmem := hmem.alloc (.cells #[.int .i64 2, .int .i64 3] 3)
        replace kM := kM.alloc (.cells #[.int .i64 2, .int .i64 3] 3)
        replace kL := kL.alloc (.cells #[.int .i64 2, .int .i64 3] 3)
        replace hbl := below_al hbl (.cells #[.int .i64 2, .int .i64 3] 3)
        refine hK.out _ _ ⟨kM, kL⟩ (fun hS' => ?_)
        clear hS' hK K
        (try simp only [List.getElem_toArray, List.getElem_cons_succ, List.getElem_cons_zero, Act.put, List.setIfInBounds_toArray, List.set_cons_zero, List.set_cons_succ])
        generalize w10.alloc (.cells #[.int .i64 2, .int .i64 3] 3) = w11 at *
        generalize w10.heap.size = bkB at *
        refine wpAnyH_ready (rs := [6]) (by kernel_rfl) (by simp) ?_
        refine AllReadyH.cons (o := _) rfl (fun K hK => ?_) AllReadyH.nil
        (try simp only [List.getElem_toArray, List.getElem_cons_succ, List.getElem_cons_zero])
        go_simp
        have sl3 : SlInt w11 w11.heap.size (some ⟨g, 0, none⟩) zs := slInt_own (base := 0) (n := zs.length) (cap := c) hmem
        (with_reducible refine (words_any l (some ⟨g, 0, none⟩) c zs _ HOK.out HW.out.2.2.2 sl3).mono ?_)
        rintro e w12 ⟨vW, rfl, hw2, hb⟩
        rw [HTK.out] at hw2
        rw [show (2 : Int).toNat = 2 from rfl, HW.out.1] at hw2
        obtain ⟨GW, cW, rfl⟩ := own_slice hw2
        clear sl3
        replace kM := kM.keep hb
        replace kL := kL.keep hb
        replace hbl := below_tr hbl hb
        replace hmem := (own_keepb hmem hb : OwnInts w12 0 (.slice (some ⟨g, 0, none⟩) zs.length c) zs)
        replace kB := kB.keep hb
        clear hb
        refine hK.out _ _ ⟨kM, kL⟩ (fun hS' => ?_)
        clear hS' hK K
        (try simp only [List.getElem_toArray, List.getElem_cons_succ, List.getElem_cons_zero, Act.put, List.setIfInBounds_toArray, List.set_cons_zero, List.set_cons_succ])
        refine wpAnyH_ready (rs := [8]) (by kernel_rfl) (by simp) ?_
        refine AllReadyH.cons (o := _) rfl (fun K hK => ?_) AllReadyH.nil
        (try simp only [List.getElem_toArray, List.getElem_cons_succ, List.getElem_cons_zero])
        go_simp
        have sl4 : SlInt w12 w12.heap.size GW [2, 3] := slInt_own hw2
        have sl5 : SlInt w12 w12.heap.size (some ⟨bkB, 0, none⟩) [2, 3] := SlInt.of_bk kB
        (with_reducible refine (ints_same GW (some ⟨bkB, 0, none⟩) cW 2 2 [2, 3] _ rfl sl4 sl5 (by omega)).mono ?_)
        rintro e w15 ⟨rfl, hb⟩
        clear hw2 kB sl4 sl5
        replace kM := kM.keep hb
        replace kL := kL.keep hb
        replace hbl := below_tr hbl hb
        replace hmem := (own_keepb hmem hb : OwnInts w15 0 (.slice (some ⟨g, 0, none⟩) zs.length c) zs)
        clear hb
        refine hK.out _ _ ⟨kM, kL⟩ (fun hS' => ?_)
        clear hS' hK K
        (try simp only [List.getElem_toArray, List.getElem_cons_succ, List.getElem_cons_zero, Act.put, List.setIfInBounds_toArray, List.set_cons_zero, List.set_cons_succ])
        refine wpAnyH_take (i := 9) (oi := _) (v := .bool true) rfl (by kernel_rfl) (by kernel_rfl) (by kernel_rfl) (fun _ _ _ h => h) (Or.inl ⟨by rfl, ?_⟩) ⟨kM, kL⟩ ?_
        · intro w' hSw
          (try simp only [List.getElem_toArray, List.getElem_cons_succ, List.getElem_cons_zero])
          go_simp
        (try simp only [List.getElem_toArray, List.getElem_cons_succ, List.getElem_cons_zero, Act.put, List.setIfInBounds_toArray, List.set_cons_zero, List.set_cons_succ])
        refine wpAnyH_take (i := 10) (oi := _) (v := .bool true) rfl (by kernel_rfl) (by kernel_rfl) (by kernel_rfl) (fun _ _ _ h => h) (Or.inl ⟨by rfl, ?_⟩) ⟨kM, kL⟩ ?_
        · intro w' hSw
          (try simp only [List.getElem_toArray, List.getElem_cons_succ, List.getElem_cons_zero])
          go_simp
        (try simp only [List.getElem_toArray, List.getElem_cons_succ, List.getElem_cons_zero, Act.put, List.setIfInBounds_toArray, List.set_cons_zero, List.set_cons_succ])
        refine wpAnyH_take (i := 11) (oi := _) (v := .agg #[.slice (some ⟨g, 0, none⟩) zs.length c]) rfl (by kernel_rfl) (by kernel_rfl) (by kernel_rfl) (fun _ _ _ h => h) (Or.inl ⟨by rfl, ?_⟩) ⟨kM, kL⟩ ?_
        · intro w' hSw
          have s1 := hSw.1.cell 0
          simp at s1
          (try simp only [List.getElem_toArray, List.getElem_cons_succ, List.getElem_cons_zero])
          go_simp
        (try simp only [List.getElem_toArray, List.getElem_cons_succ, List.getElem_cons_zero, Act.put, List.setIfInBounds_toArray, List.set_cons_zero, List.set_cons_succ])
        refine wpAnyH_take (i := 12) (oi := _) (v := .agg (lyC l)) rfl (by kernel_rfl) (by kernel_rfl) (by kernel_rfl) (fun _ _ _ h => h) (Or.inl ⟨by rfl, ?_⟩) ⟨kM, kL⟩ ?_
        · intro w' hSw
          (try simp only [List.getElem_toArray, List.getElem_cons_succ, List.getElem_cons_zero])
          simp only [execOp, Instr.loadAt, Instr.sureAddr, Sem.run_bind, Sem.run_pure]
          rw [show (Act.eval _ (Operand.tmp 7)) = Value.pointer (some ⟨bL, 0, none⟩) from rfl]
          simp only [Sem.run_pure, Result.andThen_ok, run_loadVar_row w' bL 34 34 (lyC l) (0, 0) _ hSw.2 Try.underlying34 rfl (by kernel_rfl)]
        (try simp only [List.getElem_toArray, List.getElem_cons_succ, List.getElem_cons_zero, Act.put, List.setIfInBounds_toArray, List.set_cons_zero, List.set_cons_succ])
        refine wpAnyH_ready (rs := [13]) (by kernel_rfl) (by simp) ?_
        refine AllReadyH.cons (o := _) rfl (fun K hK => ?_) AllReadyH.nil
        (try simp only [List.getElem_toArray, List.getElem_cons_succ, List.getElem_cons_zero])
        go_simp
        (with_reducible refine (task_any l 1 1 _ HOK.out.fit (by omega)).mono ?_)
        rintro e w16 ⟨rfl, hb⟩
        replace kM := kM.keep hb
        replace kL := kL.keep hb
        replace hbl := below_tr hbl hb
        replace hmem := (own_keepb hmem hb : OwnInts w16 0 (.slice (some ⟨g, 0, none⟩) zs.length c) zs)
        clear hb
        refine hK.out _ _ ⟨kM, kL⟩ (fun hS' => ?_)
        clear hS' hK K
        (try simp only [List.getElem_toArray, List.getElem_cons_succ, List.getElem_cons_zero, Act.put, List.setIfInBounds_toArray, List.set_cons_zero, List.set_cons_succ])
        refine wpAnyH_ready (rs := [14]) (by kernel_rfl) (by simp) ?_
        refine AllReadyH.cons (o := _) rfl (fun K hK => ?_) AllReadyH.nil
        (try simp only [List.getElem_toArray, List.getElem_cons_succ, List.getElem_cons_zero])
        go_simp
        have sl6 : SlInt w16 w16.heap.size (some ⟨g, 0, none⟩) zs := slInt_own (base := 0) (n := zs.length) (cap := c) hmem
        (with_reducible refine (cell_any (some ⟨g, 0, none⟩) c zs (taskAt l 1 1) _ sl6).mono ?_)
        rintro e w17 ⟨rfl, hb⟩
        clear sl6
        rw [HW.out.2.1]
        replace kM := kM.keep hb
        replace kL := kL.keep hb
        replace hbl := below_tr hbl hb
        replace hmem := (own_keepb hmem hb : OwnInts w17 0 (.slice (some ⟨g, 0, none⟩) zs.length c) zs)
        clear hb
        refine hK.out _ _ ⟨kM, kL⟩ (fun hS' => ?_)
        clear hS' hK K
        (try simp only [List.getElem_toArray, List.getElem_cons_succ, List.getElem_cons_zero, Act.put, List.setIfInBounds_toArray, List.set_cons_zero, List.set_cons_succ])
        refine wpAnyH_take (i := 15) (oi := _) (v := .bool true) rfl (by kernel_rfl) (by kernel_rfl) (by kernel_rfl) (fun _ _ _ h => h) (Or.inl ⟨by rfl, ?_⟩) ⟨kM, kL⟩ ?_
        · intro w' hSw
          (try simp only [List.getElem_toArray, List.getElem_cons_succ, List.getElem_cons_zero])
          go_simp
        (try simp only [List.getElem_toArray, List.getElem_cons_succ, List.getElem_cons_zero, Act.put, List.setIfInBounds_toArray, List.set_cons_zero, List.set_cons_succ])
        refine wpAnyH_take (i := 16) (oi := _) (v := .bool true) rfl (by kernel_rfl) (by kernel_rfl) (by kernel_rfl) (fun _ _ _ h => h) (Or.inl ⟨by rfl, ?_⟩) ⟨kM, kL⟩ ?_
        · intro w' hSw
          (try simp only [List.getElem_toArray, List.getElem_cons_succ, List.getElem_cons_zero])
          go_simp
        (try simp only [List.getElem_toArray, List.getElem_cons_succ, List.getElem_cons_zero, Act.put, List.setIfInBounds_toArray, List.set_cons_zero, List.set_cons_succ])
        refine wpAnyH_take (i := 17) (oi := _) (v := .bool true) rfl (by kernel_rfl) (by kernel_rfl) (by kernel_rfl) (fun _ _ _ h => h) (Or.inl ⟨by rfl, ?_⟩) ⟨kM, kL⟩ ?_
        · intro w' hSw
          (try simp only [List.getElem_toArray, List.getElem_cons_succ, List.getElem_cons_zero])
          go_simp
        (try simp only [List.getElem_toArray, List.getElem_cons_succ, List.getElem_cons_zero, Act.put, List.setIfInBounds_toArray, List.set_cons_zero, List.set_cons_succ])
        refine wpAnyH_take (i := 18) (oi := _) (v := .agg #[.slice (some ⟨g, 0, none⟩) zs.length c]) rfl (by kernel_rfl) (by kernel_rfl) (by kernel_rfl) (fun _ _ _ h => h) (Or.inl ⟨by rfl, ?_⟩) ⟨kM, kL⟩ ?_
        · intro w' hSw
          have s1 := hSw.1.cell 0
          simp at s1
          (try simp only [List.getElem_toArray, List.getElem_cons_succ, List.getElem_cons_zero])
          go_simp
        (try simp only [List.getElem_toArray, List.getElem_cons_succ, List.getElem_cons_zero, Act.put, List.setIfInBounds_toArray, List.set_cons_zero, List.set_cons_succ])
        refine wpAnyH_take (i := 19) (oi := _) (v := .pointer (some ⟨bL, 9, none⟩)) rfl (by kernel_rfl) (by kernel_rfl) (by kernel_rfl) (fun _ _ _ h => h) (Or.inl ⟨by rfl, ?_⟩) ⟨kM, kL⟩ ?_
        · intro w' hSw
          (try simp only [List.getElem_toArray, List.getElem_cons_succ, List.getElem_cons_zero])
          go_simp
        (try simp only [List.getElem_toArray, List.getElem_cons_succ, List.getElem_cons_zero, Act.put, List.setIfInBounds_toArray, List.set_cons_zero, List.set_cons_succ])
        refine wpAnyH_take (i := 20) (oi := _) (v := .int .i64 l.done) rfl (by kernel_rfl) (by kernel_rfl) (by kernel_rfl) (fun _ _ _ h => h) (Or.inl ⟨by rfl, ?_⟩) ⟨kM, kL⟩ ?_
        · intro w' hSw
          have s1 := hSw.2.cell 9
          simp at s1
          (try simp only [List.getElem_toArray, List.getElem_cons_succ, List.getElem_cons_zero])
          go_simp
        (try simp only [List.getElem_toArray, List.getElem_cons_succ, List.getElem_cons_zero, Act.put, List.setIfInBounds_toArray, List.set_cons_zero, List.set_cons_succ])
        refine wpAnyH_ready (rs := [21]) (by kernel_rfl) (by simp) ?_
        refine AllReadyH.cons (o := _) rfl (fun K hK => ?_) AllReadyH.nil
        (try simp only [List.getElem_toArray, List.getElem_cons_succ, List.getElem_cons_zero])
        go_simp
        have sl7 : SlInt w17 w17.heap.size (some ⟨g, 0, none⟩) zs := slInt_own (base := 0) (n := zs.length) (cap := c) hmem
        (with_reducible refine (cell_any (some ⟨g, 0, none⟩) c zs l.done _ sl7).mono ?_)
        rintro e w18 ⟨rfl, hb⟩
        clear sl7
        rw [HW.out.2.2.1]
        replace kM := kM.keep hb
        replace kL := kL.keep hb
        replace hbl := below_tr hbl hb
        replace hmem := (own_keepb hmem hb : OwnInts w18 0 (.slice (some ⟨g, 0, none⟩) zs.length c) zs)
        clear hb
        refine hK.out _ _ ⟨kM, kL⟩ (fun hS' => ?_)
        clear hS' hK K
        (try simp only [List.getElem_toArray, List.getElem_cons_succ, List.getElem_cons_zero, Act.put, List.setIfInBounds_toArray, List.set_cons_zero, List.set_cons_succ])
        refine wpAnyH_take (i := 22) (oi := _) (v := .bool true) rfl (by kernel_rfl) (by kernel_rfl) (by kernel_rfl) (fun _ _ _ h => h) (Or.inl ⟨by rfl, ?_⟩) ⟨kM, kL⟩ ?_
        · intro w' hSw
          (try simp only [List.getElem_toArray, List.getElem_cons_succ, List.getElem_cons_zero])
          go_simp
        (try simp only [List.getElem_toArray, List.getElem_cons_succ, List.getElem_cons_zero, Act.put, List.setIfInBounds_toArray, List.set_cons_zero, List.set_cons_succ])
        refine wpAnyH_take (i := 23) (oi := _) (v := .bool true) rfl (by kernel_rfl) (by kernel_rfl) (by kernel_rfl) (fun _ _ _ h => h) (Or.inl ⟨by rfl, ?_⟩) ⟨kM, kL⟩ ?_
        · intro w' hSw
          (try simp only [List.getElem_toArray, List.getElem_cons_succ, List.getElem_cons_zero])
          go_simp
        (try simp only [List.getElem_toArray, List.getElem_cons_succ, List.getElem_cons_zero, Act.put, List.setIfInBounds_toArray, List.set_cons_zero, List.set_cons_succ])
        refine wpAnyH_take (i := 24) (oi := _) (v := .bool true) rfl (by kernel_rfl) (by kernel_rfl) (by kernel_rfl) (fun _ _ _ h => h) (Or.inl ⟨by rfl, ?_⟩) ⟨kM, kL⟩ ?_
        · intro w' hSw
          (try simp only [List.getElem_toArray, List.getElem_cons_succ, List.getElem_cons_zero])
          go_simp
        (try simp only [List.getElem_toArray, List.getElem_cons_succ, List.getElem_cons_zero, Act.put, List.setIfInBounds_toArray, List.set_cons_zero])
        refine wpAnyH_done (by kernel_rfl) ?_ _
        go_wp2
        go_ret
        exact ⟨rfl, hbl⟩
end Go.Proofs.Ytcjaomiihajjbaa
