/- EraWhole's walk. Printed by wl_gen.py. -/
import Derived.Test.YtgjdjgainjedhaaEWp
import Derived.Test.YtgjdjgainjedhaaESh
namespace Go.Proofs.Ytgjdjgainjedhaa
open Go.RowKit
set_option linter.unusedVariables false
attribute [local go_sem ↓] Go.wp_at_zero Go.wp_at_succ

structure Wh (w4 : World) (gH N bF : Nat) (L S : List Int) (wr : World) : Prop where
  b4 : Below w4.heap.size w4 wr
  kH : Bk wr gH 3 (hadOf N S)
  fa : ∀ (k : Nat) (r : Int), L[k]? = some r → wr.cell? ⟨bF, 0 + k, none⟩ = some (.int .i64 r)
section
variable {w4 wr w' : World} {gH N bF : Nat} {L S : List Int}
theorem Wh.keep (h : Wh w4 gH N bF L S wr) (hb : Below wr.heap.size wr w') : Wh w4 gH N bF L S w' := ⟨below_tr h.b4 hb, h.kH.keep hb, fun k r hk => cell_keep hb (h.fa k r hk)⟩
theorem Wh.drew (h : Wh w4 gH N bF L S wr) : Wh w4 gH N bF L S wr.drew := h.keep (below_drew' (Below.refl _ _))
theorem Wh.put (h : Wh w4 gH N bF L S wr) (hg : w4.heap.size ≤ gH) (hne : bF ≠ gH) {x q : Nat} (hx : x ≤ N) (hq : S.count (x : Int) = q) : Wh w4 gH N bF L (S ++ [(x : Int)]) (wr.setCell ⟨gH, x, none⟩ (.int .i64 ((q : Int) + 1))) := by
  refine ⟨below_set h.b4 hg _, ?_, fun k r hk => ?_⟩
  · have := h.kH.stored x (.int .i64 ((q : Int) + 1))
    rw [← hadOf_set N S x hx, hq]
    exact this
  · have hc := h.fa k r hk
    unfold World.cell? at hc ⊢
    rw [Below.heap_setCell wr ⟨gH, x, none⟩ _ bF hne]
    exact hc
theorem Wh.cell (h : Wh w4 gH N bF L S wr) {x q : Nat} (hx : x ≤ N) (hq : S.count (x : Int) = q) : wr.cell? ⟨gH, x, none⟩ = some (.int .i64 (q : Nat)) := by
  rw [h.kH.cell, hadOf_get hx, hq]
theorem own_ge {w : World} {base n cap : Nat} {G : Option Addr} {zs : List Int} (h : OwnInts w base (.slice G n cap) zs) (hn : zs.length = n) : ∃ bF, base ≤ bF ∧ (0 < n → G = some ⟨bF, 0, none⟩) ∧ ∀ (k : Nat) (r : Int), zs[k]? = some r → w.cell? ⟨bF, 0 + k, none⟩ = some (.int .i64 r) := by
  by_cases hl : 0 < zs.length
  · subst hn
    unfold OwnInts at h
    obtain ⟨g, cap', hA, hA1, hA2⟩ := World.ownsRow.form h hl
    injection hA with hA _ _
    subst hA
    refine ⟨g, (World.ownsRow.lt h g rfl).1, fun _ => rfl, fun k z hk => ?_⟩
    have hkl := (List.getElem?_eq_some_iff.1 hk).1
    rw [Nat.zero_add, World.ownsRow.cellAt h k (by omega)]
    simp [ints, hk]
  · exact ⟨base, Nat.le_refl _, fun h => by omega, fun k r hk => by have := (List.getElem?_eq_some_iff.1 hk).1; omega⟩
theorem count_le_len (S : List Int) (x : Int) : S.count x ≤ S.length := List.count_le_length
end
theorem had_made (N : Nat) : (ints (List.replicate (N + 1) 0)).toArray = hadOf N [] := by
  rw [← made_ints, ← hadOf_nil, Nat.mul_one]
def W1Rel (w4 : World) (gH N bF : Nat) (L : List Int) (v9 : Value) (wr : World) : Prop := ∃ k : Nat, k ≤ L.length ∧ v9 = .int .i64 k ∧ Wh w4 gH N bF L (L.take k) wr
def W2Rel (w4 : World) (gH N bF : Nat) (L S0 : List Int) (t : TabE) (n : Nat) (v11 : Value) (wr : World) : Prop := ∃ k : Nat, k ≤ n ∧ v11 = .int .i64 k ∧ Wh w4 gH N bF L (S0 ++ flatG t k) wr
def W3Rel (w4 : World) (gH N bF : Nat) (L S1 : List Int) (gl : List Int) (v13 : Value) (wr : World) : Prop := ∃ i : Nat, i ≤ gl.length ∧ v13 = .int .i64 i ∧ Wh w4 gH N bF L (S1 ++ gl.take i) wr
def W4Rel (w4 : World) (gH N bF : Nat) (L S : List Int) (v14 : Value) (wr : World) : Prop := ∃ i : Nat, i ≤ 3 ∧ v14 = .int .i64 i ∧ Wh w4 gH N bF L S wr
def W5Rel (w4 : World) (gH N bF : Nat) (L S : List Int) (v15 : Value) (wr : World) : Prop := ∃ i : Nat, 1 ≤ i ∧ i ≤ N + 1 ∧ v15 = .int .i64 i ∧ Wh w4 gH N bF L S wr
theorem TRep.cells {w : World} {B gt gs : Nat} {t : TabE} (h : TRep w B gt gs t) {k : Nat} {s : SeatE} (hs : t.seats[k]? = some s) : ∃ G c, w.cell? ⟨gs, k * 11 + 10, none⟩ = some (.slice G s.gone.length c) ∧ gs < w.heap.size ∧ (0 < s.gone.length → ∃ b o, G = some ⟨b, o, none⟩ ∧ b < w.heap.size ∧ ∀ (j : Nat) (r : Int × Int), s.gone[j]? = some r → w.cell? ⟨b, o + j * 2, none⟩ = some (.int .i64 r.1)) := by
  obtain ⟨lv, gv, sv⟩ := h.seat hs
  have o10 := sv.cells 10 _ rfl
  obtain ⟨G, n', c, rfl, hn, hi, hp⟩ := sv.gone
  subst hn
  refine ⟨G, c, o10, sv.lt, fun hl => ?_⟩
  obtain ⟨b, o, cs, e, k, hc⟩ := hp hl
  exact ⟨b, o, e, k.lt, fun j r hj => (hc j r hj).1⟩
set_option maxRecDepth 1000000 in
set_option maxHeartbeats 16000000 in
theorem whole_law (tN : Int) (X : Option Addr) (n c : Nat) (T : Option Addr) (m d : Nat) (want : List (List Nat)) (turns : List Nat) (w : World) (t0 : 0 ≤ tN) (t1 : tN < 256) (hn : want.length = n) (hm : turns.length = m) (hW : SlU8s w w.heap.size X want) (hT : SlU8 w w.heap.size T turns) :
    Calls Try.prog 4 #[.agg (playC tN X n c T m d)] w (BoolBelow true w) := by
  have kP := Bk.made w 25 (playC tN X n c T m d)
  have hbl := below_al (Below.refl w.heap.size w) (.cells (playC tN X n c T m d) 25)
  have HW := Lib.hid (And.intro hW (And.intro hT (And.intro hn (And.intro hm (And.intro t0 t1)))))
  clear hW hT hn hm t0 t1
  go_enter Try.func4, Try.ntmps4
  go_wp2_with fail
  generalize w.alloc (.cells (playC tN X n c T m d) 25) = w1 at *
  obtain ⟨bP, hbP⟩ : ∃ z, w.heap.size = z := ⟨_, rfl⟩
  rw [hbP] at kP ⊢
  clear hbP
  (with_reducible refine (shown_any _).mono ?_)
  rintro e w2 ⟨rfl, hb⟩
  replace kP := kP.keep hb
  replace hbl := below_tr hbl hb
  clear hb
  go_wp2_with (refine wpList_load_row rfl 25 (.tmp 1) rfl bP rfl 25 (playC tN X n c T m d) (0, 0) _ kP Try.underlying25 rfl (by kernel_rfl) ?_)
  (with_reducible refine (few_any tN X n c T m d want _ HW.out.2.2.1 ((HW.out.1.below hbl).more hbl.size)).mono ?_)
  rintro e w3 ⟨b, rfl, hb, hfew⟩
  replace kP := kP.keep hb
  replace hbl := below_tr hbl hb
  clear hb
  cases b with
  | false =>
    have HB := Lib.hid hbl
    clear hbl hfew
    go_wp2_with fail
    go_ret
    exact ⟨rfl, HB.out⟩
  | true =>
    obtain ⟨f1, f2, f3, f4⟩ := hfew rfl
    have HF := Lib.hid (And.intro f1 (And.intro f2 (And.intro f3 f4)))
    clear f1 f2 f3 f4 hfew
    go_wp2_with (refine wpList_load_row rfl 25 (.tmp 1) rfl bP rfl 25 (playC tN X n c T m d) (0, 0) _ kP Try.underlying25 rfl (by kernel_rfl) ?_)
    (with_reducible refine (where_any tN X n c T m d _ HW.out.2.2.2.2.1 HW.out.2.2.2.2.2 HF.out.1 (by have := HF.out.2.1; omega)).mono ?_)
    rintro e w4 ⟨rfl, hb⟩
    replace kP := kP.keep hb
    replace hbl := below_tr hbl hb
    clear hb
    have hpl := fun (w' : World) (hW : SlU8s w' w'.heap.size X want) (hT : SlU8 w' w'.heap.size T turns) => played_any tN X n c T m d want turns w' HW.out.2.2.2.2.1 HW.out.2.2.2.2.2 HF.out.1 HF.out.2.1 HF.out.2.2.1 HW.out.2.2.1 HW.out.2.2.2.1 hW hT HF.out.2.2.2
    have hfull : LyFull (playL n tN) := lyFull_of _ (playCf_can n tN HF.out.1 (by have := HF.out.2.1; omega))
    have hok := layOk_of (layEB_play n tN HF.out.1 HF.out.2.1)
    have hp3 := play_ok hok want HF.out.2.2.2 turns (by rw [HW.out.2.2.2.1]; exact HF.out.2.2.1)
    have hend := hp3.2.2.2 n (Nat.le_refl _)
    rw [whosP_end] at hend
    obtain ⟨L, hwi⟩ := EndE.whole hend hok.lay hp3.1
    rw [show runE (playL n tN) want (startE0 (playL n tN) n) (whosE n turns) = endE (playL n tN) n want turns from rfl] at hwi
    have HPL := Lib.hid (fun (w' : World) hW hT => (hpl w' hW hT : Calls Try.prog _ _ w' (PlayedPost (playL n tN) n want turns w')))
    clear hpl hok hp3 hend
    generalize playL n tN = l at *
    obtain ⟨N, hN⟩ : ∃ N : Nat, l.c.nodes = N := ⟨l.c.nodes.toNat, by have := hwi.nn; omega⟩
    obtain ⟨t, ht⟩ : ∃ t, endE l n want turns = t := ⟨_, rfl⟩
    rw [ht] at hwi
    have HL := Lib.hid (And.intro hwi (And.intro hfull (And.intro hN ht)))
    have hnn : 1 ≤ N ∧ N ≤ 9 := by have := hwi.nn; omega
    have hns : 1 ≤ n ∧ n ≤ 3 := ⟨HF.out.1, HF.out.2.1⟩
    clear hwi hfull hN ht
    go_upto_region 5 with (refine wpList_store_new rfl 40 (.tmp 4) (.tmp 22) rfl rfl w4.heap.size _ _ (lyC l) rfl rfl rfl rfl (by kernel_rfl) rfl (by simp [Value.oneCell']) ?_)
    have kL := Bk.made w4 40 (lyC l)
    replace kP := kP.alloc (.cells (lyC l) 40)
    replace hbl := below_al hbl (.cells (lyC l) 40)
    generalize w4.alloc (.cells (lyC l) 40) = w5 at *
    generalize w4.heap.size = bL at *
    go_wp2_with (refine wpList_load_row rfl 25 (.tmp 1) rfl bP rfl 25 (playC tN X n c T m d) (0, 0) _ kP Try.underlying25 rfl (by kernel_rfl) ?_)
    (with_reducible refine (HPL.out _ ((HW.out.1.below hbl).more hbl.size) ((HW.out.2.1.below hbl).more hbl.size)).mono ?_)
    rintro e w6 ⟨gt, gs, rfl, -, -, hx, hb⟩
    rw [HL.out.2.2.2] at hx
    replace kL := kL.keep hb
    replace hbl := below_tr hbl hb
    clear hb kP HPL
    have q1 := kL.cell 1
    have lL := kL.lt
    simp at q1
    rw [HL.out.2.2.1] at q1
    go_upto_region 7 with (refine wpList_make_row rfl _ _ rfl (N + 1) _ rfl rfl (run_make_ints _ (N + 1) (by omega)) ?_)
    clear q1 lL
    have kH := Bk.made w6 3 (ints (List.replicate (N + 1) 0)).toArray
    rw [had_made] at kH
    rw [had_made]
    have hb6 := below_al (Below.refl w6.heap.size w6) (.cells (hadOf N []) 3)
    have hgH : w6.heap.size ≤ w6.heap.size := Nat.le_refl _
    generalize w6.alloc (.cells (hadOf N []) 3) = w7 at *
    obtain ⟨gH, hgHe⟩ : ∃ z, w6.heap.size = z := ⟨_, rfl⟩
    have HGH := Lib.hid hgHe
    rw [hgHe] at kH ⊢
    clear hgH
    refine wp_region_E (S := fun w' => Below w7.drew.heap.size w7.drew w') (E := fun _ => false) (by kernel_rfl) ?_
    have hx7 := hx.keep (hb6.drew)
    have kL7 := kL.keep (hb6.drew)
    replace kH := kH.drew
    have hb7 : Below w6.heap.size w6 w7.drew := hb6.drew
    clear hb6 hgHe
    generalize w7.drew = w8 at *
    obtain ⟨gm, cm, c0, hA, lT⟩ := hx7.c0
    obtain ⟨M, hM⟩ : ∃ M, t.m.length = M := ⟨_, rfl⟩
    rw [hM] at c0
    have HM := Lib.hid hM
    have HA := Lib.hid hA
    clear hM hA hx7
    refine wpAnyE_take (i := 0) (oi := _) (v := .agg (lyC l)) rfl (by kernel_rfl) (by kernel_rfl) (by kernel_rfl) (by kernel_rfl) (fun _ _ _ h => h) (Or.inl ⟨by rfl, ?_⟩) (Below.refl _ _) ?_
    · intro w' hSw
      (try simp only [List.getElem_toArray, List.getElem_cons_zero])
      simp only [execOp, Instr.loadAt, Instr.sureAddr, Sem.run_bind, Sem.run_pure]
      rw [show (Act.eval _ (Operand.tmp 4)) = Value.pointer (some ⟨bL, 0, none⟩) from rfl]
      simp only [Sem.run_pure, Result.andThen_ok, run_loadVar_row w' bL 40 40 (lyC l) (0, 0) _ (kL7.keep hSw) Try.underlying40 rfl (by kernel_rfl)]
    (try simp only [List.getElem_toArray, List.getElem_cons_zero, Act.put, List.setIfInBounds_toArray, List.set_cons_zero, List.set_cons_succ])
    refine wpAnyE_take (i := 1) (oi := _) (v := .pointer (some ⟨gt, 0, none⟩)) rfl (by kernel_rfl) (by kernel_rfl) (by kernel_rfl) (by kernel_rfl) (fun _ _ _ h => h) (Or.inl ⟨by rfl, ?_⟩) (Below.refl _ _) ?_
    · intro w' hSw
      (try simp only [List.getElem_toArray, List.getElem_cons_succ, List.getElem_cons_zero])
      go_simp
    (try simp only [List.getElem_toArray, List.getElem_cons_succ, List.getElem_cons_zero, Act.put, List.setIfInBounds_toArray, List.set_cons_zero, List.set_cons_succ])
    refine wpAnyE_take (i := 2) (oi := _) (v := .pointer (some ⟨gt, 0, none⟩)) rfl (by kernel_rfl) (by kernel_rfl) (by kernel_rfl) (by kernel_rfl) (fun _ _ _ h => h) (Or.inl ⟨by rfl, ?_⟩) (Below.refl _ _) ?_
    · intro w' hSw
      (try simp only [List.getElem_toArray, List.getElem_cons_succ, List.getElem_cons_zero])
      go_simp
    (try simp only [List.getElem_toArray, List.getElem_cons_succ, List.getElem_cons_zero, Act.put, List.setIfInBounds_toArray, List.set_cons_zero, List.set_cons_succ])
    refine wpAnyE_take (i := 3) (oi := _) (v := .pointer (some ⟨gt, 0, none⟩)) rfl (by kernel_rfl) (by kernel_rfl) (by kernel_rfl) (by kernel_rfl) (fun _ _ _ h => h) (Or.inl ⟨by rfl, ?_⟩) (Below.refl _ _) ?_
    · intro w' hSw
      (try simp only [List.getElem_toArray, List.getElem_cons_succ, List.getElem_cons_zero])
      go_simp
    (try simp only [List.getElem_toArray, List.getElem_cons_succ, List.getElem_cons_zero, Act.put, List.setIfInBounds_toArray, List.set_cons_zero, List.set_cons_succ])
    refine wpAnyE_take (i := 4) (oi := _) (v := .agg #[.slice (some ⟨gm, 0, none⟩) M cm]) rfl (by kernel_rfl) (by kernel_rfl) (by kernel_rfl) (by kernel_rfl) (fun _ _ _ h => h) (Or.inl ⟨by rfl, ?_⟩) (Below.refl _ _) ?_
    · intro w' hSw
      (try simp only [List.getElem_toArray, List.getElem_cons_succ, List.getElem_cons_zero])
      simp only [execOp, Instr.loadAt, Instr.sureAddr, Sem.run_bind, Sem.run_pure]
      rw [show (Act.eval _ (Operand.tmp 36)) = Value.pointer (some ⟨gt, 0, none⟩) from rfl]
      simp only [Sem.run_pure, Result.andThen_ok, run_loadVar_sub w' gt 0 33 #[.slice (some ⟨gm, 0, none⟩) M cm] _ (one_cell (cell_keep hSw c0)) Try.underlying33 rfl (by kernel_rfl)]
    (try simp only [List.getElem_toArray, List.getElem_cons_succ, List.getElem_cons_zero, Act.put, List.setIfInBounds_toArray, List.set_cons_zero, List.set_cons_succ])
    refine wpAnyE_one (i := 5) (o := _) (by kernel_rfl) rfl (fun K hK => ?_)
    (try simp only [List.getElem_toArray, List.getElem_cons_succ, List.getElem_cons_zero])
    go_simp
    (with_reducible refine (list_any l (some ⟨gm, 0, none⟩) cm M t.m L _ HL.out.2.1 HL.out.1.nn HA.out HM.out (by rw [← HM.out]; exact HL.out.1.fr) (fun a ha => by rw [← HM.out]; exact HL.out.1.nd a ha) HL.out.1.idx HL.out.1.ch HL.out.1.inr HL.out.1.nod (by have := HL.out.1.ll; omega)).mono ?_)
    rintro e w9 ⟨AL, cL, rfl, hownL, hb⟩
    obtain ⟨nL, hnL⟩ : ∃ z, L.length = z := ⟨_, rfl⟩
    obtain ⟨bF, hbF, hAL, hfa⟩ := own_ge hownL rfl
    have hneF : bF ≠ gH := by have := kH.lt; omega
    rw [hnL] at hAL ⊢
    have HNL := Lib.hid (And.intro hnL (And.intro hAL hneF))
    have hn9 : nL ≤ 9 := by have := HL.out.1.ll; omega
    have wh : Wh w6 gH N bF L [] w9 := ⟨below_tr hb7 hb, kH.keep hb, hfa⟩
    clear hownL hnL hAL hfa hbF hneF
    refine hK.out _ _ (fun _ => hb) ?_
    clear hK K
    (try simp only [List.getElem_toArray, List.getElem_cons_succ, List.getElem_cons_zero, Act.put, List.setIfInBounds_toArray, List.set_cons_zero, List.set_cons_succ])
    refine wpAnyE_take (i := 6) (oi := _) (v := .slice AL nL cL) rfl (by kernel_rfl) (by kernel_rfl) (by kernel_rfl) (by kernel_rfl) (fun _ _ _ h => h) (Or.inl ⟨by rfl, ?_⟩) hb ?_
    · intro w' hSw
      (try simp only [List.getElem_toArray, List.getElem_cons_succ, List.getElem_cons_zero])
      go_simp
    (try simp only [List.getElem_toArray, List.getElem_cons_succ, List.getElem_cons_zero, Act.put, List.setIfInBounds_toArray, List.set_cons_zero, List.set_cons_succ])
    refine wpAnyE_done (by kernel_rfl) ?_ _
    clear hb c0 lT kH hb7 kL7 HA
    go_upto_region 9 with fail
    go_loopw [9] (fun v9 wr => W1Rel w6 gH N bF L v9 wr) (fun v9 _ => nL - (intOf v9).toNat)
    case atStart => exact ⟨0, Nat.zero_le _, rfl, wh⟩
    case round =>
      clear wh
      obtain ⟨k, hk, rfl, wh⟩ := hrel
      rw [HNL.out.1] at hk
      by_cases hlt : k < nL
      · have i1 : decide ((k : Int) < nL) = true := by simp; omega
        have i2 : decide (k < nL) = true := by simp; omega
        have i3 : (k : Int) < nL := by omega
        have HLT := Lib.hid hlt
        obtain ⟨x, hxk⟩ : ∃ x, L[k]? = some x := ⟨_, List.getElem?_eq_getElem (by rw [HNL.out.1]; exact hlt)⟩
        have hxr := HL.out.1.inr x (List.mem_of_getElem? hxk)
        rw [HL.out.2.2.1] at hxr
        obtain ⟨xn, rfl⟩ : ∃ xn : Nat, x = xn := ⟨x.toNat, by omega⟩
        have hxN : xn ≤ N := by omega
        have hAL := HNL.out.2.1 (by omega)
        subst hAL
        have cf := wh.fa k xn hxk
        rw [Nat.zero_add] at cf
        have lf := World.block_lt_of_cell? _ _ cf
        dsimp only at lf
        obtain ⟨q, hq⟩ : ∃ q, (L.take k).count (xn : Int) = q := ⟨_, rfl⟩
        have hq9 : q ≤ 1000 := by have := count_le_len (L.take k) (xn : Int); have := HL.out.1.ll; simp at *; omega
        have hS : L.take (k + 1) = L.take k ++ [(xn : Int)] := by rw [List.take_add_one, hxk]; rfl
        have HQ := Lib.hid (And.intro hq hS)
        have HXK := Lib.hid hxk
        have kLr := kL.keep wh.b4
        have q1 := kLr.cell 1
        have lL := kLr.lt
        simp at q1
        rw [HL.out.2.2.1] at q1
        have g1 : decide ((xn : Int) < 1) = false := by simp; omega
        have g2 : decide ((N : Int) < xn) = false := by simp; omega
        have g2' : decide (N < xn) = false := by simp; omega
        have g1' : decide (xn < 1) = false := by simp; omega
        clear hxk hq hS kLr
        go_upto_region 11 with fail
        go_quiet (fail)
        have wh2 := wh.keep (below_dn (Below.refl _ _) nq)
        clear q1 lL cf lf wh g1 g1' g2 g2'
        generalize wr.drewN nq = wr2 at *
        have cf := wh2.fa k xn HXK.out
        rw [Nat.zero_add] at cf
        have lf := World.block_lt_of_cell? _ _ cf
        dsimp only at lf
        have hwr : IntKind.i64.wrap ((q : Int) + 1) = (q : Int) + 1 := by rw [IntWalk.i64_in _ (by omega)]
        have hch := wh2.cell hxN HQ.out.1
        have fch := wh2.kH.free xn
        have lch := wh2.kH.lt
        have hxi : (xn : Int) < ((N + 1 : Nat) : Int) := by omega
        have hxi2 : (xn : Int) < (N : Int) + 1 := by omega
        have HWH := Lib.hid wh2
        clear wh2
        go_wp2_with fail
        have wh3 := HWH.out.put (by rw [HGH.out]; exact Nat.le_refl _) HNL.out.2.2 hxN HQ.out.1
        rw [← HQ.out.2] at wh3
        have HWI := Lib.hid wh3
        clear wh3 HWH
        go_roundw
        case rel => exact ⟨k + 1, by have := HLT.out; rw [HNL.out.1]; omega, by go_num, HWI.out⟩
        case measure => have := HLT.out; simp [intOf]; omega
      · have i1 : decide ((k : Int) < nL) = false := by simp; omega
        have i2 : decide (k < nL) = false := by simp; omega
        obtain rfl : k = nL := by omega
        rw [← HNL.out.1, List.take_length] at wh
        go_upto_region 14 with fail
        clear i1 i2 hlt hk
        refine wp_region_E (S := fun w' => Below wr.drew.heap.size wr.drew w') (E := fun _ => false) (by kernel_rfl) ?_
        replace wh := wh.drew
        generalize wr.drew = wa at *
        have hxa := hx.keep wh.b4
        have kLa := kL.keep wh.b4
        obtain ⟨gm2, cm2, c0, hA, lT⟩ := hxa.c0
        rw [HM.out] at c0
        have HA2 := Lib.hid hA
        clear hA hxa
        refine wpAnyE_take (i := 0) (oi := _) (v := .pointer (some ⟨gt, 0, none⟩)) rfl (by kernel_rfl) (by kernel_rfl) (by kernel_rfl) (by kernel_rfl) (fun _ _ _ h => h) (Or.inl ⟨by rfl, ?_⟩) (Below.refl _ _) ?_
        · intro w' hSw
          (try simp only [List.getElem_toArray, List.getElem_cons_zero])
          go_simp
        (try simp only [List.getElem_toArray, List.getElem_cons_zero, Act.put, List.setIfInBounds_toArray, List.set_cons_zero, List.set_cons_succ])
        refine wpAnyE_take (i := 1) (oi := _) (v := .pointer (some ⟨gt, 0, none⟩)) rfl (by kernel_rfl) (by kernel_rfl) (by kernel_rfl) (by kernel_rfl) (fun _ _ _ h => h) (Or.inl ⟨by rfl, ?_⟩) (Below.refl _ _) ?_
        · intro w' hSw
          (try simp only [List.getElem_toArray, List.getElem_cons_succ, List.getElem_cons_zero])
          go_simp
        (try simp only [List.getElem_toArray, List.getElem_cons_succ, List.getElem_cons_zero, Act.put, List.setIfInBounds_toArray, List.set_cons_zero, List.set_cons_succ])
        refine wpAnyE_take (i := 2) (oi := _) (v := .pointer (some ⟨gt, 0, none⟩)) rfl (by kernel_rfl) (by kernel_rfl) (by kernel_rfl) (by kernel_rfl) (fun _ _ _ h => h) (Or.inl ⟨by rfl, ?_⟩) (Below.refl _ _) ?_
        · intro w' hSw
          (try simp only [List.getElem_toArray, List.getElem_cons_succ, List.getElem_cons_zero])
          go_simp
        (try simp only [List.getElem_toArray, List.getElem_cons_succ, List.getElem_cons_zero, Act.put, List.setIfInBounds_toArray, List.set_cons_zero, List.set_cons_succ])
        refine wpAnyE_take (i := 3) (oi := _) (v := .agg #[.slice (some ⟨gm2, 0, none⟩) M cm2]) rfl (by kernel_rfl) (by kernel_rfl) (by kernel_rfl) (by kernel_rfl) (fun _ _ _ h => h) (Or.inl ⟨by rfl, ?_⟩) (Below.refl _ _) ?_
        · intro w' hSw
          (try simp only [List.getElem_toArray, List.getElem_cons_succ, List.getElem_cons_zero])
          simp only [execOp, Instr.loadAt, Instr.sureAddr, Sem.run_bind, Sem.run_pure]
          rw [show (Act.eval _ (Operand.tmp 71)) = Value.pointer (some ⟨gt, 0, none⟩) from rfl]
          simp only [Sem.run_pure, Result.andThen_ok, run_loadVar_sub w' gt 0 33 #[.slice (some ⟨gm2, 0, none⟩) M cm2] _ (one_cell (cell_keep hSw c0)) Try.underlying33 rfl (by kernel_rfl)]
        (try simp only [List.getElem_toArray, List.getElem_cons_succ, List.getElem_cons_zero, Act.put, List.setIfInBounds_toArray, List.set_cons_zero, List.set_cons_succ])
        refine wpAnyE_take (i := 4) (oi := _) (v := .agg (lyC l)) rfl (by kernel_rfl) (by kernel_rfl) (by kernel_rfl) (by kernel_rfl) (fun _ _ _ h => h) (Or.inl ⟨by rfl, ?_⟩) (Below.refl _ _) ?_
        · intro w' hSw
          (try simp only [List.getElem_toArray, List.getElem_cons_succ, List.getElem_cons_zero])
          simp only [execOp, Instr.loadAt, Instr.sureAddr, Sem.run_bind, Sem.run_pure]
          rw [show (Act.eval _ (Operand.tmp 4)) = Value.pointer (some ⟨bL, 0, none⟩) from rfl]
          simp only [Sem.run_pure, Result.andThen_ok, run_loadVar_row w' bL 40 40 (lyC l) (0, 0) _ (kLa.keep hSw) Try.underlying40 rfl (by kernel_rfl)]
        (try simp only [List.getElem_toArray, List.getElem_cons_succ, List.getElem_cons_zero, Act.put, List.setIfInBounds_toArray, List.set_cons_zero, List.set_cons_succ])
        refine wpAnyE_one (i := 5) (o := _) (by kernel_rfl) rfl (fun K hK => ?_)
        (try simp only [List.getElem_toArray, List.getElem_cons_succ, List.getElem_cons_zero])
        go_simp
        (with_reducible refine (rcell_any l 0 _ HL.out.2.1).mono ?_)
        rintro e wb ⟨rfl, hb1⟩
        obtain ⟨kc, hkc⟩ : ∃ z, cellAt l 0 = z := ⟨_, rfl⟩
        rw [hkc]
        refine hK.out _ _ (fun _ => hb1) ?_
        clear hK K
        (try simp only [List.getElem_toArray, List.getElem_cons_succ, List.getElem_cons_zero, Act.put, List.setIfInBounds_toArray, List.set_cons_zero, List.set_cons_succ])
        refine wpAnyE_one (i := 6) (o := _) (by kernel_rfl) rfl (fun K hK => ?_)
        (try simp only [List.getElem_toArray, List.getElem_cons_succ, List.getElem_cons_zero])
        go_simp
        (with_reducible refine (cell_n (some ⟨gm2, 0, none⟩) cm2 M t.m kc _ HM.out (HA2.out.keepb hb1)).mono ?_)
        rintro e wc ⟨rfl, hb2⟩
        have hb3 := below_tr hb1 hb2
        have hcell : cellN t.m kc = cellOf l t.m := by
          have := HL.out.1.ce
          rw [hkc] at this
          unfold cellN cellOf
          rw [if_neg (by omega), hkc]
        rw [hcell]
        clear hcell
        refine hK.out _ _ (fun _ => hb3) ?_
        clear hK K
        (try simp only [List.getElem_toArray, List.getElem_cons_succ, List.getElem_cons_zero, Act.put, List.setIfInBounds_toArray, List.set_cons_zero, List.set_cons_succ])
        obtain ⟨icn, hic⟩ : ∃ z : Nat, cellOf l t.m = z := ⟨(cellOf l t.m).toNat, by have := HL.out.1.cr; omega⟩
        rw [hic]
        have hicN : icn ≤ N := by have := HL.out.1.cr; rw [hic, HL.out.2.2.1] at this; omega
        have HIC := Lib.hid hic
        clear hic hkc
        refine wpAnyE_take (i := 7) (oi := _) (v := .int .i64 (icn : Nat)) rfl (by kernel_rfl) (by kernel_rfl) (by kernel_rfl) (by kernel_rfl) (fun _ _ _ h => h) (Or.inl ⟨by rfl, ?_⟩) hb3 ?_
        · intro w' hSw
          (try simp only [List.getElem_toArray, List.getElem_cons_succ, List.getElem_cons_zero])
          go_simp
        (try simp only [List.getElem_toArray, List.getElem_cons_succ, List.getElem_cons_zero, Act.put, List.setIfInBounds_toArray, List.set_cons_zero, List.set_cons_succ])
        refine wpAnyE_done (by kernel_rfl) ?_ _
        replace wh := wh.keep hb3
        replace kLa := kLa.keep hb3
        clear hb1 hb2 hb3 c0 lT HA2
        have q1 := kLa.cell 1
        have lL := kLa.lt
        simp at q1
        rw [HL.out.2.2.1] at q1
        have g1 : decide ((icn : Int) < 0) = false := by simp
        have g2 : decide ((N : Int) < icn) = false := by simp; omega
        have g2' : decide (N < icn) = false := by simp; omega
        obtain ⟨q, hq⟩ : ∃ q, L.count (icn : Int) = q := ⟨_, rfl⟩
        have hq9 : q ≤ 1000 := by have := count_le_len L (icn : Int); have := HL.out.1.ll; omega
        have hwr : IntKind.i64.wrap ((q : Int) + 1) = (q : Int) + 1 := by rw [IntWalk.i64_in _ (by omega)]
        have hch := wh.cell hicN hq
        have fch := wh.kH.free icn
        have lch := wh.kH.lt
        have hxi : (icn : Int) < ((N + 1 : Nat) : Int) := by omega
        have hxi2 : (icn : Int) < (N : Int) + 1 := by omega
        have wh3 := wh.put (by rw [HGH.out]; exact Nat.le_refl _) HNL.out.2.2 hicN hq
        have HWI := Lib.hid wh3
        clear wh3 wh hq kLa
        go_upto_region 18 with fail
        clear q1 lL g1 g2 g2' hwr hch fch lch hxi hxi2 hq9
        show Code.wp Try.prog _ _ _ (wc.setCell ⟨gH, icn, none⟩ (.int .i64 ((q : Int) + 1)))
        have wh := HWI.out
        clear HWI
        generalize wc.setCell ⟨gH, icn, none⟩ (.int .i64 ((q : Int) + 1)) = wd at *
        go_upto_region 19 with fail
        go_loopw [11] (fun v11 wr => W2Rel w6 gH N bF L (L ++ [(icn : Int)]) t n v11 wr) (fun v11 _ => n - (intOf v11).toNat)
        case atStart => exact ⟨0, Nat.zero_le _, rfl, by rw [show L ++ [(icn : Int)] ++ flatG t 0 = L ++ [(icn : Int)] by simp [flatG]]; exact wh⟩
        case round =>
          clear wh
          obtain ⟨k, hk, rfl, wh⟩ := hrel
          have hxr := hx.keep wh.b4
          have kLr := kL.keep wh.b4
          obtain ⟨cc, c1, lT⟩ := hxr.c1
          rw [HL.out.1.len] at c1
          by_cases hlt : k < n
          · have i1 : decide ((k : Int) < n) = true := by simp; omega
            have i2 : decide (k < n) = true := by simp; omega
            have i3 : (k : Int) < n := by omega
            have HLK := Lib.hid hlt
            obtain ⟨s, hs⟩ : ∃ s, t.seats[k]? = some s := ⟨_, List.getElem?_eq_getElem (by rw [HL.out.1.len]; exact hlt)⟩
            obtain ⟨G, cG, o10', -, hG⟩ := hx.cells hs
            have hgo := HL.out.1.gone k s hs
            obtain ⟨gl, hgl⟩ : ∃ z, s.gone.length = z := ⟨_, rfl⟩
            rw [hgl] at o10' hG hgo
            have o10 := cell_keep wh.b4 o10'
            have lS := World.block_lt_of_cell? _ _ o10
            dsimp only at lS
            clear o10'
            have hgn : gn t k = s.gone.map Prod.fst := by simp [gn, hs]
            have HS := Lib.hid (And.intro hs (And.intro hgl (And.intro hgo hgn)))
            have hgl5 : gl ≤ 5 := hgo.1
            have q0 := kLr.cell 0
            have lL := kLr.lt
            simp at q0
            rw [HL.out.1.ns.1] at q0
            have hw2 : IntKind.i64.wrap (2 * (n : Int)) = 2 * n := by rw [IntWalk.i64_in _ (by omega)]
            have hw3 : IntKind.i64.wrap (2 * (n : Int) + 6) = 2 * n + 6 := by rw [IntWalk.i64_in _ (by omega)]
            have hge : decide (2 * (n : Int) + 6 ≤ gl) = false := by simp; omega
            have HG := Lib.hid hG
            have hb4 : Below w6.heap.size w6 wr := wh.b4
            have W0 := wh
            clear hgl hgo hgn hs hG wh
            go_upto_region 25 with fail
            clear i1 i2 i3 q0 lL hw2 hw3 hge c1 lT o10 lS
            go_loopw [13] (fun v13 wr => W3Rel w6 gH N bF L (L ++ [(icn : Int)] ++ flatG t k) (s.gone.map Prod.fst) v13 wr) (fun v13 _ => gl - (intOf v13).toNat)
            case atStart => exact ⟨0, Nat.zero_le _, rfl, by rw [List.take_zero, List.append_nil]; exact W0⟩
            case round =>
              obtain ⟨i, hi, rfl, wh⟩ := hrel
              rw [List.length_map, HS.out.2.1] at hi
              by_cases hli : i < gl
              · have i1 : decide ((i : Int) < gl) = true := by simp; omega
                have i2 : decide (i < gl) = true := by simp; omega
                have i3 : (i : Int) < gl := by omega
                have HLI := Lib.hid hli
                obtain ⟨r, hr⟩ : ∃ r, s.gone[i]? = some r := ⟨_, List.getElem?_eq_getElem (by rw [HS.out.2.1]; exact hli)⟩
                have hxr2 := HS.out.2.2.1.2 r (List.mem_of_getElem? hr)
                rw [HL.out.2.2.1] at hxr2
                obtain ⟨xn, hxn⟩ : ∃ xn : Nat, r.1 = xn := ⟨r.1.toNat, by omega⟩
                have hxN : xn ≤ N := by omega
                obtain ⟨b, ob, rfl, hbl2, hcs⟩ := HG.out (by omega)
                have cf := hcs i r hr
                rw [hxn] at cf
                obtain ⟨q, hq⟩ : ∃ q, ((L ++ [(icn : Int)] ++ flatG t k) ++ (s.gone.map Prod.fst).take i).count (xn : Int) = q := ⟨_, rfl⟩
                have hS : (s.gone.map Prod.fst).take (i + 1) = (s.gone.map Prod.fst).take i ++ [(xn : Int)] := by
                  rw [List.take_add_one, List.getElem?_map, hr]
                  simp [hxn]
                have hq9 : q ≤ 1000 := by
                  have h1 := HL.out.1.once (xn : Int) (by rw [HL.out.2.2.1]; omega)
                  have h2 : q ≤ (L ++ [(icn : Int)] ++ flatG t n).count (xn : Int) := by
                    rw [← hq, HIC.out.symm]
                    have h3 : (L ++ [cellOf l t.m] ++ flatG t k ++ (s.gone.map Prod.fst).take i).Sublist (L ++ [cellOf l t.m] ++ flatG t n) := by
                      rw [List.append_assoc (L ++ [cellOf l t.m])]
                      refine List.Sublist.append_left ?_ _
                      have h4 : (flatG t k ++ (s.gone.map Prod.fst).take i).Sublist (flatG t (k + 1)) := by
                        rw [flatG_succ, HS.out.2.2.2]
                        exact List.Sublist.append_left (List.take_sublist _ _) _
                      refine h4.trans ?_
                      have h5 : ∀ j, k + 1 + j ≤ n → (flatG t (k + 1)).Sublist (flatG t (k + 1 + j)) := by
                        intro j
                        induction j with
                        | zero => intro _; exact List.Sublist.refl _
                        | succ j ih => intro hj; exact (ih (by omega)).trans (by rw [← Nat.add_assoc, flatG_succ]; exact List.sublist_append_left _ _)
                      have := h5 (n - (k + 1)) (by omega)
                      rwa [show k + 1 + (n - (k + 1)) = n by omega] at this
                    exact h3.count_le _
                  rw [HIC.out] at h1
                  omega
                have HQ := Lib.hid (And.intro hq (And.intro hS cf))
                have cfr := cell_keep wh.b4 cf
                have lfr := World.block_lt_of_cell? _ _ cfr
                dsimp only at lfr
                clear cf hcs hr hq hS
                have kLr2 := kL.keep wh.b4
                have q1 := kLr2.cell 1
                have lL := kLr2.lt
                simp at q1
                rw [HL.out.2.2.1] at q1
                have g1 : decide ((xn : Int) < 1) = false := by simp; omega
                have g1' : decide (xn < 1) = false := by simp; omega
                have g2 : decide ((N : Int) < xn) = false := by simp; omega
                have g2' : decide (N < xn) = false := by simp; omega
                go_upto_region 27 with fail
                go_quiet (fail)
                have wh2 := wh.keep (below_dn (Below.refl _ _) nq)
                clear q1 lL wh g1 g1' g2 g2' kLr2 cfr lfr
                generalize wr.drewN nq = wr2 at *
                have hwr : IntKind.i64.wrap ((q : Int) + 1) = (q : Int) + 1 := by rw [IntWalk.i64_in _ (by omega)]
                have hch := wh2.cell hxN HQ.out.1
                have fch := wh2.kH.free xn
                have lch := wh2.kH.lt
                have hxi : (xn : Int) < ((N + 1 : Nat) : Int) := by omega
                have hxi2 : (xn : Int) < (N : Int) + 1 := by omega
                have cfr := cell_keep wh2.b4 HQ.out.2.2
                have lfr := World.block_lt_of_cell? _ _ cfr
                dsimp only at lfr
                have HWH := Lib.hid wh2
                clear wh2
                go_wp2_with fail
                have wh3 := HWH.out.put (by rw [HGH.out]; exact Nat.le_refl _) HNL.out.2.2 hxN HQ.out.1
                rw [List.append_assoc, ← HQ.out.2.1] at wh3
                have HWI := Lib.hid wh3
                clear wh3 HWH
                go_roundw
                case rel => exact ⟨i + 1, by have := HLI.out; rw [List.length_map, HS.out.2.1]; omega, by go_num, HWI.out⟩
                case measure => have := HLI.out; simp [intOf]; omega
              · have i1 : decide ((i : Int) < gl) = false := by simp; omega
                have i2 : decide (i < gl) = false := by simp; omega
                obtain rfl : i = gl := by omega
                have wh4 : Wh w6 gH N bF L (L ++ [(icn : Int)] ++ flatG t (k + 1)) wr := by
                  rw [flatG_succ, HS.out.2.2.2, ← List.append_assoc]
                  have e : (s.gone.map Prod.fst).take i = s.gone.map Prod.fst := by rw [← HS.out.2.1, ← List.length_map (f := Prod.fst), List.take_length]
                  rw [e] at wh
                  exact wh
                clear wh W0
                go_upto_region 31 with fail
                clear i1 i2
                go_loopw [14] (fun v14 wr => W4Rel w6 gH N bF L (L ++ [(icn : Int)] ++ flatG t (k + 1)) v14 wr) (fun v14 _ => 3 - (intOf v14).toNat)
                case atStart => exact ⟨0, by omega, rfl, wh4⟩
                case round =>
                  clear wh4
                  obtain ⟨j, hj, rfl, wh⟩ := hrel
                  by_cases hlj : j < 3
                  · have i1 : decide ((j : Int) < 3) = true := by simp; omega
                    have i2 : decide (j < 3) = true := by simp; omega
                    obtain ⟨hv0, hra0, hra1⟩ := HL.out.1.resv k j hlt hlj
                    have HLJ := Lib.hid hlj
                    obtain ⟨ra, hra⟩ : ∃ z, resvAt l (k : Int) (j : Int) = z := ⟨_, rfl⟩
                    have hcl : cellN t.m ra = 0 := by
                      unfold cellN
                      rw [← hra, if_neg (by omega)]
                      exact hv0
                    have HR := Lib.hid (And.intro hcl hra)
                    clear hv0 hra0 hra1 hcl hra
                    go_upto_region 33 with fail
                    clear i1 i2
                    refine wp_region_E (S := fun w' => Below wr.drew.heap.size wr.drew w') (E := fun _ => false) (by kernel_rfl) ?_
                    replace wh := wh.drew
                    generalize wr.drew = wa at *
                    have hxa := hx.keep wh.b4
                    have kLa := kL.keep wh.b4
                    obtain ⟨gm2, cm2, c0, hA, lT⟩ := hxa.c0
                    rw [HM.out] at c0
                    have HA2 := Lib.hid hA
                    clear hA hxa
                    refine wpAnyE_take (i := 0) (oi := _) (v := .pointer (some ⟨gt, 0, none⟩)) rfl (by kernel_rfl) (by kernel_rfl) (by kernel_rfl) (by kernel_rfl) (fun _ _ _ h => h) (Or.inl ⟨by rfl, ?_⟩) (Below.refl _ _) ?_
                    · intro w' hSw
                      (try simp only [List.getElem_toArray, List.getElem_cons_zero])
                      go_simp
                    (try simp only [List.getElem_toArray, List.getElem_cons_zero, Act.put, List.setIfInBounds_toArray, List.set_cons_zero, List.set_cons_succ])
                    refine wpAnyE_take (i := 1) (oi := _) (v := .pointer (some ⟨gt, 0, none⟩)) rfl (by kernel_rfl) (by kernel_rfl) (by kernel_rfl) (by kernel_rfl) (fun _ _ _ h => h) (Or.inl ⟨by rfl, ?_⟩) (Below.refl _ _) ?_
                    · intro w' hSw
                      (try simp only [List.getElem_toArray, List.getElem_cons_succ, List.getElem_cons_zero])
                      go_simp
                    (try simp only [List.getElem_toArray, List.getElem_cons_succ, List.getElem_cons_zero, Act.put, List.setIfInBounds_toArray, List.set_cons_zero, List.set_cons_succ])
                    refine wpAnyE_take (i := 2) (oi := _) (v := .pointer (some ⟨gt, 0, none⟩)) rfl (by kernel_rfl) (by kernel_rfl) (by kernel_rfl) (by kernel_rfl) (fun _ _ _ h => h) (Or.inl ⟨by rfl, ?_⟩) (Below.refl _ _) ?_
                    · intro w' hSw
                      (try simp only [List.getElem_toArray, List.getElem_cons_succ, List.getElem_cons_zero])
                      go_simp
                    (try simp only [List.getElem_toArray, List.getElem_cons_succ, List.getElem_cons_zero, Act.put, List.setIfInBounds_toArray, List.set_cons_zero, List.set_cons_succ])
                    refine wpAnyE_take (i := 3) (oi := _) (v := .agg #[.slice (some ⟨gm2, 0, none⟩) M cm2]) rfl (by kernel_rfl) (by kernel_rfl) (by kernel_rfl) (by kernel_rfl) (fun _ _ _ h => h) (Or.inl ⟨by rfl, ?_⟩) (Below.refl _ _) ?_
                    · intro w' hSw
                      (try simp only [List.getElem_toArray, List.getElem_cons_succ, List.getElem_cons_zero])
                      simp only [execOp, Instr.loadAt, Instr.sureAddr, Sem.run_bind, Sem.run_pure]
                      rw [show (Act.eval _ (Operand.tmp 155)) = Value.pointer (some ⟨gt, 0, none⟩) from rfl]
                      simp only [Sem.run_pure, Result.andThen_ok, run_loadVar_sub w' gt 0 33 #[.slice (some ⟨gm2, 0, none⟩) M cm2] _ (one_cell (cell_keep hSw c0)) Try.underlying33 rfl (by kernel_rfl)]
                    (try simp only [List.getElem_toArray, List.getElem_cons_succ, List.getElem_cons_zero, Act.put, List.setIfInBounds_toArray, List.set_cons_zero, List.set_cons_succ])
                    refine wpAnyE_take (i := 4) (oi := _) (v := .agg (lyC l)) rfl (by kernel_rfl) (by kernel_rfl) (by kernel_rfl) (by kernel_rfl) (fun _ _ _ h => h) (Or.inl ⟨by rfl, ?_⟩) (Below.refl _ _) ?_
                    · intro w' hSw
                      (try simp only [List.getElem_toArray, List.getElem_cons_succ, List.getElem_cons_zero])
                      simp only [execOp, Instr.loadAt, Instr.sureAddr, Sem.run_bind, Sem.run_pure]
                      rw [show (Act.eval _ (Operand.tmp 4)) = Value.pointer (some ⟨bL, 0, none⟩) from rfl]
                      simp only [Sem.run_pure, Result.andThen_ok, run_loadVar_row w' bL 40 40 (lyC l) (0, 0) _ (kLa.keep hSw) Try.underlying40 rfl (by kernel_rfl)]
                    (try simp only [List.getElem_toArray, List.getElem_cons_succ, List.getElem_cons_zero, Act.put, List.setIfInBounds_toArray, List.set_cons_zero, List.set_cons_succ])
                    refine wpAnyE_take (i := 5) (oi := _) (v := .int .i64 (k : Nat)) rfl (by kernel_rfl) (by kernel_rfl) (by kernel_rfl) (by kernel_rfl) (fun _ _ _ h => h) (Or.inl ⟨by rfl, ?_⟩) (Below.refl _ _) ?_
                    · intro w' hSw
                      (try simp only [List.getElem_toArray, List.getElem_cons_succ, List.getElem_cons_zero])
                      go_simp
                    (try simp only [List.getElem_toArray, List.getElem_cons_succ, List.getElem_cons_zero, Act.put, List.setIfInBounds_toArray, List.set_cons_zero, List.set_cons_succ])
                    refine wpAnyE_take (i := 6) (oi := _) (v := .int .i64 (j : Nat)) rfl (by kernel_rfl) (by kernel_rfl) (by kernel_rfl) (by kernel_rfl) (fun _ _ _ h => h) (Or.inl ⟨by rfl, ?_⟩) (Below.refl _ _) ?_
                    · intro w' hSw
                      (try simp only [List.getElem_toArray, List.getElem_cons_succ, List.getElem_cons_zero])
                      go_simp
                    (try simp only [List.getElem_toArray, List.getElem_cons_succ, List.getElem_cons_zero, Act.put, List.setIfInBounds_toArray, List.set_cons_zero, List.set_cons_succ])
                    refine wpAnyE_one (i := 7) (o := _) (by kernel_rfl) rfl (fun K hK => ?_)
                    (try simp only [List.getElem_toArray, List.getElem_cons_succ, List.getElem_cons_zero])
                    go_simp
                    (with_reducible refine (rresv_any l k j _ HL.out.2.1).mono ?_)
                    rintro e wb ⟨rfl, hb1⟩
                    rw [HR.out.2]
                    refine hK.out _ _ (fun _ => hb1) ?_
                    clear hK K
                    (try simp only [List.getElem_toArray, List.getElem_cons_succ, List.getElem_cons_zero, Act.put, List.setIfInBounds_toArray, List.set_cons_zero, List.set_cons_succ])
                    refine wpAnyE_one (i := 8) (o := _) (by kernel_rfl) rfl (fun K hK => ?_)
                    (try simp only [List.getElem_toArray, List.getElem_cons_succ, List.getElem_cons_zero])
                    go_simp
                    (with_reducible refine (cell_n (some ⟨gm2, 0, none⟩) cm2 M t.m ra _ HM.out (HA2.out.keepb hb1)).mono ?_)
                    rintro e wc ⟨rfl, hb2⟩
                    have hb3 := below_tr hb1 hb2
                    rw [HR.out.1]
                    refine hK.out _ _ (fun _ => hb3) ?_
                    clear hK K
                    (try simp only [List.getElem_toArray, List.getElem_cons_succ, List.getElem_cons_zero, Act.put, List.setIfInBounds_toArray, List.set_cons_zero, List.set_cons_succ])
                    refine wpAnyE_take (i := 9) (oi := _) (v := .bool false) rfl (by kernel_rfl) (by kernel_rfl) (by kernel_rfl) (by kernel_rfl) (fun _ _ _ h => h) (Or.inl ⟨by rfl, ?_⟩) hb3 ?_
                    · intro w' hSw
                      (try simp only [List.getElem_toArray, List.getElem_cons_succ, List.getElem_cons_zero])
                      go_simp
                    (try simp only [List.getElem_toArray, List.getElem_cons_succ, List.getElem_cons_zero, Act.put, List.setIfInBounds_toArray, List.set_cons_zero, List.set_cons_succ])
                    refine wpAnyE_done (by kernel_rfl) ?_ _
                    replace wh := wh.keep hb3
                    clear hb1 hb2 hb3 c0 lT HA2 kLa
                    have HWI := Lib.hid wh
                    clear wh
                    go_wp2_with fail
                    go_roundw
                    case rel => exact ⟨j + 1, by have := HLJ.out; omega, by go_num, HWI.out⟩
                    case measure => have := HLJ.out; simp [intOf]; omega
                  · have i1 : decide ((j : Int) < 3) = false := by simp; omega
                    have i2 : decide (j < 3) = false := by simp; omega
                    have HWI := Lib.hid wh
                    clear wh
                    go_wp2_with fail
                    go_roundw
                    case rel => exact ⟨k + 1, by have := HLK.out; omega, by go_num, HWI.out⟩
                    case measure => have := HLK.out; simp [intOf]; omega
          · have i1 : decide ((k : Int) < n) = false := by simp; omega
            have i2 : decide (k < n) = false := by simp; omega
            obtain rfl : k = n := by omega
            have W5 := wh
            clear wh
            go_upto_region 36 with fail
            clear i1 i2 c1 lT hxr kLr
            go_loopw [15] (fun v15 wr => W5Rel w6 gH N bF L (L ++ [(icn : Int)] ++ flatG t k) v15 wr) (fun v15 _ => N + 1 - (intOf v15).toNat)
            case atStart => exact ⟨1, Nat.le_refl _, by omega, rfl, W5⟩
            case round =>
              clear W5
              obtain ⟨i, hi0, hi1, rfl, wh⟩ := hrel
              have kLr := kL.keep wh.b4
              have q1 := kLr.cell 1
              have lL := kLr.lt
              simp at q1
              rw [HL.out.2.2.1] at q1
              by_cases hli : i ≤ N
              · have i1 : decide ((i : Int) ≤ N) = true := by simp; omega
                have i2 : decide (i ≤ N) = true := by simp; omega
                have hone : (L ++ [(icn : Int)] ++ flatG t k).count (i : Int) = 1 := by
                  have := HL.out.1.once (i : Int) (by rw [HL.out.2.2.1]; omega)
                  rw [HIC.out] at this
                  exact this
                have hch := wh.cell hli hone
                have lch := wh.kH.lt
                have hxi : (i : Int) < ((N + 1 : Nat) : Int) := by omega
                have hxi2 : (i : Int) < (N : Int) + 1 := by omega
                have HWI := Lib.hid wh
                clear wh hone
                go_wp2_with fail
                go_roundw
                case rel => exact ⟨i + 1, by omega, by omega, by go_num, HWI.out⟩
                case measure => simp [intOf]; omega
              · have i1 : decide ((i : Int) ≤ N) = false := by simp; omega
                have i2 : decide (i ≤ N) = false := by simp; omega
                go_upto_region 40 with fail
                clear i1 i2 q1 lL
                refine wp_region_E (S := fun w' => Below wr.drew.heap.size wr.drew w') (E := fun _ => false) (by kernel_rfl) ?_
                replace wh := wh.drew
                clear kLr
                generalize wr.drew = wa at *
                have hxa := hx.keep wh.b4
                have kLa := kL.keep wh.b4
                obtain ⟨gm2, cm2, c0, hA, lT⟩ := hxa.c0
                rw [HM.out] at c0
                have HA2 := Lib.hid hA
                clear hA hxa
                obtain ⟨ee, hee⟩ : ∃ z, eraOf l t.m = z := ⟨_, rfl⟩
                have hcl : cellN t.m l.era = ee := by
                  have := HL.out.1.era
                  unfold cellN
                  rw [if_neg (by omega)]
                  exact hee
                have he1 : 1 ≤ ee := by have := HL.out.1.era; rw [hee] at this; exact this.1
                have HR := Lib.hid hcl
                clear hcl hee
                refine wpAnyE_take (i := 0) (oi := _) (v := .bool true) rfl (by kernel_rfl) (by kernel_rfl) (by kernel_rfl) (by kernel_rfl) (fun _ _ _ h => h) (Or.inl ⟨by rfl, ?_⟩) (Below.refl _ _) ?_
                · intro w' hSw
                  (try simp only [List.getElem_toArray, List.getElem_cons_zero])
                  go_simp
                (try simp only [List.getElem_toArray, List.getElem_cons_zero, Act.put, List.setIfInBounds_toArray, List.set_cons_zero, List.set_cons_succ])
                refine wpAnyE_take (i := 1) (oi := _) (v := .bool true) rfl (by kernel_rfl) (by kernel_rfl) (by kernel_rfl) (by kernel_rfl) (fun _ _ _ h => h) (Or.inl ⟨by rfl, ?_⟩) (Below.refl _ _) ?_
                · intro w' hSw
                  (try simp only [List.getElem_toArray, List.getElem_cons_succ, List.getElem_cons_zero])
                  go_simp
                (try simp only [List.getElem_toArray, List.getElem_cons_succ, List.getElem_cons_zero, Act.put, List.setIfInBounds_toArray, List.set_cons_zero, List.set_cons_succ])
                refine wpAnyE_take (i := 2) (oi := _) (v := .pointer (some ⟨gt, 0, none⟩)) rfl (by kernel_rfl) (by kernel_rfl) (by kernel_rfl) (by kernel_rfl) (fun _ _ _ h => h) (Or.inl ⟨by rfl, ?_⟩) (Below.refl _ _) ?_
                · intro w' hSw
                  (try simp only [List.getElem_toArray, List.getElem_cons_succ, List.getElem_cons_zero])
                  go_simp
                (try simp only [List.getElem_toArray, List.getElem_cons_succ, List.getElem_cons_zero, Act.put, List.setIfInBounds_toArray, List.set_cons_zero, List.set_cons_succ])
                refine wpAnyE_take (i := 3) (oi := _) (v := .pointer (some ⟨gt, 0, none⟩)) rfl (by kernel_rfl) (by kernel_rfl) (by kernel_rfl) (by kernel_rfl) (fun _ _ _ h => h) (Or.inl ⟨by rfl, ?_⟩) (Below.refl _ _) ?_
                · intro w' hSw
                  (try simp only [List.getElem_toArray, List.getElem_cons_succ, List.getElem_cons_zero])
                  go_simp
                (try simp only [List.getElem_toArray, List.getElem_cons_succ, List.getElem_cons_zero, Act.put, List.setIfInBounds_toArray, List.set_cons_zero, List.set_cons_succ])
                refine wpAnyE_take (i := 4) (oi := _) (v := .pointer (some ⟨gt, 0, none⟩)) rfl (by kernel_rfl) (by kernel_rfl) (by kernel_rfl) (by kernel_rfl) (fun _ _ _ h => h) (Or.inl ⟨by rfl, ?_⟩) (Below.refl _ _) ?_
                · intro w' hSw
                  (try simp only [List.getElem_toArray, List.getElem_cons_succ, List.getElem_cons_zero])
                  go_simp
                (try simp only [List.getElem_toArray, List.getElem_cons_succ, List.getElem_cons_zero, Act.put, List.setIfInBounds_toArray, List.set_cons_zero, List.set_cons_succ])
                refine wpAnyE_take (i := 5) (oi := _) (v := .agg #[.slice (some ⟨gm2, 0, none⟩) M cm2]) rfl (by kernel_rfl) (by kernel_rfl) (by kernel_rfl) (by kernel_rfl) (fun _ _ _ h => h) (Or.inl ⟨by rfl, ?_⟩) (Below.refl _ _) ?_
                · intro w' hSw
                  (try simp only [List.getElem_toArray, List.getElem_cons_succ, List.getElem_cons_zero])
                  simp only [execOp, Instr.loadAt, Instr.sureAddr, Sem.run_bind, Sem.run_pure]
                  rw [show (Act.eval _ (Operand.tmp 179)) = Value.pointer (some ⟨gt, 0, none⟩) from rfl]
                  simp only [Sem.run_pure, Result.andThen_ok, run_loadVar_sub w' gt 0 33 #[.slice (some ⟨gm2, 0, none⟩) M cm2] _ (one_cell (cell_keep hSw c0)) Try.underlying33 rfl (by kernel_rfl)]
                (try simp only [List.getElem_toArray, List.getElem_cons_succ, List.getElem_cons_zero, Act.put, List.setIfInBounds_toArray, List.set_cons_zero, List.set_cons_succ])
                refine wpAnyE_take (i := 6) (oi := _) (v := .pointer (some ⟨bL, 11, none⟩)) rfl (by kernel_rfl) (by kernel_rfl) (by kernel_rfl) (by kernel_rfl) (fun _ _ _ h => h) (Or.inl ⟨by rfl, ?_⟩) (Below.refl _ _) ?_
                · intro w' hSw
                  (try simp only [List.getElem_toArray, List.getElem_cons_succ, List.getElem_cons_zero])
                  go_simp
                (try simp only [List.getElem_toArray, List.getElem_cons_succ, List.getElem_cons_zero, Act.put, List.setIfInBounds_toArray, List.set_cons_zero, List.set_cons_succ])
                refine wpAnyE_take (i := 7) (oi := _) (v := .int .i64 l.era) rfl (by kernel_rfl) (by kernel_rfl) (by kernel_rfl) (by kernel_rfl) (fun _ _ _ h => h) (Or.inl ⟨by rfl, ?_⟩) (Below.refl _ _) ?_
                · intro w' hSw
                  have s1 := (kLa.keep hSw).cell 11
                  (try simp at s1)
                  (try simp only [List.getElem_toArray, List.getElem_cons_succ, List.getElem_cons_zero])
                  go_simp
                (try simp only [List.getElem_toArray, List.getElem_cons_succ, List.getElem_cons_zero, Act.put, List.setIfInBounds_toArray, List.set_cons_zero, List.set_cons_succ])
                refine wpAnyE_one (i := 8) (o := _) (by kernel_rfl) rfl (fun K hK => ?_)
                (try simp only [List.getElem_toArray, List.getElem_cons_succ, List.getElem_cons_zero])
                go_simp
                (with_reducible refine (cell_n (some ⟨gm2, 0, none⟩) cm2 M t.m l.era _ HM.out HA2.out).mono ?_)
                rintro e wc ⟨rfl, hb2⟩
                rw [HR.out]
                refine hK.out _ _ (fun _ => hb2) ?_
                clear hK K
                (try simp only [List.getElem_toArray, List.getElem_cons_succ, List.getElem_cons_zero, Act.put, List.setIfInBounds_toArray, List.set_cons_zero, List.set_cons_succ])
                refine wpAnyE_take (i := 9) (oi := _) (v := .bool true) rfl (by kernel_rfl) (by kernel_rfl) (by kernel_rfl) (by kernel_rfl) (fun _ _ _ h => h) (Or.inl ⟨by rfl, ?_⟩) hb2 ?_
                · intro w' hSw
                  have g9 : decide (1 ≤ ee) = true := by simpa using he1
                  (try simp only [List.getElem_toArray, List.getElem_cons_succ, List.getElem_cons_zero])
                  go_simp
                (try simp only [List.getElem_toArray, List.getElem_cons_succ, List.getElem_cons_zero, Act.put, List.setIfInBounds_toArray, List.set_cons_zero, List.set_cons_succ])
                refine wpAnyE_take (i := 10) (oi := _) (v := .bool true) rfl (by kernel_rfl) (by kernel_rfl) (by kernel_rfl) (by kernel_rfl) (fun _ _ _ h => h) (Or.inl ⟨by rfl, ?_⟩) hb2 ?_
                · intro w' hSw
                  (try simp only [List.getElem_toArray, List.getElem_cons_succ, List.getElem_cons_zero])
                  go_simp
                (try simp only [List.getElem_toArray, List.getElem_cons_succ, List.getElem_cons_zero, Act.put, List.setIfInBounds_toArray, List.set_cons_zero, List.set_cons_succ])
                refine wpAnyE_take (i := 11) (oi := _) (v := .bool true) rfl (by kernel_rfl) (by kernel_rfl) (by kernel_rfl) (by kernel_rfl) (fun _ _ _ h => h) (Or.inl ⟨by rfl, ?_⟩) hb2 ?_
                · intro w' hSw
                  (try simp only [List.getElem_toArray, List.getElem_cons_succ, List.getElem_cons_zero])
                  go_simp
                (try simp only [List.getElem_toArray, List.getElem_cons_succ, List.getElem_cons_zero, Act.put, List.setIfInBounds_toArray, List.set_cons_zero, List.set_cons_succ])
                refine wpAnyE_done (by kernel_rfl) ?_ _
                have hfin := below_tr (below_tr hbl wh.b4) hb2
                have HFI := Lib.hid hfin
                clear hfin hb2 wh c0 lT HA2 kLa
                go_wp2_with fail
                go_ret
                exact ⟨rfl, HFI.out⟩
end Go.Proofs.Ytgjdjgainjedhaa
