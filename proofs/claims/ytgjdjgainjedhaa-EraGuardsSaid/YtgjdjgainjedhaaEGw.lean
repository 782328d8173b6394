/- EraGuards' walk. Printed by gw_gen.py. -/
import Derived.Test.YtgjdjgainjedhaaEGd
import Derived.Test.YtgjdjgainjedhaaESh
namespace Go.Proofs.Ytgjdjgainjedhaa
open Go.RowKit
set_option linter.unusedVariables false
attribute [local go_sem ↓] Go.wp_at_zero Go.wp_at_succ

theorem new_49 (w : World) : Calls Try.prog 16 #[.int .i64 49] w (NewMem 49 w) := new_any 49 w (by omega)
theorem next_gd (l : Ly) (s : Int) (G : Option Addr) (cp : Nat) (log : Log) (w : World) (f : LyFull l) (hse : 1 ≤ l.c.seats ∧ l.c.seats ≤ 8) (hno : l.c.nodes ≤ 1000) (hs : SlRes w w.heap.size G log) (hl : log.length ≤ 400) :
    Calls Try.prog 17 #[.agg (lyC l), .int .i64 1, .slice none 0 0, .agg #[.int .i64 1, .int .i64 0, .int .i64 s, .int .i64 32], .slice G log.length cp] w (ENextPost (eraR l 1 ⟨1, 0, s, 32⟩ [] log) w) :=
  enext_any l 1 ⟨1, 0, s, 32⟩ none 0 0 [] G cp log w f hse hno rfl (fun _ => ⟨rfl, rfl⟩) (fun h => by simp at h) (by decide) (fun x hx => by cases hx) hs (by omega)
/-- The loop: k rounds are behind. -/
def GwR (l : Ly) (s F V : Int) (passed : List Nat) (K bL bM : Nat) (w : World) (v13 v14 : Value) (wr : World) : Prop :=
  ∃ k gA cA : Nat, k ≤ K ∧ v14 = .int .i64 k ∧ OwnRes wr w.heap.size v13 (gdS l 1 s 32 2 (gdPass passed) (gdM0 F V) k).2 ∧ Bk wr bL 40 (lyC l) ∧ Bk wr bM 33 #[.slice (some ⟨gA, 0, none⟩) 49 cA] ∧ Sl wr wr.heap.size (some ⟨gA, 0, none⟩) 49 (ints (gdS l 1 s 32 2 (gdPass passed) (gdM0 F V) k).1) ∧ gA ≠ bM ∧ Below w.heap.size w wr
abbrev gdIn (S F : Int) (A : Option Addr) (n c : Nat) (V : Int) : Array Value := #[.int .u8 S, .int .u8 F, .slice A n c, .int .u16 V]
set_option maxRecDepth 1000000 in
set_option maxHeartbeats 32000000 in
theorem guards_law (S F : Int) (A : Option Addr) (n c : Nat) (V : Int) (passed : List Nat) (w : World) (hS : 0 ≤ S ∧ S < 256) (hF : 0 ≤ F ∧ F < 256) (hV : 0 ≤ V ∧ V < 65536) (hn : passed.length = n) (hA : SlU8 w w.heap.size A passed) : Calls Try.prog 5 #[.agg (gdIn S F A n c V)] w (BoolBelow true w) := by
  have hfull : LyFull gdL := lyFull_of _ gdCf_can
  have hof : ∀ w', Calls Try.prog 15 #[cfV ⟨2, 2, 1, 1, 1, 1, 0, 0, 0⟩] w' (OfPost gdL 0 w') := fun w' => rof_ok _ w' gdCf_can
  have hlay := gd_lay
  have hrun := fun (sn : Nat) (h1 : sn < 3) (h2 : n ≤ 20) => gd_is sn F V passed h1 hF (by omega)
  generalize gdL = l at *
  have HL := Lib.hid (And.intro hfull (And.intro hof hlay))
  have HRUN := Lib.hid hrun
  have HA := Lib.hid (And.intro hA hn)
  clear hfull hof hlay hrun hA hn
  have hse : (1 ≤ l.c.seats ∧ l.c.seats ≤ 8) ∧ l.c.nodes ≤ 1000 := by have := HL.out.2.2.1; omega
  have HSE := Lib.hid hse
  clear hse
  have kP := Bk.made w 55 (gdIn S F A n c V)
  have hbl := below_al (Below.refl w.heap.size w) (.cells (gdIn S F A n c V) 55)
  go_enter Try.func5, Try.ntmps5
  go_upto_region 1 with fail
  generalize w.alloc (.cells (gdIn S F A n c V) 55) = w1 at *
  obtain ⟨bP, hbP⟩ : ∃ z, w.heap.size = z := ⟨_, rfl⟩
  rw [hbP] at kP ⊢
  clear hbP
  have p0 := kP.cell 0
  have p1 := kP.cell 1
  have p2 := kP.cell 2
  have p3 := kP.cell 3
  have lP := kP.lt
  simp at p0 p1 p2 p3
  go_wp2_with fail
  (with_reducible refine (shown_any _).mono ?_)
  rintro e w2 ⟨rfl, hb⟩
  replace hbl := below_tr hbl hb
  clear hb kP p0 p1 p2 p3 lP
  by_cases hn20 : 20 < n
  · have i1 : decide ((20 : Int) < (n : Int)) = true := by simp; omega
    have i2 : decide (20 < n) = true := by simp; omega
    have HB := Lib.hid hbl
    clear hbl
    go_wp2_with fail
    go_ret
    exact ⟨rfl, HB.out⟩
  · have i1 : decide ((20 : Int) < (n : Int)) = false := by simp; omega
    have i2 : decide (20 < n) = false := by simp; omega
    have hle : n ≤ 20 := by omega
    obtain ⟨sn, hsn⟩ : ∃ z : Nat, S % 3 = z := ⟨(S % 3).toNat, by omega⟩
    have hs3 : sn < 3 := by omega
    have HSN := Lib.hid hsn
    clear hn20 hsn
    go_wp2_with fail
    (with_reducible refine (HL.out.2.1 _).mono ?_)
    rintro e w3 ⟨rfl, hb⟩
    replace hbl := below_tr hbl hb
    clear hb i1 i2
    go_upto_region 9 with (refine wpList_store_new rfl 40 (.tmp 8) (.tmp 41) rfl rfl w3.heap.size _ _ (lyC l) rfl rfl rfl rfl (by kernel_rfl) rfl (by simp [Value.oneCell']) ?_)
    have kL := Bk.made w3 40 (lyC l)
    replace hbl := below_al hbl (.cells (lyC l) 40)
    generalize w3.alloc (.cells (lyC l) 40) = w4 at *
    generalize w3.heap.size = bL at *
    go_upto_region 10 with fail
    rw [HSN.out]
    go_wp2_with (refine wpList_load_row rfl 40 (.tmp 8) rfl bL rfl 40 (lyC l) (0, 0) _ kL Try.underlying40 rfl (by kernel_rfl) ?_)
    (with_reducible refine (rcell_any l 0 _ HL.out.1).mono ?_)
    rintro e w5 ⟨rfl, hb⟩
    rw [HL.out.2.2.2.1]
    replace kL := kL.keep hb
    replace hbl := below_tr hbl hb
    clear hb
    have q24 := kL.cell 24
    have lL := kL.lt
    simp at q24
    rw [HL.out.2.2.1.1] at q24
    have hsz4 := hbl.size
    go_wp2_with fail
    (with_reducible refine (new_49 _).mono ?_)
    rintro e w6 ⟨g0, rfl, hown, hb⟩
    replace kL := kL.keep hb
    replace hbl := below_tr hbl hb
    clear hb q24 lL
    go_upto_region 12 with fail
    have kM := Bk.made w6 33 #[.slice (some ⟨g0, 0, none⟩) 49 49]
    have hgeM := hbl.size
    obtain ⟨gR, cur, ⟨hgR, kA⟩, hge0, hcur⟩ := own_cells' hown (by simp) (by omega)
    obtain rfl : g0 = gR := by injection hgR with h; injection h
    have hge : w.heap.size ≤ g0 := Nat.le_trans hsz4 hge0
    clear hgR hown hge0 hsz4
    replace kA := kA.alloc (.cells #[.slice (some ⟨g0, 0, none⟩) 49 49] 33)
    replace kL := kL.alloc (.cells #[.slice (some ⟨g0, 0, none⟩) 49 49] 33)
    replace hbl := below_al hbl (.cells #[.slice (some ⟨g0, 0, none⟩) 49 49] 33)
    generalize w6.alloc (.cells #[.slice (some ⟨g0, 0, none⟩) 49 49] 33) = w7 at *
    generalize w6.heap.size = bM at *
    have nL : g0 ≠ bL := bk_neT kA kL (by decide)
    have nM : g0 ≠ bM := bk_neT kA kM (by decide)
    have q11 := kL.cell 11
    have c0 := kM.cell 0
    have a2 := kA.cell 2
    rw [hcur 2 0 (by decide)] at a2
    have fa := kA.free 2
    have lL := kL.lt
    have lM := kM.lt
    have lA := kA.lt
    simp at q11 c0
    rw [HL.out.2.2.1.2.1] at q11
    have hwr : IntKind.i64.wrap (1 + F) = 1 + F := by rw [IntWalk.i64_in _ (by omega)]
    have HCUR := Lib.hid hcur
    clear hcur
    go_upto_region 13 with fail
    replace kL := kL.other (p := ⟨g0, 2, none⟩) (Ne.symm nL) (.int .i64 (1 + F))
    replace kM := kM.other (p := ⟨g0, 2, none⟩) (Ne.symm nM) (.int .i64 (1 + F))
    replace kA := kA.stored 2 (.int .i64 (1 + F))
    replace hbl := below_set hbl hge (p := ⟨g0, 2, none⟩) (.int .i64 (1 + F))
    generalize w7.setCell ⟨g0, 2, none⟩ (.int .i64 (1 + F)) = w8 at *
    have hcur := cur_set (v := 1 + F) (by simp) HCUR.out (i := 2)
    generalize cur.setIfInBounds 2 (.int .i64 (1 + F)) = curN at *
    clear HCUR q11 c0 a2 fa lL lM lA hwr
    have c0 := kM.cell 0
    have a2 := kA.cell 32
    rw [hcur 32 0 (by simp)] at a2
    have fa := kA.free 32
    have lM := kM.lt
    have lA := kA.lt
    simp at c0
    have hwr : IntKind.i64.wrap V = V := by rw [IntWalk.i64_in _ (by omega)]
    have HCUR := Lib.hid hcur
    clear hcur
    go_upto_region 14 with fail
    replace kL := kL.other (p := ⟨g0, 32, none⟩) (Ne.symm nL) (.int .i64 V)
    replace kM := kM.other (p := ⟨g0, 32, none⟩) (Ne.symm nM) (.int .i64 V)
    replace kA := kA.stored 32 (.int .i64 V)
    replace hbl := below_set hbl hge (p := ⟨g0, 32, none⟩) (.int .i64 V)
    generalize w8.setCell ⟨g0, 32, none⟩ (.int .i64 V) = w9 at *
    have hcur := cur_set (v := V) (by simp) HCUR.out (i := 32)
    generalize curN.setIfInBounds 32 (.int .i64 V) = curV at *
    clear HCUR c0 a2 fa lM lA hwr nL nM
    have hsl : Sl w9 w9.heap.size (some ⟨g0, 0, none⟩) 49 (ints (gdM0 F V)) := sl_cur kA (by simp [gdM0]) hcur
    have nM2 : g0 ≠ bM := bk_neT kA kM (by decide)
    clear hcur kA
    obtain ⟨K, hK, hask, hend, hgi⟩ := HRUN.out sn hs3 hle
    have HK := Lib.hid (And.intro hask (And.intro hend hgi))
    have HGM := Lib.hid hgeM
    clear hask hend hgi HRUN hgeM
    go_upto_region 16 with fail
    have hrl : GwR l (sn : Int) F V passed K bL bM w (.slice none 0 0) (.int .i64 0) w9 := ⟨0, g0, 49, Nat.zero_le _, rfl, World.ownsRow_nil _ _ _ _, kL, kM, hsl, nM2, hbl⟩
    have HRL := Lib.hid hrl
    clear hrl kL kM hsl nM2 hbl hge
    go_loopw [13, 14, 15, 16, 17, 18, 19, 20, 21, 22, 23, 24, 65, 66, 67, 68, 69, 70, 71, 72, 73, 74, 75, 76, 77, 78, 79, 80, 81, 82, 83, 84, 85, 86, 87, 88, 89, 90, 91, 92, 93, 94, 95, 96, 97, 98, 99, 100, 101, 102, 103, 104, 105, 106, 107, 108, 109, 110, 111, 112, 113, 114, 115, 116, 117, 118, 119, 120, 121, 122, 123, 124, 125, 126, 127, 128, 129, 130, 131, 132, 133, 134, 135, 136, 137, 138, 139, 140, 141, 142, 143, 144, 145, 146, 147, 148, 149, 150, 151, 152, 153, 154, 155] (fun v13 v14 _ _ _ _ _ _ _ _ _ _ _ _ _ _ _ _ _ _ _ _ _ _ _ _ _ _ _ _ _ _ _ _ _ _ _ _ _ _ _ _ _ _ _ _ _ _ _ _ _ _ _ _ _ _ _ _ _ _ _ _ _ _ _ _ _ _ _ _ _ _ _ _ _ _ _ _ _ _ _ _ _ _ _ _ _ _ _ _ _ _ _ _ _ _ _ _ _ _ _ _ _ wr => GwR l (sn : Int) F V passed K bL bM w v13 v14 wr) (fun v13 v14 _ _ _ _ _ _ _ _ _ _ _ _ _ _ _ _ _ _ _ _ _ _ _ _ _ _ _ _ _ _ _ _ _ _ _ _ _ _ _ _ _ _ _ _ _ _ _ _ _ _ _ _ _ _ _ _ _ _ _ _ _ _ _ _ _ _ _ _ _ _ _ _ _ _ _ _ _ _ _ _ _ _ _ _ _ _ _ _ _ _ _ _ _ _ _ _ _ _ _ _ _ _ => K + 1 - (intOf v14).toNat)
    case atStart => exact HRL.out
    case round =>
      clear HRL
      obtain ⟨k, gA, cA, hk, rfl, hlog, kL, kM, hsl, nM2, hbl⟩ := hrel
      have hk400 : k < 400 := by omega
      have i1 : decide ((k : Int) < 400) = true := by simp; omega
      have i2 : decide (k < 400) = true := by simp; omega
      have i3 : (k : Int) < 400 := by omega
      obtain ⟨⟨mk, log⟩, hmk⟩ : ∃ z, gdS l 1 (sn : Int) 32 2 (gdPass passed) (gdM0 F V) k = z := ⟨_, rfl⟩
      rw [hmk] at hlog hsl
      dsimp only at hlog hsl
      have hll : log.length = k := by
        by_cases h : k < K
        · have := (HK.out.1 k h).2.ll
          rw [hmk] at this
          exact this
        · obtain rfl : k = K := by omega
          have := HK.out.2.2.ll
          rw [hmk] at this
          exact this
      obtain ⟨G, cp, hv9⟩ := own_slice hlog
      subst hv9
      obtain ⟨qk, qc, qo, qv, va, isx, er, pt2, dn, gg, hAI⟩ := ansI_of (eraR l 1 ⟨1, 0, (sn : Int), 32⟩ [] log)
      have HAI := Lib.hid hAI
      have HLL := Lib.hid (And.intro hmk hll)
      have hl400 : log.length ≤ 400 := by omega
      clear hAI hmk hll
      go_wp2_with (refine wpList_load_row rfl 40 (.tmp 8) rfl bL rfl 40 (lyC l) (0, 0) _ kL Try.underlying40 rfl (by kernel_rfl) ?_)
      (with_reducible refine (next_gd l (sn : Int) G cp log _ HL.out.1 HSE.out.1 HSE.out.2 (own_slRes hlog) hl400).mono ?_)
      intro e w2 hpost
      obtain ⟨GO, nO, cO, rfl, hgo, hb⟩ := ansI_post HAI.out hpost
      clear hpost hgo i1 i2 i3
      replace kL := kL.keep hb
      replace kM := kM.keep hb
      replace hsl := hsl.keepb hb
      have hlog2 : OwnRes w2 w.heap.size (.slice G log.length cp) log := own_keepb' (show World.ownsRow wr w.heap.size 67 2 (.slice G log.length cp) log.length (resCells log) from hlog) hb
      replace hbl := below_tr hbl hb
      clear hb hlog
      have n1 := (Bk.made w2 61 accZ).alloc (.cells outZ 63)
      have n2 := Bk.new (w2.alloc (.cells accZ 61)) (g := w2.heap.size + 1) (by simp) 63 outZ
      have n3 : Bk (((w2.alloc (.cells accZ 61)).alloc (.cells outZ 63)).setRow w2.heap.size (accC qk qc qo qv)) (w2.heap.size + 1) 63 outZ := (setRow_other _ _ _ _ (by omega)).trans n2
      have f1 : Bk ((((w2.alloc (.cells accZ 61)).alloc (.cells outZ 63)).setRow w2.heap.size (accC qk qc qo qv)).setRow (w2.heap.size + 1) (outG va isx er pt2 (.slice GO nO cO))) w2.heap.size 61 (accC qk qc qo qv) := (setRow_other _ _ _ _ (by omega)).trans (setRow_heap _ _ accZ (accC qk qc qo qv) 61 (0, 0) n1)
      have f2 : Bk ((((w2.alloc (.cells accZ 61)).alloc (.cells outZ 63)).setRow w2.heap.size (accC qk qc qo qv)).setRow (w2.heap.size + 1) (outG va isx er pt2 (.slice GO nO cO))) (w2.heap.size + 1) 63 (outG va isx er pt2 (.slice GO nO cO)) := setRow_heap _ _ outZ (outG va isx er pt2 (.slice GO nO cO)) 63 (0, 0) n3
      have hbb : Below w2.heap.size w2 ((((w2.alloc (.cells accZ 61)).alloc (.cells outZ 63)).setRow w2.heap.size (accC qk qc qo qv)).setRow (w2.heap.size + 1) (outG va isx er pt2 (.slice GO nO cO))) := (((below_al (below_al (Below.refl _ _) _) _).trans (below_setRow0 (Nat.le_refl _) _)).trans (below_setRow0 (Nat.le_succ _) _))
      have kLx := kL.keep hbb
      have kMx := kM.keep hbb
      have hslx := hsl.keepb hbb
      have hlog2x := (own_keepb' (show World.ownsRow w2 w.heap.size 67 2 (.slice G log.length cp) log.length (resCells log) from hlog2) hbb : OwnRes ((((w2.alloc (.cells accZ 61)).alloc (.cells outZ 63)).setRow w2.heap.size (accC qk qc qo qv)).setRow (w2.heap.size + 1) (outG va isx er pt2 (.slice GO nO cO))) w.heap.size (.slice G log.length cp) log)
      have hblx := below_tr hbl hbb
      have HGB := Lib.hid (And.intro f1 (And.intro f2 (And.intro kLx (And.intro kMx (And.intro hslx (And.intro hlog2x hblx))))))
      clear f1 f2 hbb n2 kLx kMx hslx hlog2x hblx kL kM hsl hlog2 hbl
      go_upto_region 19 with (first
        | (refine wpList_store_rowTo rfl 61 (.tmp 15) (.tmp 76) rfl rfl w2.heap.size (accC qk qc qo qv) rfl rfl 61 accZ n1 (by kernel_rfl) rfl (by simp [Value.oneCell']) ?_)
        | (refine wpList_store_rowTo rfl 63 (.tmp 16) (.tmp 77) rfl rfl (w2.heap.size + 1) (outG va isx er pt2 (.slice GO nO cO)) rfl rfl 63 outZ n3 (by kernel_rfl) rfl (by simp [Value.oneCell']) ?_))
      clear n1 n3
      obtain ⟨f1, f2, kL, kM, hsl, hlog2, hbl⟩ := HGB.out
      clear HGB
      show Code.wp Try.prog _ _ _ ((((w2.alloc (.cells accZ 61)).alloc (.cells outZ 63)).setRow w2.heap.size (accC qk qc qo qv)).setRow (w2.heap.size + 1) (outG va isx er pt2 (.slice GO nO cO)))
      generalize ((((w2.alloc (.cells accZ 61)).alloc (.cells outZ 63)).setRow w2.heap.size (accC qk qc qo qv)).setRow (w2.heap.size + 1) (outG va isx er pt2 (.slice GO nO cO))) = w3 at *
      have hml : mk.length = 49 := by
        have := hsl.1
        simpa [ints] using this
      have HMK := Lib.hid hml
      clear hml
      have hgo : k < K → ∃ hi : GdI 49 2 (11 + sn) 32 V (256 + (min k 20 : Nat)) k mk (ePh l ⟨1, 0, (sn : Int), 32⟩ [] log) log, ∀ x p, ePh l ⟨1, 0, (sn : Int), 32⟩ [] log ≠ .gz x p := fun h => by
        have h1 := HK.out.1 k h
        rw [HLL.out.1] at h1
        exact ⟨h1.2, h1.1⟩
      have hfin : k = K → ∃ p : Nat, eraR l 1 ⟨1, 0, (sn : Int), 32⟩ [] log = .out V true 0 (p : Int) [] ∧ p + 2 = k ∧ 1 ≤ mk.getD (11 + sn) 0 ∧ log.getLast? = some (mk.getD (11 + sn) 0, true) := fun h => by
        obtain ⟨p, hp⟩ := HK.out.2.1
        have h1 := HK.out.2.2
        rw [← h, HLL.out.1] at h1 hp
        have h2 := h1.ph
        rw [hp] at h2
        exact ⟨p, by rw [eraR_eq _ hp]; rfl, h2.2.1, h2.2.2.1, h2.2.2.2⟩
      cases dn with
      | true =>
        have hN : eraR l 1 ⟨1, 0, (sn : Int), 32⟩ [] log = .out va isx er pt2 gg := by
          rcases ansI_dn HAI.out with ⟨_, h⟩ | ⟨h, _⟩
          · exact h
          · cases h
        have hkK : k = K := by
          by_cases h : k < K
          · obtain ⟨hi, hne⟩ := hgo h
            have g := gd_step (l := l) (me := 1) (s := (sn : Int)) (c := 32) hi hne rfl HL.out.2.2.1.2.1 (HL.out.2.2.2.2 sn hs3) (by omega) (by omega) (by omega) (by omega) (by omega) (by omega)
            have g1 := g.1
            rw [← eraR_eq _ rfl, hN] at g1
            cases g1
          · omega
        obtain ⟨p, ho, hp2, hr1, hlast⟩ := hfin hkK
        clear hkK
        rw [hN] at ho
        injection ho with h1 h2 h3 h4 h5
        subst h1 h2 h3 h4 h5
        have HE := Lib.hid (And.intro hp2 (And.intro hr1 hlast))
        clear hgo hfin hN hp2 hr1 hlast
        go_upto_region 20 with fail
        obtain ⟨gB, hgB⟩ : ∃ g, w2.heap.size + 1 = g := ⟨_, rfl⟩
        rw [hgB] at f2 ⊢
        clear hgB f1
        refine wp_region_E (S := fun w' => Below w3.drew.heap.size w3.drew w') (E := fun _ => false) (by kernel_rfl) ?_
        replace kL := kL.drew
        replace kM := kM.drew
        replace f2 := f2.drew
        replace hsl := hsl.keepb (below_drew' (Below.refl _ _))
        replace hlog2 : OwnRes w3.drew w.heap.size (.slice G log.length cp) log := own_keepb' (show World.ownsRow w3 w.heap.size 67 2 (.slice G log.length cp) log.length (resCells log) from hlog2) (below_drew' (Below.refl _ _))
        replace hbl := hbl.drew
        generalize w3.drew = wz at *
        have hz0 : Below wz.heap.size wz wz := Below.refl _ _
        refine wpAnyE_take (i := 0) (oi := _) (v := .agg #[.slice (some ⟨gA, 0, none⟩) 49 cA]) rfl (by kernel_rfl) (by kernel_rfl) (by kernel_rfl) (by kernel_rfl) (fun _ _ _ h => h) (Or.inl ⟨by rfl, ?_⟩) hz0 ?_
        · intro w' hSw
          (try simp only [List.getElem_toArray, List.getElem_cons_zero])
          simp only [execOp, Instr.loadAt, Instr.sureAddr, Sem.run_bind, Sem.run_pure]
          rw [show (Act.eval _ (Operand.tmp 12)) = Value.pointer (some ⟨bM, 0, none⟩) from rfl]
          simp only [Sem.run_pure, Result.andThen_ok, run_loadVar_row w' bM 33 33 #[.slice (some ⟨gA, 0, none⟩) 49 cA] (0, 0) _ (kM.keep hSw) Try.underlying33 rfl (by kernel_rfl)]
        (try simp only [List.getElem_toArray, List.getElem_cons_zero, Act.put, List.setIfInBounds_toArray, List.set_cons_zero, List.set_cons_succ])
        refine wpAnyE_take (i := 1) (oi := _) (v := .agg (lyC l)) rfl (by kernel_rfl) (by kernel_rfl) (by kernel_rfl) (by kernel_rfl) (fun _ _ _ h => h) (Or.inl ⟨by rfl, ?_⟩) hz0 ?_
        · intro w' hSw
          (try simp only [List.getElem_toArray, List.getElem_cons_succ, List.getElem_cons_zero])
          simp only [execOp, Instr.loadAt, Instr.sureAddr, Sem.run_bind, Sem.run_pure]
          rw [show (Act.eval _ (Operand.tmp 8)) = Value.pointer (some ⟨bL, 0, none⟩) from rfl]
          simp only [Sem.run_pure, Result.andThen_ok, run_loadVar_row w' bL 40 40 (lyC l) (0, 0) _ (kL.keep hSw) Try.underlying40 rfl (by kernel_rfl)]
        (try simp only [List.getElem_toArray, List.getElem_cons_succ, List.getElem_cons_zero, Act.put, List.setIfInBounds_toArray, List.set_cons_zero, List.set_cons_succ])
        refine wpAnyE_take (i := 2) (oi := _) (v := .int .i64 (sn : Nat)) rfl (by kernel_rfl) (by kernel_rfl) (by kernel_rfl) (by kernel_rfl) (fun _ _ _ h => h) (Or.inl ⟨by rfl, ?_⟩) hz0 ?_
        · intro w' hSw
          (try simp only [List.getElem_toArray, List.getElem_cons_succ, List.getElem_cons_zero])
          go_simp
        (try simp only [List.getElem_toArray, List.getElem_cons_succ, List.getElem_cons_zero, Act.put, List.setIfInBounds_toArray, List.set_cons_zero, List.set_cons_succ])
        refine wpAnyE_one (i := 3) (o := _) (by kernel_rfl) rfl (fun K hK => ?_)
        (try simp only [List.getElem_toArray, List.getElem_cons_succ, List.getElem_cons_zero])
        go_simp
        (with_reducible refine (rresv_any l 1 sn _ HL.out.1).mono ?_)
        rintro e wy1 ⟨rfl, hy⟩
        have hz1 := below_tr hz0 hy
        clear hy
        rw [HL.out.2.2.2.2 sn hs3]
        refine hK.out _ _ (fun _ => hz1) ?_
        clear hK K
        (try simp only [List.getElem_toArray, List.getElem_cons_succ, List.getElem_cons_zero, Act.put, List.setIfInBounds_toArray, List.set_cons_zero, List.set_cons_succ])
        refine wpAnyE_one (i := 4) (o := _) (by kernel_rfl) rfl (fun K hK => ?_)
        (try simp only [List.getElem_toArray, List.getElem_cons_succ, List.getElem_cons_zero])
        go_simp
        (with_reducible refine (cell_n (some ⟨gA, 0, none⟩) cA 49 mk (11 + (sn : Int)) _ HMK.out (sl_slInt (hsl.keepb hz1))).mono ?_)
        rintro e wy2 ⟨rfl, hy⟩
        have hz2 := below_tr hz1 hy
        clear hy
        rw [show (11 : Int) + (sn : Int) = ((11 + sn : Nat) : Int) by omega, cellN_in (by rw [HMK.out]; omega)]
        refine hK.out _ _ (fun _ => hz2) ?_
        clear hK K
        (try simp only [List.getElem_toArray, List.getElem_cons_succ, List.getElem_cons_zero, Act.put, List.setIfInBounds_toArray, List.set_cons_zero, List.set_cons_succ])
        refine wpAnyE_take (i := 5) (oi := _) (v := .int .i64 (mk.getD (11 + sn) 0)) rfl (by kernel_rfl) (by kernel_rfl) (by kernel_rfl) (by kernel_rfl) (fun _ _ _ h => h) (Or.inl ⟨by rfl, ?_⟩) hz2 ?_
        · intro w' hSw
          (try simp only [List.getElem_toArray, List.getElem_cons_succ, List.getElem_cons_zero])
          go_simp
        (try simp only [List.getElem_toArray, List.getElem_cons_succ, List.getElem_cons_zero, Act.put, List.setIfInBounds_toArray, List.set_cons_zero, List.set_cons_succ])
        refine wpAnyE_done (by kernel_rfl) ?_ _
        replace kL := kL.keep hz2
        replace f2 := f2.keep hz2
        replace hlog2 : OwnRes wy2 w.heap.size (.slice G log.length cp) log := own_keepb' (show World.ownsRow wz w.heap.size 67 2 (.slice G log.length cp) log.length (resCells log) from hlog2) hz2
        replace hbl := below_tr hbl hz2
        clear hz0 hz1 hz2 kM hsl
        go_upto_region 21 with fail
        obtain ⟨hp2, hr1, hlast⟩ := HE.out
        have hlen := HLL.out.2
        obtain ⟨b, o, rfl, hbz, hcc⟩ := own_slRes hlog2 (by omega)
        obtain ⟨hc1, -⟩ := hcc (k - 1) (mk.getD (11 + sn) 0, true) (by rw [List.getLast?_eq_getElem?, hlen] at hlast; exact hlast)
        dsimp only at hc1
        obtain ⟨rv, hrv⟩ : ∃ z, mk.getD (11 + sn) 0 = z := ⟨_, rfl⟩
        rw [hrv] at hc1 hr1 ⊢
        rw [hlen]
        have o0 := f2.cell 0
        have o1 := f2.cell 1
        have o3 := f2.cell 3
        simp at o0 o1 o3
        have lO := f2.lt
        have HB := Lib.hid hbl
        have i1 : IntKind.i64.wrap ((k : Int) - 2) = (p : Int) := by rw [IntWalk.i64_in _ (by omega)]; omega
        have i2 : IntKind.i64.wrap ((k : Int) - 1) = ((k - 1 : Nat) : Int) := by rw [IntWalk.i64_in _ (by omega)]; omega
        have i3 : decide ((1 : Int) ≤ rv) = true := by simpa using hr1
        have i4 : k - 1 < k := by omega
        have i5 : ((k - 1 : Nat) : Int) < (k : Int) := by omega
        have i6 : IntKind.i64.wrap va = va := by rw [IntWalk.i64_in _ (by omega)]
        clear hbl hcc hlast hrv hlog2 kL f2
        go_wp2_with fail
        go_ret
        exact ⟨by simp, HB.out⟩
      | false =>
        have hN : eraR l 1 ⟨1, 0, (sn : Int), 32⟩ [] log = .ask qk qc qo qv := by
          rcases ansI_dn HAI.out with ⟨h, _⟩ | ⟨_, h, _⟩
          · cases h
          · exact h
        have hkK : k < K := by
          by_cases h : k < K
          · exact h
          · obtain ⟨p, ho, _⟩ := hfin (by omega)
            rw [hN] at ho
            cases ho
        obtain ⟨hi, hne⟩ := hgo hkK
        have HG := Lib.hid (And.intro hi (And.intro hne hN))
        clear hgo hfin hi hne hN
        go_upto_region 22 with fail
        obtain ⟨gX, hgX⟩ : ∃ g, w2.heap.size = g := ⟨_, rfl⟩
        rw [hgX] at f1 ⊢
        have kX := f1
        clear hgX f1 f2
        have hnxt := fun m1 hm1 => gd_next HLL.out.1 HG.out.1 HG.out.2.1 HL.out.2.2.1.2.1 (HL.out.2.2.2.2 sn hs3) hs3 HG.out.2.2 m1 hm1
        have HNX := Lib.hid hnxt
        clear hnxt
        have HGA := Lib.hid nM2
        clear nM2
        by_cases hkn : k < n
        · obtain ⟨t, ht⟩ : ∃ t, passed[k]? = some t := ⟨_, List.getElem?_eq_getElem (by rw [HA.out.2]; exact hkn)⟩
          obtain ⟨b, o, rfl, hbb, hcc⟩ := HA.out.1 (by rw [HA.out.2]; omega)
          obtain ⟨ct, ht256⟩ := hcc k t ht
          replace ct := (hbl.cell (p := ⟨b, _, none⟩) hbb).trans ct
          have hgp : gdPass passed k = decide (t % 3 = 0) := by
            rw [gdPass, List.getD_eq_getElem?_getD, ht, HA.out.2]
            simp [hkn]
          have i1 : decide ((k : Int) < (n : Int)) = true := by simp; omega
          have i2 : decide (k < n) = true := by simp; omega
          have i3 : (k : Int) < (n : Int) := by omega
          have i4 : (k : Int) + 1 ≤ 1000000 := by omega
          obtain ⟨q, hq⟩ : ∃ q : Nat, (t : Int) % 3 = q := ⟨t % 3, by omega⟩
          have u1 : IntKind.u8.wrap ((t : Int) % 3) = q := by rw [hq]; exact IntWalk.u8_in _ (by omega)
          have u2 : Int.tmod (t : Int) 3 = q := by rw [Int.tmod_eq_emod_of_nonneg (by omega), hq]
          have u3 : IntKind.u8.wrap (q : Int) = q := IntWalk.u8_in _ (by omega)
          by_cases h3 : q = 0
          · have HGP := Lib.hid (show gdPass passed k = true by rw [hgp]; simp; omega)
            clear hgp
            subst h3
            have v1 : IntKind.u8.wrap 0 = 0 := by decide
            simp only [Int.natCast_zero] at u1 u2 u3
            have hev : 0 ≤ mk.getD 2 0 ∧ mk.getD 2 0 ≤ 1000 := by
              have h1 := HG.out.1.e0
              have h2 := HG.out.1.e1
              omega
            have HEV := Lib.hid hev
            clear hev
            have q3 := kL.cell 11
            have lL := kL.lt
            simp at q3
            rw [HL.out.2.2.1.2.1] at q3
            go_wp2_with (refine wpList_load_row rfl 33 (.tmp 12) rfl bM rfl 33 #[.slice (some ⟨gA, 0, none⟩) 49 cA] (0, 0) _ kM Try.underlying33 rfl (by kernel_rfl) ?_)
            (with_reducible refine (do_era (some ⟨gA, 0, none⟩) cA mk _ HMK.out hsl HEV.out).mono ?_)
            rintro e w4 ⟨g5, c5, h5, b5, rfl, ho5, hb⟩
            replace kL := kL.keep hb
            replace kM := kM.keep hb
            replace kX := kX.keep hb
            replace hlog2 : OwnRes w4 w.heap.size (.slice G log.length cp) log := own_keepb' (show World.ownsRow w3 w.heap.size 67 2 (.slice G log.length cp) log.length (resCells log) from hlog2) hb
            have hsz4 : w.heap.size ≤ w3.heap.size := hbl.size
            replace hbl := below_tr hbl hb
            have hm5 : OwnInts w4 w.heap.size (.slice (some ⟨g5, 0, none⟩) 49 c5) (mk.set 2 (mk.getD 2 0 + 1)) := own_lower ho5 hsz4
            have HM1 := Lib.hid (HNX.out (mk.set 2 (mk.getD 2 0 + 1)) (by rw [HGP.out]; rfl))
            obtain ⟨m1, hm1⟩ : ∃ z, mk.set 2 (mk.getD 2 0 + 1) = z := ⟨_, rfl⟩
            rw [hm1] at hm5 HM1
            clear hb hsl ho5 hm1 HEV q3 lL i1 i2 i3 u1 u2 u3 v1 ct hcc hq
            have n1 := (Bk.made w4 33 #[.slice none 0 0]).alloc (.cells #[.int .i64 0, .bool false] 67)
            have n2 := Bk.new (w4.alloc (.cells #[.slice none 0 0] 33)) (g := w4.heap.size + 1) (by simp) 67 #[.int .i64 0, .bool false]
            have n3 : Bk (((w4.alloc (.cells #[.slice none 0 0] 33)).alloc (.cells #[.int .i64 0, .bool false] 67)).setRow w4.heap.size #[.slice (some ⟨g5, 0, none⟩) 49 c5]) (w4.heap.size + 1) 67 #[.int .i64 0, .bool false] := (setRow_other _ _ _ _ (by omega)).trans n2
            have f1 : Bk ((((w4.alloc (.cells #[.slice none 0 0] 33)).alloc (.cells #[.int .i64 0, .bool false] 67)).setRow w4.heap.size #[.slice (some ⟨g5, 0, none⟩) 49 c5]).setRow (w4.heap.size + 1) #[.int .i64 h5, .bool b5]) w4.heap.size 33 #[.slice (some ⟨g5, 0, none⟩) 49 c5] := (setRow_other _ _ _ _ (by omega)).trans (setRow_heap _ _ #[.slice none 0 0] #[.slice (some ⟨g5, 0, none⟩) 49 c5] 33 (0, 0) n1)
            have f2 : Bk ((((w4.alloc (.cells #[.slice none 0 0] 33)).alloc (.cells #[.int .i64 0, .bool false] 67)).setRow w4.heap.size #[.slice (some ⟨g5, 0, none⟩) 49 c5]).setRow (w4.heap.size + 1) #[.int .i64 h5, .bool b5]) (w4.heap.size + 1) 67 #[.int .i64 h5, .bool b5] := setRow_heap _ _ #[.int .i64 0, .bool false] #[.int .i64 h5, .bool b5] 67 (0, 0) n3
            have hbb : Below w4.heap.size w4 ((((w4.alloc (.cells #[.slice none 0 0] 33)).alloc (.cells #[.int .i64 0, .bool false] 67)).setRow w4.heap.size #[.slice (some ⟨g5, 0, none⟩) 49 c5]).setRow (w4.heap.size + 1) #[.int .i64 h5, .bool b5]) := (((below_al (below_al (Below.refl _ _) _) _).trans (below_setRow0 (Nat.le_refl _) _)).trans (below_setRow0 (Nat.le_succ _) _))
            have kLx := kL.keep hbb
            have kMx := kM.keep hbb
            have kXx := kX.keep hbb
            have hm5x := (own_keepb' (show World.ownsRow w4 w.heap.size 3 1 (.slice (some ⟨g5, 0, none⟩) 49 c5) m1.length (ints m1) from hm5) hbb : OwnInts ((((w4.alloc (.cells #[.slice none 0 0] 33)).alloc (.cells #[.int .i64 0, .bool false] 67)).setRow w4.heap.size #[.slice (some ⟨g5, 0, none⟩) 49 c5]).setRow (w4.heap.size + 1) #[.int .i64 h5, .bool b5]) w.heap.size (.slice (some ⟨g5, 0, none⟩) 49 c5) m1)
            have hlog2x := (own_keepb' (show World.ownsRow w4 w.heap.size 67 2 (.slice G log.length cp) log.length (resCells log) from hlog2) hbb : OwnRes ((((w4.alloc (.cells #[.slice none 0 0] 33)).alloc (.cells #[.int .i64 0, .bool false] 67)).setRow w4.heap.size #[.slice (some ⟨g5, 0, none⟩) 49 c5]).setRow (w4.heap.size + 1) #[.int .i64 h5, .bool b5]) w.heap.size (.slice G log.length cp) log)
            have hszx := (And.intro (bk_lt2 kM) hbl.size)
            have hblx := below_tr hbl hbb
            have H4 := Lib.hid (And.intro f1 (And.intro f2 (And.intro kLx (And.intro kMx (And.intro kXx (And.intro hm5x (And.intro hlog2x (And.intro hszx hblx))))))))
            clear f1 f2 hbb n2 kLx kMx kXx hm5x hlog2x hszx hblx kL kM kX hm5 hlog2 hbl
            go_upto_region 24 with (first
              | (refine wpList_store_rowTo rfl 33 (.tmp 19) (.tmp 138) rfl rfl w4.heap.size #[.slice (some ⟨g5, 0, none⟩) 49 c5] rfl rfl 33 #[.slice none 0 0] n1 (by kernel_rfl) rfl (by simp [Value.oneCell']) ?_)
              | (refine wpList_store_rowTo rfl 67 (.tmp 20) (.tmp 139) rfl rfl (w4.heap.size + 1) #[.int .i64 h5, .bool b5] rfl rfl 67 #[.int .i64 0, .bool false] n3 (by kernel_rfl) rfl (by simp [Value.oneCell']) ?_))
            clear n1 n3
            obtain ⟨f1, f2, kL, kM, kX, hm5, hlog2, hsz, hbl⟩ := H4.out
            clear H4
            show Code.wp Try.prog _ _ _ ((((w4.alloc (.cells #[.slice none 0 0] 33)).alloc (.cells #[.int .i64 0, .bool false] 67)).setRow w4.heap.size #[.slice (some ⟨g5, 0, none⟩) 49 c5]).setRow (w4.heap.size + 1) #[.int .i64 h5, .bool b5])
            generalize ((((w4.alloc (.cells #[.slice none 0 0] 33)).alloc (.cells #[.int .i64 0, .bool false] 67)).setRow w4.heap.size #[.slice (some ⟨g5, 0, none⟩) 49 c5]).setRow (w4.heap.size + 1) #[.int .i64 h5, .bool b5]) = w5 at *
            obtain ⟨gA2, hgA⟩ : ∃ g, w4.heap.size = g := ⟨_, rfl⟩
            obtain ⟨gB2, hgB⟩ : ∃ g, w4.heap.size + 1 = g := ⟨_, rfl⟩
            have zAB : w.heap.size ≤ gA2 ∧ gA2 < gB2 ∧ bM ≠ gA2 := by omega
            rw [hgA] at f1
            rw [hgB, hgA]
            clear hgA hgB hsz f2
            have qf := kM.free 0
            have qc0 := kM.cell 0
            have ql := kM.lt
            have q1 := f1.cell 0
            have ql1 := f1.lt
            simp at qc0 q1
            have hkt := keptT_set kM 0 (.slice (some ⟨g5, 0, none⟩) 49 c5)
            have hbs : Below w.heap.size w5 (w5.setCell ⟨bM, 0, none⟩ (.slice (some ⟨g5, 0, none⟩) 49 c5)) := (Below.refl _ _).setCell (p := ⟨bM, 0, none⟩) HGM.out _
            have x1 := kL.keptT hkt (by decide)
            have x3 : Bk (w5.setCell ⟨bM, 0, none⟩ (.slice (some ⟨g5, 0, none⟩) 49 c5)) bM 33 #[.slice (some ⟨g5, 0, none⟩) 49 c5] := kM.stored 0 (.slice (some ⟨g5, 0, none⟩) 49 c5)
            have x6 : OwnInts (w5.setCell ⟨bM, 0, none⟩ (.slice (some ⟨g5, 0, none⟩) 49 c5)) w.heap.size (.slice (some ⟨g5, 0, none⟩) 49 c5) m1 := own_keptT (show World.ownsRow w5 w.heap.size 3 1 (.slice (some ⟨g5, 0, none⟩) 49 c5) m1.length (ints m1) from hm5) hkt (by decide)
            have x7 : OwnRes (w5.setCell ⟨bM, 0, none⟩ (.slice (some ⟨g5, 0, none⟩) 49 c5)) w.heap.size (.slice G log.length cp) log := own_keptT (show World.ownsRow w5 w.heap.size 67 2 (.slice G log.length cp) log.length (resCells log) from hlog2) hkt (by decide)
            have x8 := kX.keptT hkt (by decide)
            have x9 := hbl.trans hbs
            have HX := Lib.hid (And.intro x1 (And.intro x3 (And.intro x6 (And.intro x7 (And.intro x8 x9)))))
            clear x1 x3 x6 x7 x8 x9 hkt hbs kL hm5 hlog2 hbl kX
            go_upto_region 25 with fail
            clear qf qc0 ql q1 ql1 f1 kM
            show Code.wp Try.prog _ _ _ (w5.setCell ⟨bM, 0, none⟩ (.slice (some ⟨g5, 0, none⟩) 49 c5))
            obtain ⟨kL, kM, hm5, hlog2, kX, hbl⟩ := HX.out
            clear HX
            generalize w5.setCell ⟨bM, 0, none⟩ (.slice (some ⟨g5, 0, none⟩) 49 c5) = w6 at *
            have hsl : Sl w6 w6.heap.size (some ⟨g5, 0, none⟩) 49 (ints m1) := own_sl hm5 HM1.out.2.2.2
            clear hm5 hsz4 zAB
            go_wp2_with (first
              | (refine wpList_load_row rfl 33 (.tmp 12) rfl bM rfl 33 #[.slice (some ⟨g5, 0, none⟩) 49 c5] (0, 0) _ kM Try.underlying33 rfl (by kernel_rfl) ?_)
              | (refine wpList_load_row rfl 61 (.tmp 15) rfl gX rfl 61 (accC qk qc qo qv) (0, 0) _ kX Try.underlying61 rfl (by kernel_rfl) ?_))
            (with_reducible refine (do_okn (some ⟨g5, 0, none⟩) c5 49 m1 ⟨qk, qc, qo, qv⟩ _ HM1.out.2.2.2 hsl (by omega) HM1.out.2.1).mono ?_)
            rintro e w7 ⟨g6, c6, rfl, ho6, hb⟩
            rw [HM1.out.2.2.1]
            replace kL := kL.keep hb
            replace kM := kM.keep hb
            replace hlog2 : OwnRes w7 w.heap.size (.slice G log.length cp) log := own_keepb' (show World.ownsRow w6 w.heap.size 67 2 (.slice G log.length cp) log.length (resCells log) from hlog2) hb
            have hsz4 : w.heap.size ≤ w6.heap.size := hbl.size
            replace hbl := below_tr hbl hb
            have hm6 : OwnInts w7 w.heap.size (.slice (some ⟨g6, 0, none⟩) 49 c6) ((⟨qk, qc, qo, qv⟩ : Acc).make m1) := own_lower ho6 hsz4
            clear hb kX hsl ho6 hsz4
            obtain ⟨had, hhad⟩ : ∃ z, (⟨qk, qc, qo, qv⟩ : Acc).had m1 = z := ⟨_, rfl⟩
            obtain ⟨mm, hmm⟩ : ∃ z, (⟨qk, qc, qo, qv⟩ : Acc).make m1 = z := ⟨_, rfl⟩
            have hnx := HM1.out.1
            have hmml : mm.length = 49 := by rw [← hmm, Acc.make_length]; exact HM1.out.2.2.2
            rw [hmm, hhad] at hnx
            rw [hhad]
            rw [hmm] at hm6
            have HNX2 := Lib.hid (And.intro hnx hmml)
            clear hnx hmml HNX hhad hmm
            have n1 := (Bk.made w7 33 #[.slice none 0 0]).alloc (.cells #[.int .i64 0, .bool false] 67)
            have n2 := Bk.new (w7.alloc (.cells #[.slice none 0 0] 33)) (g := w7.heap.size + 1) (by simp) 67 #[.int .i64 0, .bool false]
            have n3 : Bk (((w7.alloc (.cells #[.slice none 0 0] 33)).alloc (.cells #[.int .i64 0, .bool false] 67)).setRow w7.heap.size #[.slice (some ⟨g6, 0, none⟩) 49 c6]) (w7.heap.size + 1) 67 #[.int .i64 0, .bool false] := (setRow_other _ _ _ _ (by omega)).trans n2
            have f1 : Bk ((((w7.alloc (.cells #[.slice none 0 0] 33)).alloc (.cells #[.int .i64 0, .bool false] 67)).setRow w7.heap.size #[.slice (some ⟨g6, 0, none⟩) 49 c6]).setRow (w7.heap.size + 1) #[.int .i64 had, .bool true]) w7.heap.size 33 #[.slice (some ⟨g6, 0, none⟩) 49 c6] := (setRow_other _ _ _ _ (by omega)).trans (setRow_heap _ _ #[.slice none 0 0] #[.slice (some ⟨g6, 0, none⟩) 49 c6] 33 (0, 0) n1)
            have f2 : Bk ((((w7.alloc (.cells #[.slice none 0 0] 33)).alloc (.cells #[.int .i64 0, .bool false] 67)).setRow w7.heap.size #[.slice (some ⟨g6, 0, none⟩) 49 c6]).setRow (w7.heap.size + 1) #[.int .i64 had, .bool true]) (w7.heap.size + 1) 67 #[.int .i64 had, .bool true] := setRow_heap _ _ #[.int .i64 0, .bool false] #[.int .i64 had, .bool true] 67 (0, 0) n3
            have hbb : Below w7.heap.size w7 ((((w7.alloc (.cells #[.slice none 0 0] 33)).alloc (.cells #[.int .i64 0, .bool false] 67)).setRow w7.heap.size #[.slice (some ⟨g6, 0, none⟩) 49 c6]).setRow (w7.heap.size + 1) #[.int .i64 had, .bool true]) := (((below_al (below_al (Below.refl _ _) _) _).trans (below_setRow0 (Nat.le_refl _) _)).trans (below_setRow0 (Nat.le_succ _) _))
            have kLx := kL.keep hbb
            have kMx := kM.keep hbb
            have hm6x := (own_keepb' (show World.ownsRow w7 w.heap.size 3 1 (.slice (some ⟨g6, 0, none⟩) 49 c6) mm.length (ints mm) from hm6) hbb : OwnInts ((((w7.alloc (.cells #[.slice none 0 0] 33)).alloc (.cells #[.int .i64 0, .bool false] 67)).setRow w7.heap.size #[.slice (some ⟨g6, 0, none⟩) 49 c6]).setRow (w7.heap.size + 1) #[.int .i64 had, .bool true]) w.heap.size (.slice (some ⟨g6, 0, none⟩) 49 c6) mm)
            have hlog2x := (own_keepb' (show World.ownsRow w7 w.heap.size 67 2 (.slice G log.length cp) log.length (resCells log) from hlog2) hbb : OwnRes ((((w7.alloc (.cells #[.slice none 0 0] 33)).alloc (.cells #[.int .i64 0, .bool false] 67)).setRow w7.heap.size #[.slice (some ⟨g6, 0, none⟩) 49 c6]).setRow (w7.heap.size + 1) #[.int .i64 had, .bool true]) w.heap.size (.slice G log.length cp) log)
            have hszx := (And.intro (bk_lt2 kM) hbl.size)
            have hblx := below_tr hbl hbb
            have H5 := Lib.hid (And.intro f1 (And.intro f2 (And.intro kLx (And.intro kMx (And.intro hm6x (And.intro hlog2x (And.intro hszx hblx)))))))
            clear f1 f2 hbb n2 kLx kMx hm6x hlog2x hszx hblx kL kM hm6 hlog2 hbl
            go_upto_region 26 with (first
              | (refine wpList_store_rowTo rfl 33 (.tmp 22) (.tmp 146) rfl rfl w7.heap.size #[.slice (some ⟨g6, 0, none⟩) 49 c6] rfl rfl 33 #[.slice none 0 0] n1 (by kernel_rfl) rfl (by simp [Value.oneCell']) ?_)
              | (refine wpList_store_rowTo rfl 67 (.tmp 23) (.tmp 147) rfl rfl (w7.heap.size + 1) #[.int .i64 had, .bool true] rfl rfl 67 #[.int .i64 0, .bool false] n3 (by kernel_rfl) rfl (by simp [Value.oneCell']) ?_))
            clear n1 n3
            obtain ⟨f1, f2, kL, kM, hm6, hlog2, hsz, hbl⟩ := H5.out
            clear H5
            show Code.wp Try.prog _ _ _ ((((w7.alloc (.cells #[.slice none 0 0] 33)).alloc (.cells #[.int .i64 0, .bool false] 67)).setRow w7.heap.size #[.slice (some ⟨g6, 0, none⟩) 49 c6]).setRow (w7.heap.size + 1) #[.int .i64 had, .bool true])
            generalize ((((w7.alloc (.cells #[.slice none 0 0] 33)).alloc (.cells #[.int .i64 0, .bool false] 67)).setRow w7.heap.size #[.slice (some ⟨g6, 0, none⟩) 49 c6]).setRow (w7.heap.size + 1) #[.int .i64 had, .bool true]) = w8 at *
            obtain ⟨gA2, hgA⟩ : ∃ g, w7.heap.size = g := ⟨_, rfl⟩
            obtain ⟨gB2, hgB⟩ : ∃ g, w7.heap.size + 1 = g := ⟨_, rfl⟩
            have zAB : w.heap.size ≤ gA2 ∧ gA2 < gB2 ∧ bM ≠ gA2 := by omega
            rw [hgA] at f1
            rw [hgB] at f2
            rw [hgB, hgA]
            clear hgA hgB hsz
            have qf := kM.free 0
            have qc0 := kM.cell 0
            have ql := kM.lt
            have q1 := f1.cell 0
            have ql1 := f1.lt
            simp at qc0 q1
            have hkt := keptT_set kM 0 (.slice (some ⟨g6, 0, none⟩) 49 c6)
            have hbs : Below w.heap.size w8 (w8.setCell ⟨bM, 0, none⟩ (.slice (some ⟨g6, 0, none⟩) 49 c6)) := (Below.refl _ _).setCell (p := ⟨bM, 0, none⟩) HGM.out _
            have x1 := kL.keptT hkt (by decide)
            have x3 : Bk (w8.setCell ⟨bM, 0, none⟩ (.slice (some ⟨g6, 0, none⟩) 49 c6)) bM 33 #[.slice (some ⟨g6, 0, none⟩) 49 c6] := kM.stored 0 (.slice (some ⟨g6, 0, none⟩) 49 c6)
            have x6 : OwnInts (w8.setCell ⟨bM, 0, none⟩ (.slice (some ⟨g6, 0, none⟩) 49 c6)) w.heap.size (.slice (some ⟨g6, 0, none⟩) 49 c6) mm := own_keptT (show World.ownsRow w8 w.heap.size 3 1 (.slice (some ⟨g6, 0, none⟩) 49 c6) mm.length (ints mm) from hm6) hkt (by decide)
            have x7 : OwnRes (w8.setCell ⟨bM, 0, none⟩ (.slice (some ⟨g6, 0, none⟩) 49 c6)) w.heap.size (.slice G log.length cp) log := own_keptT (show World.ownsRow w8 w.heap.size 67 2 (.slice G log.length cp) log.length (resCells log) from hlog2) hkt (by decide)
            have x8 := f2.keptT hkt (by decide)
            have x9 := hbl.trans hbs
            have HX := Lib.hid (And.intro x1 (And.intro x3 (And.intro x6 (And.intro x7 (And.intro x8 x9)))))
            clear x1 x3 x6 x7 x8 x9 hkt hbs kL hm6 hlog2 hbl f2
            go_upto_region 29 with fail
            clear qf qc0 ql q1 ql1 f1 kM
            show Code.wp Try.prog _ _ _ (w8.setCell ⟨bM, 0, none⟩ (.slice (some ⟨g6, 0, none⟩) 49 c6))
            obtain ⟨kL, kM, hm6, hlog2, f2, hbl⟩ := HX.out
            clear HX
            generalize w8.setCell ⟨bM, 0, none⟩ (.slice (some ⟨g6, 0, none⟩) 49 c6) = w9 at *
            -- the log
            obtain ⟨i0, hi0, hz0, hz1, hz2⟩ := info_parts res_info
            have s0 := f2.cell 0
            have s1 := f2.cell 1
            have sl := f2.lt
            simp at s0 s1
            have kr := Bk.made w9 67 #[.int .i64 had, .bool true]
            have hbr := below_al (Below.refl w9.heap.size w9) (.cells #[.int .i64 had, .bool true] 67)
            have hlog3 := own_keepb' (show World.ownsRow w9 w.heap.size 67 2 (.slice G log.length cp) log.length (resCells log) from hlog2) hbr
            replace kL := kL.keep hbr
            replace kM := kM.keep hbr
            have hm7 := own_keepb' (show World.ownsRow w9 w.heap.size 3 1 (.slice (some ⟨g6, 0, none⟩) 49 c6) mm.length (ints mm) from hm6) hbr
            have hsz6 : w.heap.size ≤ (w9.alloc (.cells #[.int .i64 had, .bool true] 67)).heap.size := Nat.le_trans hbl.size hbr.size
            have hbl7 := below_tr hbl hbr
            have HK7 := Lib.hid (And.intro kL (And.intro kM (And.intro hm7 hbl7)))
            have hkk : (k : Int) + 1 ≤ 1000000 := by omega
            clear kL kM hm6 hm7 hbl hbl7 hlog2 hbr
            go_wp2_with (at_builtin; go_must (refine wpList_append_own_at _ rfl (.tmp 152) (.tmp 154) _ rfl w.heap.size 67 i0 _ 2 16 Try.underlying47 hi0 hz0 hz1 hz2 rfl (by omega) (.slice G log.length cp) log.length (resCells log) rfl hlog3 ⟨w9.heap.size, 0, none⟩ 1 1 [.int .i64 had, .bool true] rfl rfl (fun j u hu => by rw [Go.WideShapes.add_plain, Nat.zero_add, kr.cell j]; simpa using hu) (by simp [Value.oneCell']) (by simp only [maxLen]; omega) (by omega) (by simp; omega) ?_; intro v9 w10 hrow7 hgrow7 _ _))
            have hgk := keptT_grown hlog3 hgrow7
            have hbg := below_grow (Below.refl w.heap.size _) hlog3 hgrow7 hsz6 (Nat.le_refl _)
            obtain ⟨kL, kM, hm7, hbl7⟩ := HK7.out
            replace kL := kL.keptT hgk (by decide)
            replace kM := kM.keptT hgk (by decide)
            have hm8 : OwnInts w10 w.heap.size (.slice (some ⟨g6, 0, none⟩) 49 c6) mm := own_keptT hm7 hgk (by decide)
            obtain ⟨gR, cur, ⟨hgR, kR⟩, -, -⟩ := own_cells' hm8 HNX2.out.2 (by omega)
            obtain rfl : g6 = gR := by injection hgR with h; injection h
            have hneR : g6 ≠ bM := bk_neT kR kM (by decide)
            have hrl : GwR l (sn : Int) F V passed K bL bM w v9 (.int .i64 ((k + 1 : Nat) : Int)) w10 := ⟨k + 1, g6, c6, hkK, rfl, by
              rw [HNX2.out.1]
              unfold OwnRes
              rw [resCells_snoc, List.length_append]
              exact hrow7, kL, kM, by
              rw [HNX2.out.1]
              exact own_sl hm8 HNX2.out.2, hneR, hbl7.trans hbg⟩
            have HRL := Lib.hid hrl
            clear hrl kL kM hm7 hm8 kR hbl7 HK7 hgk hbg hrow7 hgrow7 hlog3 kr s0 s1 sl f2 hneR hgR
            go_wp2_with fail
            go_roundw
            case rel => exact HRL.out
            case measure => simp [intOf]; omega
          · have HM1 := Lib.hid (HNX.out mk (by rw [hgp, if_neg (by simp; omega)]))
            have v1 : decide ((q : Int) = 0) = false := by simp; omega
            have v2 : decide (q = 0) = false := by simp; omega
            have v3 : ((q : Int) == 0) = false := by simp; omega
            clear hgp
            go_wp2_with (first
              | (refine wpList_load_row rfl 33 (.tmp 12) rfl bM rfl 33 #[.slice (some ⟨gA, 0, none⟩) 49 cA] (0, 0) _ kM Try.underlying33 rfl (by kernel_rfl) ?_)
              | (refine wpList_load_row rfl 61 (.tmp 15) rfl gX rfl 61 (accC qk qc qo qv) (0, 0) _ kX Try.underlying61 rfl (by kernel_rfl) ?_))
            (with_reducible refine (do_okn (some ⟨gA, 0, none⟩) cA 49 mk ⟨qk, qc, qo, qv⟩ _ HM1.out.2.2.2 hsl (by omega) HM1.out.2.1).mono ?_)
            rintro e w7 ⟨g6, c6, rfl, ho6, hb⟩
            rw [HM1.out.2.2.1]
            replace kL := kL.keep hb
            replace kM := kM.keep hb
            replace hlog2 : OwnRes w7 w.heap.size (.slice G log.length cp) log := own_keepb' (show World.ownsRow w3 w.heap.size 67 2 (.slice G log.length cp) log.length (resCells log) from hlog2) hb
            have hsz4 : w.heap.size ≤ w3.heap.size := hbl.size
            replace hbl := below_tr hbl hb
            have hm6 : OwnInts w7 w.heap.size (.slice (some ⟨g6, 0, none⟩) 49 c6) ((⟨qk, qc, qo, qv⟩ : Acc).make mk) := own_lower ho6 hsz4
            clear hb kX hsl ho6 hsz4
            obtain ⟨had, hhad⟩ : ∃ z, (⟨qk, qc, qo, qv⟩ : Acc).had mk = z := ⟨_, rfl⟩
            obtain ⟨mm, hmm⟩ : ∃ z, (⟨qk, qc, qo, qv⟩ : Acc).make mk = z := ⟨_, rfl⟩
            have hnx := HM1.out.1
            have hmml : mm.length = 49 := by rw [← hmm, Acc.make_length]; exact HM1.out.2.2.2
            rw [hmm, hhad] at hnx
            rw [hhad]
            rw [hmm] at hm6
            have HNX2 := Lib.hid (And.intro hnx hmml)
            clear hnx hmml HNX hhad hmm
            have n1 := (Bk.made w7 33 #[.slice none 0 0]).alloc (.cells #[.int .i64 0, .bool false] 67)
            have n2 := Bk.new (w7.alloc (.cells #[.slice none 0 0] 33)) (g := w7.heap.size + 1) (by simp) 67 #[.int .i64 0, .bool false]
            have n3 : Bk (((w7.alloc (.cells #[.slice none 0 0] 33)).alloc (.cells #[.int .i64 0, .bool false] 67)).setRow w7.heap.size #[.slice (some ⟨g6, 0, none⟩) 49 c6]) (w7.heap.size + 1) 67 #[.int .i64 0, .bool false] := (setRow_other _ _ _ _ (by omega)).trans n2
            have f1 : Bk ((((w7.alloc (.cells #[.slice none 0 0] 33)).alloc (.cells #[.int .i64 0, .bool false] 67)).setRow w7.heap.size #[.slice (some ⟨g6, 0, none⟩) 49 c6]).setRow (w7.heap.size + 1) #[.int .i64 had, .bool true]) w7.heap.size 33 #[.slice (some ⟨g6, 0, none⟩) 49 c6] := (setRow_other _ _ _ _ (by omega)).trans (setRow_heap _ _ #[.slice none 0 0] #[.slice (some ⟨g6, 0, none⟩) 49 c6] 33 (0, 0) n1)
            have f2 : Bk ((((w7.alloc (.cells #[.slice none 0 0] 33)).alloc (.cells #[.int .i64 0, .bool false] 67)).setRow w7.heap.size #[.slice (some ⟨g6, 0, none⟩) 49 c6]).setRow (w7.heap.size + 1) #[.int .i64 had, .bool true]) (w7.heap.size + 1) 67 #[.int .i64 had, .bool true] := setRow_heap _ _ #[.int .i64 0, .bool false] #[.int .i64 had, .bool true] 67 (0, 0) n3
            have hbb : Below w7.heap.size w7 ((((w7.alloc (.cells #[.slice none 0 0] 33)).alloc (.cells #[.int .i64 0, .bool false] 67)).setRow w7.heap.size #[.slice (some ⟨g6, 0, none⟩) 49 c6]).setRow (w7.heap.size + 1) #[.int .i64 had, .bool true]) := (((below_al (below_al (Below.refl _ _) _) _).trans (below_setRow0 (Nat.le_refl _) _)).trans (below_setRow0 (Nat.le_succ _) _))
            have kLx := kL.keep hbb
            have kMx := kM.keep hbb
            have hm6x := (own_keepb' (show World.ownsRow w7 w.heap.size 3 1 (.slice (some ⟨g6, 0, none⟩) 49 c6) mm.length (ints mm) from hm6) hbb : OwnInts ((((w7.alloc (.cells #[.slice none 0 0] 33)).alloc (.cells #[.int .i64 0, .bool false] 67)).setRow w7.heap.size #[.slice (some ⟨g6, 0, none⟩) 49 c6]).setRow (w7.heap.size + 1) #[.int .i64 had, .bool true]) w.heap.size (.slice (some ⟨g6, 0, none⟩) 49 c6) mm)
            have hlog2x := (own_keepb' (show World.ownsRow w7 w.heap.size 67 2 (.slice G log.length cp) log.length (resCells log) from hlog2) hbb : OwnRes ((((w7.alloc (.cells #[.slice none 0 0] 33)).alloc (.cells #[.int .i64 0, .bool false] 67)).setRow w7.heap.size #[.slice (some ⟨g6, 0, none⟩) 49 c6]).setRow (w7.heap.size + 1) #[.int .i64 had, .bool true]) w.heap.size (.slice G log.length cp) log)
            have hszx := (And.intro (bk_lt2 kM) hbl.size)
            have hblx := below_tr hbl hbb
            have H5 := Lib.hid (And.intro f1 (And.intro f2 (And.intro kLx (And.intro kMx (And.intro hm6x (And.intro hlog2x (And.intro hszx hblx)))))))
            clear f1 f2 hbb n2 kLx kMx hm6x hlog2x hszx hblx kL kM hm6 hlog2 hbl
            go_upto_region 26 with (first
              | (refine wpList_store_rowTo rfl 33 (.tmp 22) (.tmp 146) rfl rfl w7.heap.size #[.slice (some ⟨g6, 0, none⟩) 49 c6] rfl rfl 33 #[.slice none 0 0] n1 (by kernel_rfl) rfl (by simp [Value.oneCell']) ?_)
              | (refine wpList_store_rowTo rfl 67 (.tmp 23) (.tmp 147) rfl rfl (w7.heap.size + 1) #[.int .i64 had, .bool true] rfl rfl 67 #[.int .i64 0, .bool false] n3 (by kernel_rfl) rfl (by simp [Value.oneCell']) ?_))
            clear n1 n3
            obtain ⟨f1, f2, kL, kM, hm6, hlog2, hsz, hbl⟩ := H5.out
            clear H5
            show Code.wp Try.prog _ _ _ ((((w7.alloc (.cells #[.slice none 0 0] 33)).alloc (.cells #[.int .i64 0, .bool false] 67)).setRow w7.heap.size #[.slice (some ⟨g6, 0, none⟩) 49 c6]).setRow (w7.heap.size + 1) #[.int .i64 had, .bool true])
            generalize ((((w7.alloc (.cells #[.slice none 0 0] 33)).alloc (.cells #[.int .i64 0, .bool false] 67)).setRow w7.heap.size #[.slice (some ⟨g6, 0, none⟩) 49 c6]).setRow (w7.heap.size + 1) #[.int .i64 had, .bool true]) = w8 at *
            obtain ⟨gA2, hgA⟩ : ∃ g, w7.heap.size = g := ⟨_, rfl⟩
            obtain ⟨gB2, hgB⟩ : ∃ g, w7.heap.size + 1 = g := ⟨_, rfl⟩
            have zAB : w.heap.size ≤ gA2 ∧ gA2 < gB2 ∧ bM ≠ gA2 := by omega
            rw [hgA] at f1
            rw [hgB] at f2
            rw [hgB, hgA]
            clear hgA hgB hsz
            have qf := kM.free 0
            have qc0 := kM.cell 0
            have ql := kM.lt
            have q1 := f1.cell 0
            have ql1 := f1.lt
            simp at qc0 q1
            have hkt := keptT_set kM 0 (.slice (some ⟨g6, 0, none⟩) 49 c6)
            have hbs : Below w.heap.size w8 (w8.setCell ⟨bM, 0, none⟩ (.slice (some ⟨g6, 0, none⟩) 49 c6)) := (Below.refl _ _).setCell (p := ⟨bM, 0, none⟩) HGM.out _
            have x1 := kL.keptT hkt (by decide)
            have x3 : Bk (w8.setCell ⟨bM, 0, none⟩ (.slice (some ⟨g6, 0, none⟩) 49 c6)) bM 33 #[.slice (some ⟨g6, 0, none⟩) 49 c6] := kM.stored 0 (.slice (some ⟨g6, 0, none⟩) 49 c6)
            have x6 : OwnInts (w8.setCell ⟨bM, 0, none⟩ (.slice (some ⟨g6, 0, none⟩) 49 c6)) w.heap.size (.slice (some ⟨g6, 0, none⟩) 49 c6) mm := own_keptT (show World.ownsRow w8 w.heap.size 3 1 (.slice (some ⟨g6, 0, none⟩) 49 c6) mm.length (ints mm) from hm6) hkt (by decide)
            have x7 : OwnRes (w8.setCell ⟨bM, 0, none⟩ (.slice (some ⟨g6, 0, none⟩) 49 c6)) w.heap.size (.slice G log.length cp) log := own_keptT (show World.ownsRow w8 w.heap.size 67 2 (.slice G log.length cp) log.length (resCells log) from hlog2) hkt (by decide)
            have x8 := f2.keptT hkt (by decide)
            have x9 := hbl.trans hbs
            have HX := Lib.hid (And.intro x1 (And.intro x3 (And.intro x6 (And.intro x7 (And.intro x8 x9)))))
            clear x1 x3 x6 x7 x8 x9 hkt hbs kL hm6 hlog2 hbl f2
            go_upto_region 29 with fail
            clear qf qc0 ql q1 ql1 f1 kM
            show Code.wp Try.prog _ _ _ (w8.setCell ⟨bM, 0, none⟩ (.slice (some ⟨g6, 0, none⟩) 49 c6))
            obtain ⟨kL, kM, hm6, hlog2, f2, hbl⟩ := HX.out
            clear HX
            generalize w8.setCell ⟨bM, 0, none⟩ (.slice (some ⟨g6, 0, none⟩) 49 c6) = w9 at *
            -- the log
            obtain ⟨i0, hi0, hz0, hz1, hz2⟩ := info_parts res_info
            have s0 := f2.cell 0
            have s1 := f2.cell 1
            have sl := f2.lt
            simp at s0 s1
            have kr := Bk.made w9 67 #[.int .i64 had, .bool true]
            have hbr := below_al (Below.refl w9.heap.size w9) (.cells #[.int .i64 had, .bool true] 67)
            have hlog3 := own_keepb' (show World.ownsRow w9 w.heap.size 67 2 (.slice G log.length cp) log.length (resCells log) from hlog2) hbr
            replace kL := kL.keep hbr
            replace kM := kM.keep hbr
            have hm7 := own_keepb' (show World.ownsRow w9 w.heap.size 3 1 (.slice (some ⟨g6, 0, none⟩) 49 c6) mm.length (ints mm) from hm6) hbr
            have hsz6 : w.heap.size ≤ (w9.alloc (.cells #[.int .i64 had, .bool true] 67)).heap.size := Nat.le_trans hbl.size hbr.size
            have hbl7 := below_tr hbl hbr
            have HK7 := Lib.hid (And.intro kL (And.intro kM (And.intro hm7 hbl7)))
            have hkk : (k : Int) + 1 ≤ 1000000 := by omega
            clear kL kM hm6 hm7 hbl hbl7 hlog2 hbr
            go_wp2_with (at_builtin; go_must (refine wpList_append_own_at _ rfl (.tmp 152) (.tmp 154) _ rfl w.heap.size 67 i0 _ 2 16 Try.underlying47 hi0 hz0 hz1 hz2 rfl (by omega) (.slice G log.length cp) log.length (resCells log) rfl hlog3 ⟨w9.heap.size, 0, none⟩ 1 1 [.int .i64 had, .bool true] rfl rfl (fun j u hu => by rw [Go.WideShapes.add_plain, Nat.zero_add, kr.cell j]; simpa using hu) (by simp [Value.oneCell']) (by simp only [maxLen]; omega) (by omega) (by simp; omega) ?_; intro v9 w10 hrow7 hgrow7 _ _))
            have hgk := keptT_grown hlog3 hgrow7
            have hbg := below_grow (Below.refl w.heap.size _) hlog3 hgrow7 hsz6 (Nat.le_refl _)
            obtain ⟨kL, kM, hm7, hbl7⟩ := HK7.out
            replace kL := kL.keptT hgk (by decide)
            replace kM := kM.keptT hgk (by decide)
            have hm8 : OwnInts w10 w.heap.size (.slice (some ⟨g6, 0, none⟩) 49 c6) mm := own_keptT hm7 hgk (by decide)
            obtain ⟨gR, cur, ⟨hgR, kR⟩, -, -⟩ := own_cells' hm8 HNX2.out.2 (by omega)
            obtain rfl : g6 = gR := by injection hgR with h; injection h
            have hneR : g6 ≠ bM := bk_neT kR kM (by decide)
            have hrl : GwR l (sn : Int) F V passed K bL bM w v9 (.int .i64 ((k + 1 : Nat) : Int)) w10 := ⟨k + 1, g6, c6, hkK, rfl, by
              rw [HNX2.out.1]
              unfold OwnRes
              rw [resCells_snoc, List.length_append]
              exact hrow7, kL, kM, by
              rw [HNX2.out.1]
              exact own_sl hm8 HNX2.out.2, hneR, hbl7.trans hbg⟩
            have HRL := Lib.hid hrl
            clear hrl kL kM hm7 hm8 kR hbl7 HK7 hgk hbg hrow7 hgrow7 hlog3 kr s0 s1 sl f2 hneR hgR
            go_wp2_with fail
            go_roundw
            case rel => exact HRL.out
            case measure => simp [intOf]; omega
        · have hgp : gdPass passed k = false := by
            rw [gdPass, HA.out.2]
            simp [hkn]
          have HM1 := Lib.hid (HNX.out mk (by rw [hgp]; rfl))
          have i1 : decide ((k : Int) < (n : Int)) = false := by simp; omega
          have i2 : decide (k < n) = false := by simp; omega
          have i4 : (k : Int) + 1 ≤ 1000000 := by omega
          clear hgp
          go_wp2_with (first
            | (refine wpList_load_row rfl 33 (.tmp 12) rfl bM rfl 33 #[.slice (some ⟨gA, 0, none⟩) 49 cA] (0, 0) _ kM Try.underlying33 rfl (by kernel_rfl) ?_)
            | (refine wpList_load_row rfl 61 (.tmp 15) rfl gX rfl 61 (accC qk qc qo qv) (0, 0) _ kX Try.underlying61 rfl (by kernel_rfl) ?_))
          (with_reducible refine (do_okn (some ⟨gA, 0, none⟩) cA 49 mk ⟨qk, qc, qo, qv⟩ _ HM1.out.2.2.2 hsl (by omega) HM1.out.2.1).mono ?_)
          rintro e w7 ⟨g6, c6, rfl, ho6, hb⟩
          rw [HM1.out.2.2.1]
          replace kL := kL.keep hb
          replace kM := kM.keep hb
          replace hlog2 : OwnRes w7 w.heap.size (.slice G log.length cp) log := own_keepb' (show World.ownsRow w3 w.heap.size 67 2 (.slice G log.length cp) log.length (resCells log) from hlog2) hb
          have hsz4 : w.heap.size ≤ w3.heap.size := hbl.size
          replace hbl := below_tr hbl hb
          have hm6 : OwnInts w7 w.heap.size (.slice (some ⟨g6, 0, none⟩) 49 c6) ((⟨qk, qc, qo, qv⟩ : Acc).make mk) := own_lower ho6 hsz4
          clear hb kX hsl ho6 hsz4
          obtain ⟨had, hhad⟩ : ∃ z, (⟨qk, qc, qo, qv⟩ : Acc).had mk = z := ⟨_, rfl⟩
          obtain ⟨mm, hmm⟩ : ∃ z, (⟨qk, qc, qo, qv⟩ : Acc).make mk = z := ⟨_, rfl⟩
          have hnx := HM1.out.1
          have hmml : mm.length = 49 := by rw [← hmm, Acc.make_length]; exact HM1.out.2.2.2
          rw [hmm, hhad] at hnx
          rw [hhad]
          rw [hmm] at hm6
          have HNX2 := Lib.hid (And.intro hnx hmml)
          clear hnx hmml HNX hhad hmm
          have n1 := (Bk.made w7 33 #[.slice none 0 0]).alloc (.cells #[.int .i64 0, .bool false] 67)
          have n2 := Bk.new (w7.alloc (.cells #[.slice none 0 0] 33)) (g := w7.heap.size + 1) (by simp) 67 #[.int .i64 0, .bool false]
          have n3 : Bk (((w7.alloc (.cells #[.slice none 0 0] 33)).alloc (.cells #[.int .i64 0, .bool false] 67)).setRow w7.heap.size #[.slice (some ⟨g6, 0, none⟩) 49 c6]) (w7.heap.size + 1) 67 #[.int .i64 0, .bool false] := (setRow_other _ _ _ _ (by omega)).trans n2
          have f1 : Bk ((((w7.alloc (.cells #[.slice none 0 0] 33)).alloc (.cells #[.int .i64 0, .bool false] 67)).setRow w7.heap.size #[.slice (some ⟨g6, 0, none⟩) 49 c6]).setRow (w7.heap.size + 1) #[.int .i64 had, .bool true]) w7.heap.size 33 #[.slice (some ⟨g6, 0, none⟩) 49 c6] := (setRow_other _ _ _ _ (by omega)).trans (setRow_heap _ _ #[.slice none 0 0] #[.slice (some ⟨g6, 0, none⟩) 49 c6] 33 (0, 0) n1)
          have f2 : Bk ((((w7.alloc (.cells #[.slice none 0 0] 33)).alloc (.cells #[.int .i64 0, .bool false] 67)).setRow w7.heap.size #[.slice (some ⟨g6, 0, none⟩) 49 c6]).setRow (w7.heap.size + 1) #[.int .i64 had, .bool true]) (w7.heap.size + 1) 67 #[.int .i64 had, .bool true] := setRow_heap _ _ #[.int .i64 0, .bool false] #[.int .i64 had, .bool true] 67 (0, 0) n3
          have hbb : Below w7.heap.size w7 ((((w7.alloc (.cells #[.slice none 0 0] 33)).alloc (.cells #[.int .i64 0, .bool false] 67)).setRow w7.heap.size #[.slice (some ⟨g6, 0, none⟩) 49 c6]).setRow (w7.heap.size + 1) #[.int .i64 had, .bool true]) := (((below_al (below_al (Below.refl _ _) _) _).trans (below_setRow0 (Nat.le_refl _) _)).trans (below_setRow0 (Nat.le_succ _) _))
          have kLx := kL.keep hbb
          have kMx := kM.keep hbb
          have hm6x := (own_keepb' (show World.ownsRow w7 w.heap.size 3 1 (.slice (some ⟨g6, 0, none⟩) 49 c6) mm.length (ints mm) from hm6) hbb : OwnInts ((((w7.alloc (.cells #[.slice none 0 0] 33)).alloc (.cells #[.int .i64 0, .bool false] 67)).setRow w7.heap.size #[.slice (some ⟨g6, 0, none⟩) 49 c6]).setRow (w7.heap.size + 1) #[.int .i64 had, .bool true]) w.heap.size (.slice (some ⟨g6, 0, none⟩) 49 c6) mm)
          have hlog2x := (own_keepb' (show World.ownsRow w7 w.heap.size 67 2 (.slice G log.length cp) log.length (resCells log) from hlog2) hbb : OwnRes ((((w7.alloc (.cells #[.slice none 0 0] 33)).alloc (.cells #[.int .i64 0, .bool false] 67)).setRow w7.heap.size #[.slice (some ⟨g6, 0, none⟩) 49 c6]).setRow (w7.heap.size + 1) #[.int .i64 had, .bool true]) w.heap.size (.slice G log.length cp) log)
          have hszx := (And.intro (bk_lt2 kM) hbl.size)
          have hblx := below_tr hbl hbb
          have H5 := Lib.hid (And.intro f1 (And.intro f2 (And.intro kLx (And.intro kMx (And.intro hm6x (And.intro hlog2x (And.intro hszx hblx)))))))
          clear f1 f2 hbb n2 kLx kMx hm6x hlog2x hszx hblx kL kM hm6 hlog2 hbl
          go_upto_region 26 with (first
            | (refine wpList_store_rowTo rfl 33 (.tmp 22) (.tmp 146) rfl rfl w7.heap.size #[.slice (some ⟨g6, 0, none⟩) 49 c6] rfl rfl 33 #[.slice none 0 0] n1 (by kernel_rfl) rfl (by simp [Value.oneCell']) ?_)
            | (refine wpList_store_rowTo rfl 67 (.tmp 23) (.tmp 147) rfl rfl (w7.heap.size + 1) #[.int .i64 had, .bool true] rfl rfl 67 #[.int .i64 0, .bool false] n3 (by kernel_rfl) rfl (by simp [Value.oneCell']) ?_))
          clear n1 n3
          obtain ⟨f1, f2, kL, kM, hm6, hlog2, hsz, hbl⟩ := H5.out
          clear H5
          show Code.wp Try.prog _ _ _ ((((w7.alloc (.cells #[.slice none 0 0] 33)).alloc (.cells #[.int .i64 0, .bool false] 67)).setRow w7.heap.size #[.slice (some ⟨g6, 0, none⟩) 49 c6]).setRow (w7.heap.size + 1) #[.int .i64 had, .bool true])
          generalize ((((w7.alloc (.cells #[.slice none 0 0] 33)).alloc (.cells #[.int .i64 0, .bool false] 67)).setRow w7.heap.size #[.slice (some ⟨g6, 0, none⟩) 49 c6]).setRow (w7.heap.size + 1) #[.int .i64 had, .bool true]) = w8 at *
          obtain ⟨gA2, hgA⟩ : ∃ g, w7.heap.size = g := ⟨_, rfl⟩
          obtain ⟨gB2, hgB⟩ : ∃ g, w7.heap.size + 1 = g := ⟨_, rfl⟩
          have zAB : w.heap.size ≤ gA2 ∧ gA2 < gB2 ∧ bM ≠ gA2 := by omega
          rw [hgA] at f1
          rw [hgB] at f2
          rw [hgB, hgA]
          clear hgA hgB hsz
          have qf := kM.free 0
          have qc0 := kM.cell 0
          have ql := kM.lt
          have q1 := f1.cell 0
          have ql1 := f1.lt
          simp at qc0 q1
          have hkt := keptT_set kM 0 (.slice (some ⟨g6, 0, none⟩) 49 c6)
          have hbs : Below w.heap.size w8 (w8.setCell ⟨bM, 0, none⟩ (.slice (some ⟨g6, 0, none⟩) 49 c6)) := (Below.refl _ _).setCell (p := ⟨bM, 0, none⟩) HGM.out _
          have x1 := kL.keptT hkt (by decide)
          have x3 : Bk (w8.setCell ⟨bM, 0, none⟩ (.slice (some ⟨g6, 0, none⟩) 49 c6)) bM 33 #[.slice (some ⟨g6, 0, none⟩) 49 c6] := kM.stored 0 (.slice (some ⟨g6, 0, none⟩) 49 c6)
          have x6 : OwnInts (w8.setCell ⟨bM, 0, none⟩ (.slice (some ⟨g6, 0, none⟩) 49 c6)) w.heap.size (.slice (some ⟨g6, 0, none⟩) 49 c6) mm := own_keptT (show World.ownsRow w8 w.heap.size 3 1 (.slice (some ⟨g6, 0, none⟩) 49 c6) mm.length (ints mm) from hm6) hkt (by decide)
          have x7 : OwnRes (w8.setCell ⟨bM, 0, none⟩ (.slice (some ⟨g6, 0, none⟩) 49 c6)) w.heap.size (.slice G log.length cp) log := own_keptT (show World.ownsRow w8 w.heap.size 67 2 (.slice G log.length cp) log.length (resCells log) from hlog2) hkt (by decide)
          have x8 := f2.keptT hkt (by decide)
          have x9 := hbl.trans hbs
          have HX := Lib.hid (And.intro x1 (And.intro x3 (And.intro x6 (And.intro x7 (And.intro x8 x9)))))
          clear x1 x3 x6 x7 x8 x9 hkt hbs kL hm6 hlog2 hbl f2
          go_upto_region 29 with fail
          clear qf qc0 ql q1 ql1 f1 kM
          show Code.wp Try.prog _ _ _ (w8.setCell ⟨bM, 0, none⟩ (.slice (some ⟨g6, 0, none⟩) 49 c6))
          obtain ⟨kL, kM, hm6, hlog2, f2, hbl⟩ := HX.out
          clear HX
          generalize w8.setCell ⟨bM, 0, none⟩ (.slice (some ⟨g6, 0, none⟩) 49 c6) = w9 at *
          -- the log
          obtain ⟨i0, hi0, hz0, hz1, hz2⟩ := info_parts res_info
          have s0 := f2.cell 0
          have s1 := f2.cell 1
          have sl := f2.lt
          simp at s0 s1
          have kr := Bk.made w9 67 #[.int .i64 had, .bool true]
          have hbr := below_al (Below.refl w9.heap.size w9) (.cells #[.int .i64 had, .bool true] 67)
          have hlog3 := own_keepb' (show World.ownsRow w9 w.heap.size 67 2 (.slice G log.length cp) log.length (resCells log) from hlog2) hbr
          replace kL := kL.keep hbr
          replace kM := kM.keep hbr
          have hm7 := own_keepb' (show World.ownsRow w9 w.heap.size 3 1 (.slice (some ⟨g6, 0, none⟩) 49 c6) mm.length (ints mm) from hm6) hbr
          have hsz6 : w.heap.size ≤ (w9.alloc (.cells #[.int .i64 had, .bool true] 67)).heap.size := Nat.le_trans hbl.size hbr.size
          have hbl7 := below_tr hbl hbr
          have HK7 := Lib.hid (And.intro kL (And.intro kM (And.intro hm7 hbl7)))
          have hkk : (k : Int) + 1 ≤ 1000000 := by omega
          clear kL kM hm6 hm7 hbl hbl7 hlog2 hbr
          go_wp2_with (at_builtin; go_must (refine wpList_append_own_at _ rfl (.tmp 152) (.tmp 154) _ rfl w.heap.size 67 i0 _ 2 16 Try.underlying47 hi0 hz0 hz1 hz2 rfl (by omega) (.slice G log.length cp) log.length (resCells log) rfl hlog3 ⟨w9.heap.size, 0, none⟩ 1 1 [.int .i64 had, .bool true] rfl rfl (fun j u hu => by rw [Go.WideShapes.add_plain, Nat.zero_add, kr.cell j]; simpa using hu) (by simp [Value.oneCell']) (by simp only [maxLen]; omega) (by omega) (by simp; omega) ?_; intro v9 w10 hrow7 hgrow7 _ _))
          have hgk := keptT_grown hlog3 hgrow7
          have hbg := below_grow (Below.refl w.heap.size _) hlog3 hgrow7 hsz6 (Nat.le_refl _)
          obtain ⟨kL, kM, hm7, hbl7⟩ := HK7.out
          replace kL := kL.keptT hgk (by decide)
          replace kM := kM.keptT hgk (by decide)
          have hm8 : OwnInts w10 w.heap.size (.slice (some ⟨g6, 0, none⟩) 49 c6) mm := own_keptT hm7 hgk (by decide)
          obtain ⟨gR, cur, ⟨hgR, kR⟩, -, -⟩ := own_cells' hm8 HNX2.out.2 (by omega)
          obtain rfl : g6 = gR := by injection hgR with h; injection h
          have hneR : g6 ≠ bM := bk_neT kR kM (by decide)
          have hrl : GwR l (sn : Int) F V passed K bL bM w v9 (.int .i64 ((k + 1 : Nat) : Int)) w10 := ⟨k + 1, g6, c6, hkK, rfl, by
            rw [HNX2.out.1]
            unfold OwnRes
            rw [resCells_snoc, List.length_append]
            exact hrow7, kL, kM, by
            rw [HNX2.out.1]
            exact own_sl hm8 HNX2.out.2, hneR, hbl7.trans hbg⟩
          have HRL := Lib.hid hrl
          clear hrl kL kM hm7 hm8 kR hbl7 HK7 hgk hbg hrow7 hgrow7 hlog3 kr s0 s1 sl f2 hneR hgR
          go_wp2_with fail
          go_roundw
          case rel => exact HRL.out
          case measure => simp [intOf]; omega
end Go.Proofs.Ytgjdjgainjedhaa
