/- The document's example: its runs, by a look; [2]int's ==. law16.shown. Printed by sh_gen.py. -/
import Derived.Test.YtgjdjgainjedhaaEAl
namespace Go.Proofs.Ytgjdjgainjedhaa
open Go.RowKit
set_option linter.unusedVariables false

def aloneOk (l : Ly) (me : Int) (gone : Gone) (op : Opr) (m : List Int) (K : Nat) (val : Int) (is : Bool) (err pt : Int) (g : Gone) : Bool :=
  (List.range K).all (fun k => match eraR l me op gone (aloneS l me gone op m k).2 with | .ask a c o v => decide ((⟨a, c, o, v⟩ : Acc).err (aloneS l me gone op m k).1.length = 0) | .out _ _ _ _ _ => false)
  && (match eraR l me op gone (aloneS l me gone op m K).2 with | .out v i e p g' => decide (v = val) && decide (i = is) && decide (e = err) && decide (p = pt) && decide (g' = g) | .ask _ _ _ _ => false)
  && decide (K ≤ 400)
theorem ARun.of_ok {l : Ly} {me : Int} {gone : Gone} {op : Opr} {m : List Int} {K : Nat} {val : Int} {is : Bool} {err pt : Int} {g : Gone} (h : aloneOk l me gone op m K val is err pt g = true) : ARun l me gone op m K val is err pt g := by
  unfold aloneOk at h
  simp only [Bool.and_eq_true] at h
  obtain ⟨⟨h1, h3⟩, h4⟩ := h
  rw [List.all_eq_true] at h1
  refine ⟨fun k hk => ?_, ?_, of_decide_eq_true h4⟩
  · have := h1 k (List.mem_range.2 hk)
    cases e : eraR l me op gone (aloneS l me gone op m k).2 with
    | ask a c o v => rw [e] at this; exact ⟨a, c, o, v, rfl, of_decide_eq_true this⟩
    | out _ _ _ _ _ => rw [e] at this; cases this
  · cases e : eraR l me op gone (aloneS l me gone op m K).2 with
    | ask _ _ _ _ => rw [e] at h3; cases h3
    | out v i e' p g' =>
      rw [e] at h3
      simp only [Bool.and_eq_true] at h3
      obtain ⟨⟨⟨⟨g1, g2⟩, g3⟩, g4⟩, g5⟩ := h3
      rw [of_decide_eq_true g1, of_decide_eq_true g2, of_decide_eq_true g3, of_decide_eq_true g4, of_decide_eq_true g5]
def shL : Ly := playL 2 3
def shM0 : List Int := beginE shL
def shM1 : List Int := (aloneS shL 0 [] ⟨1, 0, 0, shL.free⟩ shM0 5).1
theorem sh_run : ARun shL 0 [] ⟨1, 0, 0, shL.free⟩ shM0 5 1 true 0 3 [] ∧ ARun shL 0 [] ⟨2, 0, 0, 0⟩ shM1 3 0 true 0 2 [] ∧ ARun shL 1 [] ⟨3, 0, 2, 0⟩ shM1 2 0 true 0 1 [(2, 1)] :=
  ⟨.of_ok (by decide +kernel), .of_ok (by decide +kernel), .of_ok (by decide +kernel)⟩
theorem sh_none : eraR shL 0 op0 [] [] = .out 0 false 1 (-1) [] := rfl
def shR : TabE := endE shL 2 [[0, 2, 4], [1]] []
set_option maxRecDepth 10000000 in
theorem sh_end : shR.m.length = shL.size.toNat ∧ shR.seats.length = 2 ∧ shR.bad = false ∧ shR.m.getD shL.era.toNat 0 = 3 := by decide +kernel
theorem sh_lay : (shL.size = 73 ∧ shL.era = 2 ∧ shL.free = 3 ∧ shL.c.seats = 2 ∧ shL.c.nodes = 5) ∧ shM0.length = 73 ∧ shM1.length = 73 := by decide +kernel
theorem eq_pair (a b c d : Int) (w : World) : (Op.equalIn 10000 51 (.agg #[.int .i64 a, .int .i64 b]) (.agg #[.int .i64 c, .int .i64 d])).run Try.prog w = .ok (a == c && b == d) w := by
  have u3 := Try.underlying3
  have a3 := Try.isAgg3
  have z3 := Try.sizeOf3
  rw [show (10000 : Nat) = 9999 + 1 from rfl, Op.equalIn]
  simp only [Sem.run_bind, run_underlying Try.underlying51, Result.andThen_ok]
  simp only [Std.Legacy.Range.forIn_eq_forIn_range', Std.Legacy.Range.size, Nat.sub_zero, Nat.add_sub_cancel, Nat.div_one, List.range'_succ, List.range'_zero, List.forIn_cons, List.forIn_nil]
  go_simp
  by_cases h1 : a = c <;> by_cases h2 : b = d <;> simp [h1, h2]
end Go.Proofs.Ytgjdjgainjedhaa
namespace Go.Proofs.Ytgjdjgainjedhaa
open Go.RowKit
set_option linter.unusedVariables false
attribute [local go_sem ↓] Go.wp_at_zero Go.wp_at_succ

theorem begin_2 (l : Ly) (w : World) (f : LyFull l) (h1 : 1 ≤ l.c.nodes) (h2 : l.c.nodes ≤ 1000) (hs0 : 1 ≤ l.size) (hs1 : l.size ≤ 1000) (hE : allErr (List.replicate l.size.toNat 0) (initE l) = 0) : Calls Try.prog 20 #[lyV l, .int .i64 2] w (BeginPost l 2 w) := begin_any l 2 w f (by omega) h1 h2 hs0 hs1 hE
/-- alone, with nothing gone. -/
theorem alone_nil (l : Ly) (me k o a b : Int) (m : List Int) (N K : Nat) (val : Int) (is : Bool) (err pt : Int) (g : Gone) (A : Option Addr) (c : Nat) (w : World) (f : LyFull l) (hse : 1 ≤ l.c.seats ∧ l.c.seats ≤ 8) (hno : l.c.nodes ≤ 1000) (hr : ARun l me [] ⟨k, o, a, b⟩ m K val is err pt g) (hN : m.length = N) (hm : N ≤ 100000) (hA : Sl w w.heap.size A N (ints m)) :
    Calls Try.prog 19 #[.agg (lyC l), .agg #[.slice A N c], .int .i64 me, .slice none 0 0, .agg #[.int .i64 k, .int .i64 o, .int .i64 a, .int .i64 b]] w (AlonePost val is err pt g (aloneS l me [] ⟨k, o, a, b⟩ m K).1 K w) := by
  subst hN
  exact alone_any l me [] ⟨k, o, a, b⟩ m K val is err pt g A none c 0 w f hse hno (fun _ => ⟨rfl, rfl⟩) (fun h => by simp at h) (by decide) (fun x hx => by cases hx) hr hm hA
theorem next_nil (l : Ly) (w : World) (f : LyFull l) (hse : 1 ≤ l.c.seats ∧ l.c.seats ≤ 8) (hno : l.c.nodes ≤ 1000) :
    Calls Try.prog 17 #[.agg (lyC l), .int .i64 0, .slice none 0 0, .agg #[.int .i64 0, .int .i64 0, .int .i64 0, .int .i64 0], .slice none 0 0] w (ENextPost (eraR l 0 op0 [] []) w) :=
  enext_any l 0 op0 none 0 0 [] none 0 [] w f hse hno rfl (fun _ => ⟨rfl, rfl⟩) (fun h => by simp at h) (by decide) (fun x hx => by cases hx) (fun h => by simp at h) (by decide)
def AlX (v : Int) (is : Bool) (er pt : Int) (g : Gone) (m : List Int) (K : Nat) (c1 c2 : Array Value) (v3 : Value) (w : World) : Prop :=
  ∃ A c G n c', (c1 = outG v is er pt (.slice G n c') ∧ c2 = #[.slice A m.length c] ∧ v3 = .int .i64 (K : Nat)) ∧ GoneOk w (.slice G n c') g ∧ OwnInts w 0 (.slice A m.length c) m
theorem alX_keep {v : Int} {is : Bool} {er pt : Int} {g : Gone} {m : List Int} {K : Nat} : ∀ (c1 c2 : Array Value) (v3 : Value) (w1 w2 : World), AlX v is er pt g m K c1 c2 v3 w1 → (KeptT 63 w1 w2 ∨ KeptT 33 w1 w2 ∨ Below w1.heap.size w1 w2) → AlX v is er pt g m K c1 c2 v3 w2 := by
  rintro c1 c2 v3 w1 w2 ⟨A, c, G, n, c', h1, h2, h3⟩ hd
  refine ⟨A, c, G, n, c', h1, h2.mv fun b cs kb => ?_, ?_⟩
  · rcases hd with h | h | h
    · exact kb.keptT h (by decide)
    · exact kb.keptT h (by decide)
    · exact kb.keep h
  · rcases hd with h | h | h
    · exact own_keptT (show World.ownsRow w1 0 3 1 (.slice A m.length c) m.length (ints m) from h3) h (by decide)
    · exact own_keptT (show World.ownsRow w1 0 3 1 (.slice A m.length c) m.length (ints m) from h3) h (by decide)
    · exact own_keepb' (show World.ownsRow w1 0 3 1 (.slice A m.length c) m.length (ints m) from h3) h
def shT : Nat → Nat | 8 => 35 | 9 => 26 | 10 => 36 | 11 => 37 | 12 => 38 | 13 => 4 | 14 => 5 | 15 => 190 | 16 => 191 | 17 => 6 | _ => 192
theorem sl_own0 {w : World} {A : Option Addr} {c : Nat} {m : List Int} {N : Nat} (h : OwnInts w 0 (.slice A m.length c) m) (hN : m.length = N) : Sl w w.heap.size A N (ints m) := by
  subst hN
  exact own_sl h rfl
theorem pair_at {w : World} {G : Option Addr} {n c' : Nat} {x : Int × Int} (h : GoneOk w (.slice G n c') [x]) : n = 1 ∧ ∃ b o, G = some ⟨b, o, none⟩ ∧ b < w.heap.size ∧ w.cell? ⟨b, o, none⟩ = some (.int .i64 x.1) ∧ w.cell? ⟨b, o + 1, none⟩ = some (.int .i64 x.2) := by
  obtain ⟨G', n', c2, e, hn, -, hp⟩ := h
  injection e with e1 e2 e3
  subst e1 e2 e3
  obtain ⟨b, o, cs, e1, k, hc⟩ := hp (by simp)
  have := hc 0 x rfl
  simp only [Nat.zero_mul, Nat.add_zero] at this
  exact ⟨hn, b, o, e1, k.lt, this.1, this.2⟩
set_option maxRecDepth 1000000 in
set_option maxHeartbeats 16000000 in
theorem shown_any (w : World) : Calls Try.prog 7 #[] w (BoolBelow true w) := by
  have hok := layOk_of (layEB_play 2 3 (by omega) (by omega))
  have hfull : LyFull (playL 2 3) := lyFull_of _ (playCf_can 2 3 (by omega) (by omega))
  have hrun := sh_run
  have hnone := sh_none
  have hend := sh_end
  have hlay := sh_lay
  have hm0 : shM0 = beginE shL := rfl
  have hm1 : (aloneS shL 0 [] ⟨1, 0, 0, shL.free⟩ shM0 5).1 = shM1 := rfl
  have hR : endE shL 2 [[0, 2, 4], [1]] [] = shR := rfl
  have hwh := fun (W T : Option Addr) (w' : World) => where_any 3 W 2 2 T 0 0 w' (by omega) (by omega) (by omega) (by omega)
  have hpl := fun (W T : Option Addr) (w' : World) (hW : SlU8s w' w'.heap.size W [[0, 2, 4], [1]]) (hT : SlU8 w' w'.heap.size T []) => played_any 3 W 2 2 T 0 0 [[0, 2, 4], [1]] [] w' (by omega) (by omega) (by omega) (by omega) (by omega) rfl rfl hW hT (by decide)
  rw [show playL 2 3 = shL from rfl] at hok hfull hwh
  have hpl2 : ∀ (W T : Option Addr) (w' : World) (hW : SlU8s w' w'.heap.size W [[0, 2, 4], [1]]) (hT : SlU8 w' w'.heap.size T []), Calls Try.prog 9 #[.agg (playC 3 W 2 2 T 0 0)] w' (PlayedPost shL 2 [[0, 2, 4], [1]] [] w') := hpl
  clear hpl
  generalize shL = l at *
  generalize shM0 = M0 at *
  generalize shM1 = M1 at *
  have HPL := Lib.hid (And.intro hpl2 hwh)
  have HL := Lib.hid (And.intro hok (And.intro hfull (And.intro hrun (And.intro hnone (And.intro hend (And.intro hlay (And.intro hm0 (And.intro hm1 hR))))))))
  clear hok hfull hrun hnone hend hlay hm0 hm1 hR hpl2 hwh
  have hse : (1 ≤ l.c.seats ∧ l.c.seats ≤ 8) ∧ l.c.nodes ≤ 1000 := by have := HL.out.2.2.2.2.2.1.1; omega
  have HSE := Lib.hid hse
  clear hse
  go_enter Try.func7, Try.ntmps7
  go_upto_region 2 with fail
  have k1 := Bk.new (((w.alloc (.cells #[.int .u8 0] 5)).alloc (.cells #[.int .u8 0] 5)).alloc (.cells #[.slice (some ⟨w.heap.size, 0, none⟩) 1 1, .slice (some ⟨w.heap.size + 1, 0, none⟩) 1 1] 23)) (g := w.heap.size + 1 + 1 + 1) (by simp) 25 (playC 3 (some ⟨w.heap.size + 1 + 1, 0, none⟩) 2 2 none 0 0)
  have hbl := below_al (below_al (below_al (below_al (Below.refl w.heap.size w) (.cells #[.int .u8 0] 5)) (.cells #[.int .u8 0] 5)) (.cells #[.slice (some ⟨w.heap.size, 0, none⟩) 1 1, .slice (some ⟨w.heap.size + 1, 0, none⟩) 1 1] 23)) (.cells (playC 3 (some ⟨w.heap.size + 1 + 1, 0, none⟩) 2 2 none 0 0) 25)
  generalize (((w.alloc (.cells #[.int .u8 0] 5)).alloc (.cells #[.int .u8 0] 5)).alloc (.cells #[.slice (some ⟨w.heap.size, 0, none⟩) 1 1, .slice (some ⟨w.heap.size + 1, 0, none⟩) 1 1] 23)).alloc (.cells (playC 3 (some ⟨w.heap.size + 1 + 1, 0, none⟩) 2 2 none 0 0) 25) = w1 at *
  generalize w.heap.size + 1 + 1 + 1 = b1 at *
  generalize w.heap.size + 1 + 1 = bW at *
  go_wp2_with (refine wpList_load_row rfl 25 (.tmp 1) rfl b1 rfl 25 (playC 3 (some ⟨bW, 0, none⟩) 2 2 none 0 0) (0, 0) _ k1 Try.underlying25 rfl (by kernel_rfl) ?_)
  (with_reducible refine (HPL.out.2 (some ⟨bW, 0, none⟩) none _).mono ?_)
  rintro e w2 ⟨rfl, hb⟩
  replace hbl := below_tr hbl hb
  clear hb k1
  go_upto_region 3 with (refine wpList_store_new rfl 40 (.tmp 2) (.tmp 23) rfl rfl w2.heap.size _ _ (lyC l) rfl rfl rfl rfl (by kernel_rfl) rfl (by simp [Value.oneCell']) ?_)
  have kL := Bk.made w2 40 (lyC l)
  replace hbl := below_al hbl (.cells (lyC l) 40)
  generalize w2.alloc (.cells (lyC l) 40) = w3 at *
  generalize w2.heap.size = bL at *
  go_wp2_with (refine wpList_load_row rfl 40 (.tmp 2) rfl bL rfl 40 (lyC l) (0, 0) _ kL Try.underlying40 rfl (by kernel_rfl) ?_)
  (with_reducible refine (begin_2 l _ HL.out.2.1 (by have := HL.out.2.2.2.2.2.1.1; omega) HSE.out.2 HL.out.1.sz.1 HL.out.1.sz.2 HL.out.1.err).mono ?_)
  rintro e w4 ⟨gt, gs, rfl, hgt, hgs, hx, hb⟩
  replace kL := kL.keep hb
  replace hbl := below_tr hbl hb
  clear hb hgt hgs
  go_upto_region 4 with fail
  refine wp_region_E (S := fun w' => Below w4.drew.heap.size w4.drew w') (E := fun _ => false) (by kernel_rfl) ?_
  replace hx := hx.drew
  replace kL := kL.drew
  replace hbl := hbl.drew
  generalize w4.drew = w5 at *
  obtain ⟨gm, cm, c0, -, lT⟩ := hx.c0
  obtain ⟨gm2, cm2, cc2, kT, hmo⟩ := hx.mem
  have c0' := (kT.cell 0).symm.trans c0
  have hml : (startE0 l 2).m.length = 73 := by show (beginE l).length = 73; rw [← HL.out.2.2.2.2.2.2.1]; exact HL.out.2.2.2.2.2.1.2.1
  have hme : (startE0 l 2).m = M0 := HL.out.2.2.2.2.2.2.1.symm
  rw [hml] at c0
  have hsl : Sl w5 w5.heap.size (some ⟨gm, 0, none⟩) 73 (ints M0) := by
    simp at c0'
    obtain ⟨rfl, -⟩ := c0'
    rw [← hme]
    have h9 := own_sl hmo rfl
    rw [hml] at h9
    exact h9
  have HSL := Lib.hid hsl
  clear hmo kT c0' hml hme hsl hx
  refine wpAnyE_take (i := 0) (oi := _) (v := .agg (lyC l)) rfl (by kernel_rfl) (by kernel_rfl) (by kernel_rfl) (by kernel_rfl) (fun _ _ _ h => h) (Or.inl ⟨by rfl, ?_⟩) (Below.refl _ _) ?_
  · intro w' hSw
    (try simp only [List.getElem_toArray, List.getElem_cons_zero])
    simp only [execOp, Instr.loadAt, Instr.sureAddr, Sem.run_bind, Sem.run_pure]
    rw [show (Act.eval _ (Operand.tmp 2)) = Value.pointer (some ⟨bL, 0, none⟩) from rfl]
    simp only [Sem.run_pure, Result.andThen_ok, run_loadVar_row w' bL 40 40 (lyC l) (0, 0) _ (kL.keep hSw) Try.underlying40 rfl (by kernel_rfl)]
  (try simp only [List.getElem_toArray, List.getElem_cons_zero, Act.put, List.setIfInBounds_toArray, List.set_cons_zero, List.set_cons_succ])
  refine wpAnyE_take (i := 1) (oi := _) (v := .pointer (some ⟨gt, 0, none⟩)) rfl (by kernel_rfl) (by kernel_rfl) (by kernel_rfl) (by kernel_rfl) (fun _ _ _ h => h) (Or.inl ⟨by rfl, ?_⟩) (Below.refl _ _) ?_
  · intro w' hSw
    (try simp only [List.getElem_toArray, List.getElem_cons_succ, List.getElem_cons_zero])
    go_simp
  (try simp only [List.getElem_toArray, List.getElem_cons_succ, List.getElem_cons_zero, Act.put, List.setIfInBounds_toArray, List.set_cons_zero, List.set_cons_succ])
  refine wpAnyE_take (i := 2) (oi := _) (v := .pointer (some ⟨gt, 0, none⟩)) rfl (by kernel_rfl) (by kernel_rfl) (by kernel_rfl) (by kernel_rfl) (fun _ _ _ h => h) (Or.inl ⟨by rfl, ?_⟩) (Below.refl _ _) ?_
  · intro w' hSw
    (try simp only [List.getElem_toArray, List.getElem_cons_succ, List.getElem_cons_zero])
    go_simp
  (try simp only [List.getElem_toArray, List.getElem_cons_succ, List.getElem_cons_zero, Act.put, List.setIfInBounds_toArray, List.set_cons_zero, List.set_cons_succ])
  refine wpAnyE_take (i := 3) (oi := _) (v := .pointer (some ⟨gt, 0, none⟩)) rfl (by kernel_rfl) (by kernel_rfl) (by kernel_rfl) (by kernel_rfl) (fun _ _ _ h => h) (Or.inl ⟨by rfl, ?_⟩) (Below.refl _ _) ?_
  · intro w' hSw
    (try simp only [List.getElem_toArray, List.getElem_cons_succ, List.getElem_cons_zero])
    go_simp
  (try simp only [List.getElem_toArray, List.getElem_cons_succ, List.getElem_cons_zero, Act.put, List.setIfInBounds_toArray, List.set_cons_zero, List.set_cons_succ])
  refine wpAnyE_take (i := 4) (oi := _) (v := .agg #[.slice (some ⟨gm, 0, none⟩) 73 cm]) rfl (by kernel_rfl) (by kernel_rfl) (by kernel_rfl) (by kernel_rfl) (fun _ _ _ h => h) (Or.inl ⟨by rfl, ?_⟩) (Below.refl _ _) ?_
  · intro w' hSw
    (try simp only [List.getElem_toArray, List.getElem_cons_succ, List.getElem_cons_zero])
    simp only [execOp, Instr.loadAt, Instr.sureAddr, Sem.run_bind, Sem.run_pure]
    rw [show (Act.eval _ (Operand.tmp 30)) = Value.pointer (some ⟨gt, 0, none⟩) from rfl]
    simp only [Sem.run_pure, Result.andThen_ok, run_loadVar_sub w' gt 0 33 #[.slice (some ⟨gm, 0, none⟩) 73 cm] _ (one_cell (cell_keep hSw c0)) Try.underlying33 rfl (by kernel_rfl)]
  (try simp only [List.getElem_toArray, List.getElem_cons_succ, List.getElem_cons_zero, Act.put, List.setIfInBounds_toArray, List.set_cons_zero, List.set_cons_succ])
  refine wpAnyE_take (i := 5) (oi := _) (v := .pointer (some ⟨bL, 12, none⟩)) rfl (by kernel_rfl) (by kernel_rfl) (by kernel_rfl) (by kernel_rfl) (fun _ _ _ h => h) (Or.inl ⟨by rfl, ?_⟩) (Below.refl _ _) ?_
  · intro w' hSw
    (try simp only [List.getElem_toArray, List.getElem_cons_succ, List.getElem_cons_zero])
    go_simp
  (try simp only [List.getElem_toArray, List.getElem_cons_succ, List.getElem_cons_zero, Act.put, List.setIfInBounds_toArray, List.set_cons_zero, List.set_cons_succ])
  refine wpAnyE_take (i := 6) (oi := _) (v := .int .i64 l.free) rfl (by kernel_rfl) (by kernel_rfl) (by kernel_rfl) (by kernel_rfl) (fun _ _ _ h => h) (Or.inl ⟨by rfl, ?_⟩) (Below.refl _ _) ?_
  · intro w' hSw
    have s1 := (kL.keep hSw).cell 12
    (try simp at s1)
    (try simp only [List.getElem_toArray, List.getElem_cons_succ, List.getElem_cons_zero])
    go_simp
  (try simp only [List.getElem_toArray, List.getElem_cons_succ, List.getElem_cons_zero, Act.put, List.setIfInBounds_toArray, List.set_cons_zero, List.set_cons_succ])
  refine wpAnyE_take (i := 7) (oi := _) (v := .agg #[.int .i64 1, .int .i64 0, .int .i64 0, .int .i64 l.free]) rfl (by kernel_rfl) (by kernel_rfl) (by kernel_rfl) (by kernel_rfl) (fun _ _ _ h => h) (Or.inl ⟨by rfl, ?_⟩) (Below.refl _ _) ?_
  · intro w' hSw
    (try simp only [List.getElem_toArray, List.getElem_cons_succ, List.getElem_cons_zero])
    go_simp
  (try simp only [List.getElem_toArray, List.getElem_cons_succ, List.getElem_cons_zero, Act.put, List.setIfInBounds_toArray, List.set_cons_zero, List.set_cons_succ])
  refine wpAnyE_dag (U := [8, 9, 10, 11, 12, 13, 14, 15, 16, 17]) (tmp := shT) (pre := c3P 8) (T := fun w' => Below w5.heap.size w5 w') (N := fun _ _ => True) (G := c3G 8 w5.heap.size 63 33) (R := c3R 8 w5.heap.size 63 33 outZ #[.slice none 0 0] (AlX 1 true 0 3 [] M1 5)) (by kernel_rfl) (fun _ _ => rfl) (fun w2 h => h) (Below.refl _ _) (fun i hi w3 w4 h1 h2 => c3T_keep h1 h2) (fun _ _ => trivial) (fun _ _ _ _ _ _ _ _ _ _ => trivial)
    (fun i hi j hj hij vals v u w3 w4 hT hvi hvj hp hr hg => c3R_keep (by decide) alX_keep hij hvi hvj hr hg) (fun i hi o ho vals w3 K hvn hT _ hpre hK => ?_) 0 (fun vals w9 hall hT => ?_)
  · simp only [List.mem_cons, List.not_mem_nil, or_false] at hi
    rcases hi with rfl | rfl | rfl | rfl | rfl | rfl | rfl | rfl | rfl | rfl
    · obtain rfl := Option.some.inj ho
      simp only [show c3P 8 8 = [] from rfl, actOf] at hK ⊢
      go_simp
      (with_reducible refine (alone_nil l 0 1 0 0 l.free M0 73 5 1 true 0 3 [] (some ⟨gm, 0, none⟩) cm _ HL.out.2.1 HSE.out.1 HSE.out.2 HL.out.2.2.1.1 HL.out.2.2.2.2.2.1.2.1 (by omega) (HSL.out.keepb hT)).mono ?_)
      rintro e w6 ⟨A, c, G, n, c', rfl, hg, hown, hb⟩
      have hM := HL.out.2.2.2.2.2.2.2.1
      rw [hM] at hown ⊢
      exact hK _ _ ⟨_, _, _, rfl, A, c, G, n, c', ⟨rfl, rfl, rfl⟩, hg, own_lower (hown (by omega)) (Nat.zero_le _)⟩ hb
    · obtain rfl := Option.some.inj ho
      obtain ⟨v0, e0, d1, d2, d3, rfl, hX0⟩ := hpre 8 (by simp [c3P])
      simp only [show c3P 8 9 = [8] from rfl, actOf, e0, shT] at hK ⊢
      go_simp
      exact hK _ _ ⟨d1, d2, d3, rfl, by simp only [upd]; exact e0⟩ (Below.refl _ _)
    · obtain rfl := Option.some.inj ho
      obtain ⟨v1, e1, d1, d2, d3, rfl, e0⟩ := hpre 9 (by simp [c3P])
      simp only [show c3P 8 10 = [9] from rfl, actOf, e1, shT] at hK ⊢
      go_simp
      exact hK _ _ ⟨d1, d2, d3, by simp only [upd]; exact e0, rfl⟩ (Below.refl _ _)
    · obtain rfl := Option.some.inj ho
      obtain ⟨v1, e1, d1, d2, d3, rfl, e0⟩ := hpre 9 (by simp [c3P])
      simp only [show c3P 8 11 = [9] from rfl, actOf, e1, shT] at hK ⊢
      go_simp
      exact hK _ _ ⟨d1, d2, d3, by simp only [upd]; exact e0, rfl⟩ (Below.refl _ _)
    · obtain rfl := Option.some.inj ho
      obtain ⟨v1, e1, d1, d2, d3, rfl, e0⟩ := hpre 9 (by simp [c3P])
      simp only [show c3P 8 12 = [9] from rfl, actOf, e1, shT] at hK ⊢
      go_simp
      exact hK _ _ ⟨d1, d2, d3, by simp only [upd]; exact e0, rfl⟩ (Below.refl _ _)
    · obtain rfl := Option.some.inj ho
      simp only [show c3P 8 13 = [] from rfl, actOf] at hK ⊢
      go_simp
      exact hK _ _ ⟨_, rfl, hT.size, fun _ => Bk.made _ _ _⟩ (below_al (Below.refl _ _) _)
    · obtain rfl := Option.some.inj ho
      simp only [show c3P 8 14 = [] from rfl, actOf] at hK ⊢
      go_simp
      exact hK _ _ ⟨_, rfl, hT.size, fun _ => Bk.made _ _ _⟩ (below_al (Below.refl _ _) _)
    · obtain rfl := Option.some.inj ho
      obtain ⟨v0, e0, d1, d2, d3, rfl, hX0⟩ := hpre 8 (by simp [c3P])
      obtain ⟨v2, e2, f1, f2, f3, e2', rfl⟩ := hpre 10 (by simp [c3P])
      rw [e0] at e2'
      obtain ⟨rfl, rfl, rfl⟩ := tup3_inj e2'
      obtain ⟨v5, e5, ga, rfl, hga, k5⟩ := hpre 13 (by simp [c3P])
      have ka := k5 hvn
      obtain ⟨AM, cM, G4, n4, c4, ⟨rfl, rfl, rfl⟩, hg4, hown5⟩ := hX0
      simp only [show c3P 8 15 = [8, 10, 13] from rfl, actOf, e0, e2, e5, shT] at hK ⊢
      (try simp only [List.getElem_toArray, List.getElem_cons_succ, List.getElem_cons_zero])
      refine wp_store_row 63 (.tmp 4) (.tmp 36) rfl ga _ rfl rfl 63 outZ ka (by kernel_rfl) rfl (by simp [Value.oneCell']) ?_
      exact hK undef _ ⟨ga, _, _, _, by simp only [upd]; exact e0, by simp only [upd]; exact e5, hga, setRow_heap _ _ _ _ _ _ ka⟩ ⟨keptT_row ka, below_setRowB' hga _⟩
    · obtain rfl := Option.some.inj ho
      obtain ⟨v0, e0, d1, d2, d3, rfl, hX0⟩ := hpre 8 (by simp [c3P])
      obtain ⟨v2, e2, f1, f2, f3, e2', rfl⟩ := hpre 11 (by simp [c3P])
      rw [e0] at e2'
      obtain ⟨rfl, rfl, rfl⟩ := tup3_inj e2'
      obtain ⟨v5, e5, ga, rfl, hga, k5⟩ := hpre 14 (by simp [c3P])
      have ka := k5 hvn
      obtain ⟨AM, cM, G4, n4, c4, ⟨rfl, rfl, rfl⟩, hg4, hown5⟩ := hX0
      simp only [show c3P 8 16 = [8, 11, 14] from rfl, actOf, e0, e2, e5, shT] at hK ⊢
      (try simp only [List.getElem_toArray, List.getElem_cons_succ, List.getElem_cons_zero])
      refine wp_store_row 33 (.tmp 5) (.tmp 37) rfl ga _ rfl rfl 33 #[.slice none 0 0] ka (by kernel_rfl) rfl (by simp [Value.oneCell']) ?_
      exact hK undef _ ⟨ga, _, _, _, by simp only [upd]; exact e0, by simp only [upd]; exact e5, hga, setRow_heap _ _ _ _ _ _ ka⟩ ⟨keptT_row ka, below_setRowB' hga _⟩
    · obtain rfl := Option.some.inj ho
      obtain ⟨v4, e4, f1, f2, f3, e4', rfl⟩ := hpre 12 (by simp [c3P])
      simp only [show c3P 8 17 = [12] from rfl, actOf, e4, shT] at hK ⊢
      go_simp
      exact hK _ _ ⟨_, _, _, by simp only [upd]; exact e4', rfl⟩ (Below.refl _ _)
  obtain ⟨v0, e0, d1, d2, d3, rfl, hX0⟩ := hall 8 (by simp)
  obtain ⟨v1, e1, f1, f2, f3, rfl, e1'⟩ := hall 9 (by simp)
  rw [e0] at e1'
  obtain ⟨rfl, rfl, rfl⟩ := tup3_inj e1'
  obtain ⟨v2, e2, f1, f2, f3, e2', rfl⟩ := hall 10 (by simp)
  rw [e0] at e2'
  obtain ⟨rfl, rfl, rfl⟩ := tup3_inj e2'
  obtain ⟨v3, e3, f1, f2, f3, e2', rfl⟩ := hall 11 (by simp)
  rw [e0] at e2'
  obtain ⟨rfl, rfl, rfl⟩ := tup3_inj e2'
  obtain ⟨v4, e4, f1, f2, f3, e2', rfl⟩ := hall 12 (by simp)
  rw [e0] at e2'
  obtain ⟨rfl, rfl, rfl⟩ := tup3_inj e2'
  obtain ⟨v5, e5, ga0, rfl, hga0, -⟩ := hall 13 (by simp)
  obtain ⟨v6, e6, ga1, rfl, hga1, -⟩ := hall 14 (by simp)
  obtain ⟨v7, e7, gb0, f1, f2, f3, e2', e3', -, kb0⟩ := hall 15 (by simp)
  rw [e0] at e2'
  obtain ⟨rfl, rfl, rfl⟩ := tup3_inj e2'
  rw [e5] at e3'
  obtain rfl := ptr_inj e3'
  obtain ⟨v8, e8, gb1, f1, f2, f3, e2', e3', -, kb1⟩ := hall 16 (by simp)
  rw [e0] at e2'
  obtain ⟨rfl, rfl, rfl⟩ := tup3_inj e2'
  rw [e6] at e3'
  obtain rfl := ptr_inj e3'
  obtain ⟨v9, e9, f1, f2, f3, e2', rfl⟩ := hall 17 (by simp)
  rw [e0] at e2'
  obtain ⟨rfl, rfl, rfl⟩ := tup3_inj e2'
  clear hall
  refine wpAnyE_done (by simp only [lstOf, e0, e1, e2, e3, e4, e5, e6, e7, e8, e9, Option.isSome_some, if_true]; kernel_rfl) ?_ _
  simp only [actOf, e0, e1, e2, e3, e4, e5, e6, e7, e8, e9, shT]
  clear e0 e1 e2 e3 e4 e5 e6 e7 e8 e9
  (try simp only [Act.put, List.setIfInBounds_toArray, List.set_cons_zero, List.set_cons_succ, List.set_nil])
  obtain ⟨AM, cM, G4, n4, c4, ⟨rfl, rfl, rfl⟩, hg4, hown5⟩ := hX0
  have hM1 : M1.length = 73 := HL.out.2.2.2.2.2.1.2.2
  have hsl := sl_own0 hown5 hM1
  rw [hM1] at kb1
  have hb5 := below_tr hbl hT
  replace kL := kL.keep hT
  clear hown5 hM1 hT hg4 hbl c0 lT HSL
  have zA : ga0 ≠ ga1 := bk_neT kb0 kb1 (by decide)
  go_wp2_with (first
    | (refine wpList_load_row rfl 40 (.tmp 2) rfl bL rfl 40 (lyC l) (0, 0) _ kL Try.underlying40 rfl (by kernel_rfl) ?_)
    | (refine wpList_load_row rfl 33 (.tmp 5) rfl ga1 rfl 33 #[.slice AM 73 cM] (0, 0) _ kb1 Try.underlying33 rfl (by kernel_rfl) ?_))
  (with_reducible refine (alone_nil l 0 2 0 0 0 M1 73 3 0 true 0 2 [] AM cM _ HL.out.2.1 HSE.out.1 HSE.out.2 HL.out.2.2.1.2.1 HL.out.2.2.2.2.2.1.2.2 (by omega) hsl).mono ?_)
  rintro e wA ⟨A2, c2, G5, n5, c5, rfl, -, -, hb⟩
  obtain ⟨N2, hN2⟩ : ∃ z, (aloneS l 0 [] ⟨2, 0, 0, 0⟩ M1 3).1.length = z := ⟨_, rfl⟩
  rw [hN2]
  clear hN2
  replace kL := kL.keep hb
  replace kb0 := kb0.keep hb
  replace kb1 := kb1.keep hb
  replace hsl := hsl.keepb hb
  replace hb5 := below_tr hb5 hb
  clear hb
  have n1 := (Bk.made wA 63 outZ).alloc (.cells #[.slice none 0 0] 33)
  have n2 := Bk.new (wA.alloc (.cells outZ 63)) (g := wA.heap.size + 1) (by simp) 33 #[.slice none 0 0]
  have n3 : Bk (((wA.alloc (.cells outZ 63)).alloc (.cells #[.slice none 0 0] 33)).setRow wA.heap.size (outG 0 true 0 2 (.slice G5 n5 c5))) (wA.heap.size + 1) 33 #[.slice none 0 0] := (setRow_other _ _ _ _ (by omega)).trans n2
  have f1 : Bk ((((wA.alloc (.cells outZ 63)).alloc (.cells #[.slice none 0 0] 33)).setRow wA.heap.size (outG 0 true 0 2 (.slice G5 n5 c5))).setRow (wA.heap.size + 1) #[.slice A2 N2 c2]) wA.heap.size 63 (outG 0 true 0 2 (.slice G5 n5 c5)) := (setRow_other _ _ _ _ (by omega)).trans (setRow_heap _ _ outZ (outG 0 true 0 2 (.slice G5 n5 c5)) 63 (0, 0) n1)
  have f2 : Bk ((((wA.alloc (.cells outZ 63)).alloc (.cells #[.slice none 0 0] 33)).setRow wA.heap.size (outG 0 true 0 2 (.slice G5 n5 c5))).setRow (wA.heap.size + 1) #[.slice A2 N2 c2]) (wA.heap.size + 1) 33 #[.slice A2 N2 c2] := setRow_heap _ _ #[.slice none 0 0] #[.slice A2 N2 c2] 33 (0, 0) n3
  have hbb : Below wA.heap.size wA ((((wA.alloc (.cells outZ 63)).alloc (.cells #[.slice none 0 0] 33)).setRow wA.heap.size (outG 0 true 0 2 (.slice G5 n5 c5))).setRow (wA.heap.size + 1) #[.slice A2 N2 c2]) := (((below_al (below_al (Below.refl _ _) _) _).trans (below_setRow0 (Nat.le_refl _) _)).trans (below_setRow0 (Nat.le_succ _) _))
  have kLx := kL.keep hbb
  have kb0x := kb0.keep hbb
  have kb1x := kb1.keep hbb
  have hslx := hsl.keepb hbb
  have hb5x := below_tr hb5 hbb
  have HG5 := Lib.hid (And.intro f1 (And.intro f2 (And.intro kLx (And.intro kb0x (And.intro kb1x (And.intro hslx hb5x))))))
  clear f1 f2 hbb n2 kLx kb0x kb1x hslx hb5x kL kb0 kb1 hsl hb5
  go_upto_region 6 with (first
    | (refine wpList_store_rowTo rfl 63 (.tmp 7) (.tmp 44) rfl rfl wA.heap.size (outG 0 true 0 2 (.slice G5 n5 c5)) rfl rfl 63 outZ n1 (by kernel_rfl) rfl (by simp [Value.oneCell']) ?_)
    | (refine wpList_store_rowTo rfl 33 (.tmp 8) (.tmp 45) rfl rfl (wA.heap.size + 1) #[.slice A2 N2 c2] rfl rfl 33 #[.slice none 0 0] n3 (by kernel_rfl) rfl (by simp [Value.oneCell']) ?_))
  clear n1 n3
  obtain ⟨f1, f2, kL, kb0, kb1, hsl, hb5⟩ := HG5.out
  clear HG5
  show Code.wp Try.prog _ _ _ ((((wA.alloc (.cells outZ 63)).alloc (.cells #[.slice none 0 0] 33)).setRow wA.heap.size (outG 0 true 0 2 (.slice G5 n5 c5))).setRow (wA.heap.size + 1) #[.slice A2 N2 c2])
  generalize ((((wA.alloc (.cells outZ 63)).alloc (.cells #[.slice none 0 0] 33)).setRow wA.heap.size (outG 0 true 0 2 (.slice G5 n5 c5))).setRow (wA.heap.size + 1) #[.slice A2 N2 c2]) = wB at *
  clear f1 f2
  generalize wA.heap.size + 1 = g8 at *
  generalize wA.heap.size = g7 at *
  go_wp2_with (first
    | (refine wpList_load_row rfl 40 (.tmp 2) rfl bL rfl 40 (lyC l) (0, 0) _ kL Try.underlying40 rfl (by kernel_rfl) ?_)
    | (refine wpList_load_row rfl 33 (.tmp 5) rfl ga1 rfl 33 #[.slice AM 73 cM] (0, 0) _ kb1 Try.underlying33 rfl (by kernel_rfl) ?_))
  (with_reducible refine (alone_nil l 1 3 0 2 0 M1 73 2 0 true 0 1 [(2, 1)] AM cM _ HL.out.2.1 HSE.out.1 HSE.out.2 HL.out.2.2.1.2.2 HL.out.2.2.2.2.2.1.2.2 (by omega) hsl).mono ?_)
  rintro e wC ⟨A3, c3, G6, n6, c6, rfl, hg6, -, hb⟩
  obtain ⟨N3, hN3⟩ : ∃ z, (aloneS l 1 [] ⟨3, 0, 2, 0⟩ M1 2).1.length = z := ⟨_, rfl⟩
  rw [hN3]
  clear hN3 hsl
  replace kL := kL.keep hb
  replace kb0 := kb0.keep hb
  replace hb5 := below_tr hb5 hb
  clear hb kb1
  have n1 := (Bk.made wC 63 outZ).alloc (.cells #[.slice none 0 0] 33)
  have n2 := Bk.new (wC.alloc (.cells outZ 63)) (g := wC.heap.size + 1) (by simp) 33 #[.slice none 0 0]
  have n3 : Bk (((wC.alloc (.cells outZ 63)).alloc (.cells #[.slice none 0 0] 33)).setRow wC.heap.size (outG 0 true 0 1 (.slice G6 n6 c6))) (wC.heap.size + 1) 33 #[.slice none 0 0] := (setRow_other _ _ _ _ (by omega)).trans n2
  have f1 : Bk ((((wC.alloc (.cells outZ 63)).alloc (.cells #[.slice none 0 0] 33)).setRow wC.heap.size (outG 0 true 0 1 (.slice G6 n6 c6))).setRow (wC.heap.size + 1) #[.slice A3 N3 c3]) wC.heap.size 63 (outG 0 true 0 1 (.slice G6 n6 c6)) := (setRow_other _ _ _ _ (by omega)).trans (setRow_heap _ _ outZ (outG 0 true 0 1 (.slice G6 n6 c6)) 63 (0, 0) n1)
  have f2 : Bk ((((wC.alloc (.cells outZ 63)).alloc (.cells #[.slice none 0 0] 33)).setRow wC.heap.size (outG 0 true 0 1 (.slice G6 n6 c6))).setRow (wC.heap.size + 1) #[.slice A3 N3 c3]) (wC.heap.size + 1) 33 #[.slice A3 N3 c3] := setRow_heap _ _ #[.slice none 0 0] #[.slice A3 N3 c3] 33 (0, 0) n3
  have hbb : Below wC.heap.size wC ((((wC.alloc (.cells outZ 63)).alloc (.cells #[.slice none 0 0] 33)).setRow wC.heap.size (outG 0 true 0 1 (.slice G6 n6 c6))).setRow (wC.heap.size + 1) #[.slice A3 N3 c3]) := (((below_al (below_al (Below.refl _ _) _) _).trans (below_setRow0 (Nat.le_refl _) _)).trans (below_setRow0 (Nat.le_succ _) _))
  have kLx := kL.keep hbb
  have kb0x := kb0.keep hbb
  have hg6x := (hg6.mv fun b cs kb => kb.keep hbb : GoneOk ((((wC.alloc (.cells outZ 63)).alloc (.cells #[.slice none 0 0] 33)).setRow wC.heap.size (outG 0 true 0 1 (.slice G6 n6 c6))).setRow (wC.heap.size + 1) #[.slice A3 N3 c3]) (.slice G6 n6 c6) [(2, 1)])
  have hb5x := below_tr hb5 hbb
  have HG6 := Lib.hid (And.intro f1 (And.intro f2 (And.intro kLx (And.intro kb0x (And.intro hg6x hb5x)))))
  clear f1 f2 hbb n2 kLx kb0x hg6x hb5x kL kb0 hg6 hb5
  go_upto_region 7 with (first
    | (refine wpList_store_rowTo rfl 63 (.tmp 10) (.tmp 52) rfl rfl wC.heap.size (outG 0 true 0 1 (.slice G6 n6 c6)) rfl rfl 63 outZ n1 (by kernel_rfl) rfl (by simp [Value.oneCell']) ?_)
    | (refine wpList_store_rowTo rfl 33 (.tmp 11) (.tmp 53) rfl rfl (wC.heap.size + 1) #[.slice A3 N3 c3] rfl rfl 33 #[.slice none 0 0] n3 (by kernel_rfl) rfl (by simp [Value.oneCell']) ?_))
  clear n1 n3
  obtain ⟨f1, f2, kL, kb0, hg6, hb5⟩ := HG6.out
  clear HG6
  show Code.wp Try.prog _ _ _ ((((wC.alloc (.cells outZ 63)).alloc (.cells #[.slice none 0 0] 33)).setRow wC.heap.size (outG 0 true 0 1 (.slice G6 n6 c6))).setRow (wC.heap.size + 1) #[.slice A3 N3 c3])
  generalize ((((wC.alloc (.cells outZ 63)).alloc (.cells #[.slice none 0 0] 33)).setRow wC.heap.size (outG 0 true 0 1 (.slice G6 n6 c6))).setRow (wC.heap.size + 1) #[.slice A3 N3 c3]) = wD at *
  clear f2
  have kO := f1
  clear f1
  obtain ⟨gO, hgO⟩ : ∃ z, wC.heap.size = z := ⟨_, rfl⟩
  rw [hgO] at kO
  rw [hgO]
  clear hgO
  generalize gO + 1 = g11 at *
  go_wp2_with (refine wpList_load_row rfl 40 (.tmp 2) rfl bL rfl 40 (lyC l) (0, 0) _ kL Try.underlying40 rfl (by kernel_rfl) ?_)
  (with_reducible refine (next_nil l _ HL.out.2.1 HSE.out.1 HSE.out.2).mono ?_)
  rintro e wE hp
  rw [HL.out.2.2.2.1] at hp
  obtain ⟨G7, n7, c7, -, -, -, rfl, hb⟩ := hp
  replace kL := kL.keep hb
  replace kb0 := kb0.keep hb
  replace kO := kO.keep hb
  replace hg6 : GoneOk wE (.slice G6 n6 c6) [(2, 1)] := hg6.mv fun b cs kb => kb.keep hb
  replace hb5 := below_tr hb5 hb
  clear hb
  have n1 := (Bk.made wE 61 accZ).alloc (.cells outZ 63)
  have n2 := Bk.new (wE.alloc (.cells accZ 61)) (g := wE.heap.size + 1) (by simp) 63 outZ
  have n3 : Bk (((wE.alloc (.cells accZ 61)).alloc (.cells outZ 63)).setRow wE.heap.size accZ) (wE.heap.size + 1) 63 outZ := (setRow_other _ _ _ _ (by omega)).trans n2
  have f1 : Bk ((((wE.alloc (.cells accZ 61)).alloc (.cells outZ 63)).setRow wE.heap.size accZ).setRow (wE.heap.size + 1) (outG 0 false 1 (-1) (.slice G7 n7 c7))) wE.heap.size 61 accZ := (setRow_other _ _ _ _ (by omega)).trans (setRow_heap _ _ accZ accZ 61 (0, 0) n1)
  have f2 : Bk ((((wE.alloc (.cells accZ 61)).alloc (.cells outZ 63)).setRow wE.heap.size accZ).setRow (wE.heap.size + 1) (outG 0 false 1 (-1) (.slice G7 n7 c7))) (wE.heap.size + 1) 63 (outG 0 false 1 (-1) (.slice G7 n7 c7)) := setRow_heap _ _ outZ (outG 0 false 1 (-1) (.slice G7 n7 c7)) 63 (0, 0) n3
  have hbb : Below wE.heap.size wE ((((wE.alloc (.cells accZ 61)).alloc (.cells outZ 63)).setRow wE.heap.size accZ).setRow (wE.heap.size + 1) (outG 0 false 1 (-1) (.slice G7 n7 c7))) := (((below_al (below_al (Below.refl _ _) _) _).trans (below_setRow0 (Nat.le_refl _) _)).trans (below_setRow0 (Nat.le_succ _) _))
  have kLx := kL.keep hbb
  have kb0x := kb0.keep hbb
  have kOx := kO.keep hbb
  have hg6x := (hg6.mv fun b cs kb => kb.keep hbb : GoneOk ((((wE.alloc (.cells accZ 61)).alloc (.cells outZ 63)).setRow wE.heap.size accZ).setRow (wE.heap.size + 1) (outG 0 false 1 (-1) (.slice G7 n7 c7))) (.slice G6 n6 c6) [(2, 1)])
  have hb5x := below_tr hb5 hbb
  have HG7 := Lib.hid (And.intro f1 (And.intro f2 (And.intro kLx (And.intro kb0x (And.intro kOx (And.intro hg6x hb5x))))))
  clear f1 f2 hbb n2 kLx kb0x kOx hg6x hb5x kL kb0 kO hg6 hb5
  go_upto_region 8 with (first
    | (refine wpList_store_rowTo rfl 61 (.tmp 13) (.tmp 59) rfl rfl wE.heap.size accZ rfl rfl 61 accZ n1 (by kernel_rfl) rfl (by simp [Value.oneCell']) ?_)
    | (refine wpList_store_rowTo rfl 63 (.tmp 14) (.tmp 60) rfl rfl (wE.heap.size + 1) (outG 0 false 1 (-1) (.slice G7 n7 c7)) rfl rfl 63 outZ n3 (by kernel_rfl) rfl (by simp [Value.oneCell']) ?_))
  clear n1 n3
  obtain ⟨f1, f2, kL, kb0, kO, hg6, hb5⟩ := HG7.out
  clear HG7
  show Code.wp Try.prog _ _ _ ((((wE.alloc (.cells accZ 61)).alloc (.cells outZ 63)).setRow wE.heap.size accZ).setRow (wE.heap.size + 1) (outG 0 false 1 (-1) (.slice G7 n7 c7)))
  generalize ((((wE.alloc (.cells accZ 61)).alloc (.cells outZ 63)).setRow wE.heap.size accZ).setRow (wE.heap.size + 1) (outG 0 false 1 (-1) (.slice G7 n7 c7))) = wF at *
  clear f1
  have kE := f2
  clear f2
  obtain ⟨gE, hgE⟩ : ∃ z, wE.heap.size + 1 = z := ⟨_, rfl⟩
  rw [hgE] at kE
  rw [hgE]
  clear hgE
  generalize wE.heap.size = g13 at *
  go_wp2_with fail
  have r1 := ((Bk.made wF 5 #[.int .u8 0, .int .u8 2, .int .u8 4]).alloc (.cells #[.int .u8 1] 5)).alloc (.cells #[.slice (some ⟨wF.heap.size, 0, none⟩) 3 3, .slice (some ⟨wF.heap.size + 1, 0, none⟩) 1 1] 23)
  have r2 := (Bk.new (wF.alloc (.cells #[.int .u8 0, .int .u8 2, .int .u8 4] 5)) (g := wF.heap.size + 1) (by simp) 5 #[.int .u8 1]).alloc (.cells #[.slice (some ⟨wF.heap.size, 0, none⟩) 3 3, .slice (some ⟨wF.heap.size + 1, 0, none⟩) 1 1] 23)
  have r3 := Bk.new ((wF.alloc (.cells #[.int .u8 0, .int .u8 2, .int .u8 4] 5)).alloc (.cells #[.int .u8 1] 5)) (g := wF.heap.size + 1 + 1) (by simp) 23 #[.slice (some ⟨wF.heap.size, 0, none⟩) 3 3, .slice (some ⟨wF.heap.size + 1, 0, none⟩) 1 1]
  have hba : Below wF.heap.size wF (((wF.alloc (.cells #[.int .u8 0, .int .u8 2, .int .u8 4] 5)).alloc (.cells #[.int .u8 1] 5)).alloc (.cells #[.slice (some ⟨wF.heap.size, 0, none⟩) 3 3, .slice (some ⟨wF.heap.size + 1, 0, none⟩) 1 1] 23)) := below_al (below_al (below_al (Below.refl _ _) _) _) _
  replace kL := kL.keep hba
  replace kb0 := kb0.keep hba
  replace kO := kO.keep hba
  replace kE := kE.keep hba
  replace hg6 : GoneOk (((wF.alloc (.cells #[.int .u8 0, .int .u8 2, .int .u8 4] 5)).alloc (.cells #[.int .u8 1] 5)).alloc (.cells #[.slice (some ⟨wF.heap.size, 0, none⟩) 3 3, .slice (some ⟨wF.heap.size + 1, 0, none⟩) 1 1] 23)) (.slice G6 n6 c6) [(2, 1)] := hg6.mv fun b cs kb => kb.keep hba
  replace hb5 := below_tr hb5 hba
  clear hba
  generalize (((wF.alloc (.cells #[.int .u8 0, .int .u8 2, .int .u8 4] 5)).alloc (.cells #[.int .u8 1] 5)).alloc (.cells #[.slice (some ⟨wF.heap.size, 0, none⟩) 3 3, .slice (some ⟨wF.heap.size + 1, 0, none⟩) 1 1] 23)) = wG at *
  generalize wF.heap.size + 1 + 1 = x3 at *
  generalize wF.heap.size + 1 = x2 at *
  generalize wF.heap.size = x1 at *
  have hW : SlU8s wG wG.heap.size (some ⟨x3, 0, none⟩) [[0, 2, 4], [1]] := by
    intro _
    refine ⟨_, 0, rfl, r3.lt, fun k xs hk => ?_⟩
    have hk0 : k = 0 ∨ k = 1 := by have := (List.getElem?_eq_some_iff.1 hk).1; simp at this; omega
    rcases hk0 with rfl | rfl
    · simp at hk
      subst hk
      refine ⟨_, 3, by rw [r3.cell]; rfl, fun _ => ⟨_, 0, rfl, r1.lt, fun j t hj => ?_⟩⟩
      have hj4 : j = 0 ∨ j = 1 ∨ j = 2 := by have := (List.getElem?_eq_some_iff.1 hj).1; simp at this; omega
      rcases hj4 with rfl | rfl | rfl <;> (simp at hj; subst hj; exact ⟨by rw [r1.cell]; rfl, by omega⟩)
    · simp at hk
      subst hk
      refine ⟨_, 1, by rw [r3.cell]; rfl, fun _ => ⟨_, 0, rfl, r2.lt, fun j t hj => ?_⟩⟩
      have hj4 : j = 0 := by have := (List.getElem?_eq_some_iff.1 hj).1; simp at this; omega
      subst hj4
      simp at hj
      subst hj
      exact ⟨by rw [r2.cell]; rfl, by omega⟩
  (with_reducible refine (HPL.out.1 (some ⟨x3, 0, none⟩) none _ hW (by unfold SlU8; intro h; simp at h)).mono ?_)
  rintro e wH ⟨gt2, gs2, rfl, -, -, hx, hb⟩
  rw [HL.out.2.2.2.2.2.2.2.2] at hx
  replace kL := kL.keep hb
  replace kb0 := kb0.keep hb
  replace kO := kO.keep hb
  replace kE := kE.keep hb
  replace hg6 : GoneOk wH (.slice G6 n6 c6) [(2, 1)] := hg6.mv fun b cs kb => kb.keep hb
  replace hb5 := below_tr hb5 hb
  clear hb hW r1 r2 r3
  obtain ⟨gm3, cm3, cc3, kT, hmo⟩ := hx.mem
  have hend := HL.out.2.2.2.2.1
  obtain ⟨hl1, hl2, hl3, hl4⟩ := hend
  have hlay := HL.out.2.2.2.2.2.1.1
  have hsz : l.size.toNat = 73 := by omega
  obtain ⟨b3, o3, e3, hb3, hc3⟩ := own_slInt hmo rfl (by rw [hl1, hsz]; omega)
  injection e3 with e3
  injection e3 with e3 e4
  subst e3 e4
  have he2 : l.era.toNat = 2 := by omega
  have hv := hc3 2 3 (by
    rw [he2, List.getD_eq_getElem?_getD] at hl4
    cases q : shR.m[2]? with
    | none => rw [q] at hl4; simp at hl4
    | some z => rw [q] at hl4; simp at hl4; rw [hl4])
  have t0 := kT.cell 0
  have t1 := kT.cell 1
  have t2 := kT.cell 2
  simp at t0 t1 t2
  rw [hl1, hsz] at t0
  rw [hl2] at t1
  rw [hl3] at t2
  have lT := kT.lt
  have q11 := kL.cell 11
  simp at q11
  rw [hlay.2.1] at q11
  have lL := kL.lt
  obtain ⟨rfl, bP, oP, rfl, lP, hp0, hp1⟩ := pair_at hg6
  have a0 := kb0.cell 0
  have a1 := kb0.cell 1
  have a3 := kb0.cell 3
  have lA := kb0.lt
  have d3 := kO.cell 3
  have d4 := kO.cell 4
  have lO := kO.lt
  have g2 := kE.cell 2
  have lE := kE.lt
  simp at a0 a1 a3 d3 d4 g2
  have heq := eq_pair 2 1 2 1
  have HBB := Lib.hid hb5
  have hpair : ∀ (j : Nat) (v : Value), #[Value.int .i64 2, Value.int .i64 1][j]? = some v → wH.cell? ⟨bP, oP + j, none⟩ = some v := by
    intro j v hj
    have hj2 : j = 0 ∨ j = 1 := by have := (Array.getElem?_eq_some_iff.1 hj).1; simp at this; omega
    rcases hj2 with rfl | rfl
    · simp at hj; subst hj; exact hp0
    · simp at hj; subst hj; exact hp1
  have HPR := Lib.hid hpair
  clear hl1 hl2 hl3 hl4 hlay hsz hc3 he2 kT hmo hx kL kb0 kO kE hg6 hb5 hpair HL HPL
  go_upto_region 11 with fail
  go_quiet (fail)
  go_wp2_with fail
  go_ret
  exact ⟨rfl, below_dn HBB.out _⟩
end Go.Proofs.Ytgjdjgainjedhaa
