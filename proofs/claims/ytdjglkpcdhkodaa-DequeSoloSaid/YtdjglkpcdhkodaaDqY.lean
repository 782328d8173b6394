/- law18's played. Printed by dqplayed_gen.py. -/
import Derived.Test.YtdjglkpcdhkodaaDqU
import Derived.Test.YtdjglkpcdhkodaaDqE
import Derived.Test.YtdjglkpcdhkodaaMemN
namespace Go.Proofs.Ytdjglkpcdhkodaa
open Go.RowKit
set_option linter.unusedVariables false
attribute [local go_sem ↓] Go.wp_at_zero Go.wp_at_succ

theorem playL_size (tk : Int) (h0 : 0 ≤ tk) : (playL tk).size = ((playL tk).size.toNat : Int) ∧ DLay (playL tk) (playL tk).size.toNat ∧ DqLy (playL tk) := by
  have m0 : 0 ≤ tk % 16 := Int.emod_nonneg _ (by omega)
  have m1 : tk % 16 < 16 := Int.emod_lt_of_pos _ (by omega)
  have hc : (playL tk).c.tasks = 1 + tk % 16 := rfl
  have hs : (playL tk).c.seats = 3 := rfl
  have hd : (playL tk).deque = 19 := by simp [playL, lyOf, playCf]
  have hr : (playL tk).ring = 28 := by simp [playL, lyOf, playCf]
  have hz : (playL tk).size = 28 + 3 * aheadN (ringsN (1 + tk % 16)) + (1 + tk % 16) * 4 := by simp [playL, lyOf, playCf]
  have hrc := rings_cases (t := 1 + tk % 16) (by omega) (by omega)
  have ha : 0 ≤ aheadN (ringsN (1 + tk % 16)) ∧ aheadN (ringsN (1 + tk % 16)) ≤ 28 := by rcases hrc with ⟨_, e⟩ | ⟨_, e⟩ | ⟨_, e⟩ <;> omega
  have hnn : (playL tk).size = ((playL tk).size.toNat : Int) := by omega
  refine ⟨hnn, ⟨hd, hs, hr, by rw [hc]; omega, by rw [hc]; omega⟩, ⟨⟨by rw [hc]; omega, by rw [hc]; omega, by rw [hs]; omega, by rw [hs]; omega, by rw [hr]; omega, by rw [hr]; omega⟩, by rw [hs]; omega, by rw [hd]; omega⟩⟩
section
variable {l : Ly} {sz : Nat} {pl : PlayD} {row0 : List Int} {n : Nat} {t : TabD} {who : Nat}
/-- What a turn needs. -/
theorem DI.tok (h : DI l sz pl row0 n t) (ly : DLay l sz) (ho : pl.own.length ≤ 900) (hw : who < 3) (hn : n ≤ 90000) : TOk t who := by
  have hs := h.sk who hw
  have hl : lim pl who ≤ 900 := by unfold lim; split <;> omega
  have h1 := h.st
  have h2 := h.dn
  have h3 := ly.big
  refine ⟨by rw [h.ml]; omega, by omega, by have := hs.ll; omega, fun k x hx => ?_, by have := hs.nx; omega, by omega, ?_⟩
  · have := hs.lg x (List.mem_of_getElem? hx); omega
  · rcases hs.kd with h1 | ⟨_, h1⟩ | ⟨_, h1⟩
    · exact .inl h1
    · exact .inr ⟨by omega, hs.ob (by omega)⟩
    · exact .inr ⟨by omega, hs.ob (by omega)⟩
/-- A turn's contract, by what holds of the run. -/
theorem turn_call (h : DI l sz pl row0 n t) (ly : DLay l sz) (f : DqLy l) (ho : pl.own.length ≤ 900) (hw : who < 3) (hn : n ≤ 90000) {B gt : Nat} (O : Option Addr) (co : Nat) (tk : Int) (T : Option Addr) (m d : Nat) (w : World) (hT : TRep w B gt t) (hO : SlU8 w w.heap.size O pl.own) (h1 : pl.s1 < 256) (h2 : pl.s2 < 256) :
    Calls Try.prog 18 #[ptr gt, .agg (lyC l), .agg (playC O pl.own.length co pl.s1 pl.s2 tk T m d), .int .i64 (who : Nat)] w (UnitStep B gt (turnD l pl who t) w) :=
  dturn_any l pl B gt t O co tk T m d who w f hT (h.tok ly ho hw hn) hO hw h1 h2 (h.turn ly ho hw).2
end
/-- The table behind a play. -/
def endD (l : Ly) (p : PlayD) (turns : List Nat) : TabD := runD l p (tab0 l.size.toNat) (turns.map (· % 3) ++ tailW 900)
def PlayedPost (t : TabD) (w : World) (e : Ending) (w' : World) : Prop := ∃ gt, e = .returned (ptr gt) ∧ TRep w' w.heap.size gt t ∧ Below w.heap.size w w'
/-- So far. -/
structure PlR (B gt bL bP : Nat) (l : Ly) (pc : Array Value) (p : PlayD) (O : Option Addr) (ws : List Nat) (w wr : World) : Prop where
  tr : TRep wr B gt (runD l p (tab0 l.size.toNat) ws)
  kL : Bk wr bL 31 (lyC l)
  kP : Bk wr bP 25 pc
  bl : Below w.heap.size w wr
theorem PlR.step {B gt bL bP : Nat} {l : Ly} {pc : Array Value} {p : PlayD} {O : Option Addr} {ws : List Nat} {who : Nat} {w wr w' : World} (h : PlR B gt bL bP l pc p O ws w wr) (hB : B = w.heap.size) (hT : TRep w' B gt (turnD l p who (runD l p (tab0 l.size.toNat) ws))) (hs : TStp B wr w') : PlR B gt bL bP l pc p O (ws ++ [who]) w w' :=
  ⟨by rw [runD_snoc]; exact hT, hs.keep h.kL (by decide) (by decide), hs.keep h.kP (by decide) (by decide), by have := hs.below; rw [hB] at this; exact h.bl.trans this⟩
theorem PlR.keep {B gt bL bP : Nat} {l : Ly} {pc : Array Value} {p : PlayD} {O : Option Addr} {ws : List Nat} {w wr w' : World} (h : PlR B gt bL bP l pc p O ws w wr) (hb : Below wr.heap.size wr w') : PlR B gt bL bP l pc p O ws w w' :=
  ⟨h.tr.keep hb, h.kL.keep hb, h.kP.keep hb, below_tr h.bl hb⟩
def P1 (B gt bL bP : Nat) (l : Ly) (pc : Array Value) (p : PlayD) (O : Option Addr) (turns : List Nat) (w : World) (i : Value) (wr : World) : Prop :=
  ∃ k : Nat, k ≤ turns.length ∧ i = .int .i64 k ∧ PlR B gt bL bP l pc p O ((turns.take k).map (· % 3)) w wr
/-- All turns of the seats ahead of one. -/
def doneW (K who : Nat) : List Nat := (List.range who).flatMap fun k => List.replicate K k
def P2 (B gt bL bP : Nat) (l : Ly) (pc : Array Value) (p : PlayD) (O : Option Addr) (turns : List Nat) (w : World) (v : Value) (wr : World) : Prop :=
  ∃ who : Nat, who ≤ 3 ∧ v = .int .i64 who ∧ PlR B gt bL bP l pc p O (turns.map (· % 3) ++ doneW 900 who) w wr
def P3 (B gt bL bP : Nat) (l : Ly) (pc : Array Value) (p : PlayD) (O : Option Addr) (turns : List Nat) (who : Nat) (w : World) (i : Value) (wr : World) : Prop :=
  ∃ k : Nat, k ≤ 900 ∧ i = .int .i64 k ∧ PlR B gt bL bP l pc p O (turns.map (· % 3) ++ doneW 900 who ++ List.replicate k who) w wr
theorem doneW_succ (K who : Nat) : doneW K (who + 1) = doneW K who ++ List.replicate K who := by
  unfold doneW
  rw [List.range_succ, List.flatMap_append]
  simp
theorem doneW_three (K : Nat) : doneW K 3 = tailW K := by
  rw [doneW_succ, doneW_succ, doneW_succ]
  simp [doneW, tailW]
theorem doneW_in {K who : Nat} (h : who ≤ 3) : (∀ x ∈ doneW K who, x < 3) ∧ (doneW K who).length = who * K := by
  induction who with
  | zero => exact ⟨by simp [doneW], by simp [doneW]⟩
  | succ who ih =>
    obtain ⟨i1, i2⟩ := ih (by omega)
    rw [doneW_succ]
    refine ⟨fun x hx => ?_, ?_⟩
    · rcases List.mem_append.1 hx with hx | hx
      · exact i1 x hx
      · rw [List.mem_replicate] at hx; omega
    · rw [List.length_append, i2, List.length_replicate, Nat.succ_mul]
theorem mod3_in (turns : List Nat) : ∀ x ∈ turns.map (· % 3), x < 3 := by
  intro x hx
  obtain ⟨y, _, rfl⟩ := List.mem_map.1 hx
  exact Nat.mod_lt _ (by omega)
set_option maxRecDepth 1000000 in
set_option maxHeartbeats 8000000 in
theorem played_any (p : PlayD) (O : Option Addr) (co : Nat) (tk : Int) (T : Option Addr) (d : Nat) (turns : List Nat) (w : World) (ho : p.own.length ≤ 14) (hm : turns.length ≤ 300) (t0 : 0 ≤ tk) (t1 : tk < 256) (h1 : p.s1 < 256) (h2 : p.s2 < 256) (hO : SlU8 w w.heap.size O p.own) (hT : SlU8 w w.heap.size T turns) :
    Calls Try.prog 11 #[.agg (playC O p.own.length co p.s1 p.s2 tk T turns.length d)] w (PlayedPost (endD (playL tk) p turns) w) := by
  have kP := Bk.made w 25 (playC O p.own.length co p.s1 p.s2 tk T turns.length d)
  have hbl := below_al (Below.refl w.heap.size w) (.cells (playC O p.own.length co p.s1 p.s2 tk T turns.length d) 25)
  obtain ⟨hnn, ly, lf⟩ := playL_size tk t0
  have hLS := ly.big
  have HO := Lib.hid hO
  have HT := Lib.hid hT
  have HLY := Lib.hid (And.intro ly lf)
  clear hO hT ly lf
  go_enter Try.func11, Try.ntmps11
  go_upto_region 1 with fail
  generalize w.alloc (.cells (playC O p.own.length co p.s1 p.s2 tk T turns.length d) 25) = w1 at *
  obtain ⟨bP, hbP⟩ : ∃ g, w.heap.size = g := ⟨_, rfl⟩
  rw [hbP] at kP ⊢
  have zP : w.heap.size ≤ bP := by omega
  clear hbP
  go_wp2_with (refine wpList_load_row rfl 25 (.tmp 1) rfl bP rfl 25 (playC O p.own.length co p.s1 p.s2 tk T turns.length d) (0, 0) _ kP Try.underlying25 rfl (by kernel_rfl) ?_)
  (with_reducible refine (where_any O p.own.length co p.s1 p.s2 tk T turns.length d _ t0 t1).mono ?_)
  rintro e w2 ⟨rfl, hb⟩
  replace kP := kP.keep hb
  replace hbl := below_tr hbl hb
  clear hb
  obtain ⟨l, hl⟩ : ∃ l, playL tk = l := ⟨_, rfl⟩
  have HL := Lib.hid hl
  rw [hl] at hnn hLS HLY ⊢
  clear hl
  obtain ⟨N, hN⟩ : ∃ N, l.size.toNat = N := ⟨_, rfl⟩
  rw [hN] at hnn hLS HLY
  have HN := Lib.hid hN
  clear hN
  go_upto_region 2 with (refine wpList_store_new rfl 31 (.tmp 3) (.tmp 9) rfl rfl w2.heap.size _ _ (lyC l) rfl rfl rfl rfl (by kernel_rfl) rfl (by simp [Value.oneCell']) ?_)
  have kL := Bk.made w2 31 (lyC l)
  replace kP := kP.alloc (.cells (lyC l) 31)
  replace hbl := below_al hbl (.cells (lyC l) 31)
  generalize w2.alloc (.cells (lyC l) 31) = w3 at *
  generalize w2.heap.size = bL at *
  have c24 := kL.cell 24
  have lL := kL.lt
  simp at c24
  rw [hnn] at c24
  go_wp2_with fail
  (with_reducible refine (new_any N _ (by omega)).mono ?_)
  rintro e w4 ⟨g, rfl, hown, hb⟩
  have hw34 : w.heap.size ≤ w3.heap.size := hbl.size
  replace kP := kP.keep hb
  replace kL := kL.keep hb
  replace hbl := below_tr hbl hb
  have hown0 := own_lower hown (Nat.zero_le _)
  clear hb c24 lL hown
  go_upto_region 3 with fail
  have kt := Bk.made w4 46 (tabC (.slice (some ⟨g, 0, none⟩) N N) (fun _ => .slice none 0 0) (.slice none 0 0) (tab0 N))
  have hx : TabX (w4.alloc (.cells (tabC (.slice (some ⟨g, 0, none⟩) N N) (fun _ => .slice none 0 0) (.slice none 0 0) (tab0 N)) 46)) w.heap.size w4.heap.size (.slice (some ⟨g, 0, none⟩) N N) (.slice none 0 0) (fun _ => .slice none 0 0) (tab0 N) :=
    ⟨hbl.size, kt, ⟨g, N, by simp [tab0], by
      have h1 := World.ownsRow.alloc hown0 (.cells (tabC (.slice (some ⟨g, 0, none⟩) N N) (fun _ => .slice none 0 0) (.slice none 0 0) (tab0 N)) 46)
      simpa [OwnInts, tab0] using h1⟩, fun k _ => ⟨none, 0, rfl, World.ownsRow_nil _ _ _ _⟩, World.ownsRow_nil _ _ _ _⟩
  have htr : TRep (w4.alloc (.cells (tabC (.slice (some ⟨g, 0, none⟩) N N) (fun _ => .slice none 0 0) (.slice none 0 0) (tab0 N)) 46)) w.heap.size w4.heap.size (tab0 N) := ⟨_, _, _, hx⟩
  replace kP := kP.alloc (.cells (tabC (.slice (some ⟨g, 0, none⟩) N N) (fun _ => .slice none 0 0) (.slice none 0 0) (tab0 N)) 46)
  replace kL := kL.alloc (.cells (tabC (.slice (some ⟨g, 0, none⟩) N N) (fun _ => .slice none 0 0) (.slice none 0 0) (tab0 N)) 46)
  replace hbl := below_al hbl (.cells (tabC (.slice (some ⟨g, 0, none⟩) N N) (fun _ => .slice none 0 0) (.slice none 0 0) (tab0 N)) 46)
  have HX := Lib.hid (And.intro htr (And.intro kP (And.intro kL hbl)))
  clear htr hx kt kP kL hbl hown0
  show Code.wp Try.prog _ _ _ (w4.alloc (.cells (tabC (.slice (some ⟨g, 0, none⟩) N N) (fun _ => .slice none 0 0) (.slice none 0 0) (tab0 N)) 46))
  obtain ⟨htr, kP, kL, hbl⟩ := HX.out
  clear HX
  generalize w4.alloc (.cells (tabC (.slice (some ⟨g, 0, none⟩) N N) (fun _ => .slice none 0 0) (.slice none 0 0) (tab0 N)) 46) = w5 at *
  generalize w4.heap.size = gt at *
  rw [← HN.out] at htr
  have HR := Lib.hid (show PlR w.heap.size gt bL bP l (playC O p.own.length co p.s1 p.s2 tk T turns.length d) p O [] w w5 from ⟨htr, kL, kP, hbl⟩)
  have HDI : ∀ ws : List Nat, (∀ x ∈ ws, x < 3) → DI l N p [] (0 + ws.length) (runD l p (tab0 l.size.toNat) ws) := fun ws hws => by
    rw [HN.out]
    exact DI.run HLY.out.1 (by omega) ws (DI.begin HLY.out.1 p) hws
  have HD := Lib.hid HDI
  clear htr kL kP hbl HDI
  go_wp2_with fail
  go_loopw [5, 15, 16, 17, 18, 19, 20, 21, 22, 23, 24, 25, 26, 27, 28, 29, 30, 31, 32] (fun i _ _ _ _ _ _ _ _ _ _ _ _ _ _ _ _ _ _ wr => P1 w.heap.size gt bL bP l (playC O p.own.length co p.s1 p.s2 tk T turns.length d) p O turns w i wr) (fun i _ _ _ _ _ _ _ _ _ _ _ _ _ _ _ _ _ _ _ => turns.length - (intOf i).toNat)
  case atStart => exact ⟨0, Nat.zero_le _, rfl, HR.out⟩
  case round =>
    clear HR
    obtain ⟨k, hk, rfl, hr⟩ := hrel
    have q4 := hr.kP.cell 4
    have lP := hr.kP.lt
    simp at q4
    by_cases hlt : k < turns.length
    · obtain ⟨x, hx⟩ : ∃ x, turns[k]? = some x := ⟨_, List.getElem?_eq_getElem hlt⟩
      obtain ⟨bT, oT, hTA, hbT, hcT⟩ := HT.out (by omega)
      obtain ⟨cx, x256⟩ := hcT k x hx
      replace cx : wr.cell? ⟨bT, oT + k, none⟩ = some (.int .u8 (x : Nat)) := (hr.bl.cell (p := ⟨bT, _, none⟩) hbT).trans cx
      subst hTA
      have HRR := Lib.hid hr
      have HXX := Lib.hid hx
      have g1 : (k : Int) < turns.length := by omega
      clear hcT hx hr
      go_upto_region 6 with fail
      clear q4 lP
      refine wp_region_E (S := fun w' => TStp w.heap.size wr.drew w') (E := fun _ => false) (by kernel_rfl) ?_
      have hbd := below_drew' (Below.refl wr.heap.size wr)
      have hr := HRR.out.keep hbd
      replace cx := cell_keep hbd cx
      clear hbd HRR
      generalize wr.drew = v1 at *
      refine wpAnyE_take (i := 0) (oi := _) (v := .pointer (some ⟨gt, 0, none⟩)) rfl (by kernel_rfl) (by kernel_rfl) (by kernel_rfl) (by kernel_rfl) (fun _ _ _ h => h) (Or.inl ⟨by rfl, ?_⟩) (TStp.refl _ _) ?_
      · intro w' hSw
        (try simp only [List.getElem_toArray, List.getElem_cons_zero])
        go_simp
      (try simp only [List.getElem_toArray, List.getElem_cons_zero, Act.put, List.setIfInBounds_toArray, List.set_cons_zero, List.set_cons_succ])
      refine wpAnyE_take (i := 1) (oi := _) (v := .agg (lyC l)) rfl (by kernel_rfl) (by kernel_rfl) (by kernel_rfl) (by kernel_rfl) (fun _ _ _ h => h) (Or.inl ⟨by rfl, ?_⟩) (TStp.refl _ _) ?_
      · intro w' hSw
        (try simp only [List.getElem_toArray, List.getElem_cons_succ, List.getElem_cons_zero])
        simp only [execOp, Instr.loadAt, Instr.sureAddr, Sem.run_bind, Sem.run_pure]
        rw [show (Act.eval _ (Operand.tmp 3)) = Value.pointer (some ⟨bL, 0, none⟩) from rfl]
        simp only [Sem.run_pure, Result.andThen_ok, run_loadVar_row w' bL 31 31 (lyC l) (0, 0) _ (hSw.keep hr.kL (by decide) (by decide)) Try.underlying31 rfl (by kernel_rfl)]
      (try simp only [List.getElem_toArray, List.getElem_cons_succ, List.getElem_cons_zero, Act.put, List.setIfInBounds_toArray, List.set_cons_zero, List.set_cons_succ])
      refine wpAnyE_take (i := 2) (oi := _) (v := .agg (playC O p.own.length co p.s1 p.s2 tk (some ⟨bT, oT, none⟩) turns.length d)) rfl (by kernel_rfl) (by kernel_rfl) (by kernel_rfl) (by kernel_rfl) (fun _ _ _ h => h) (Or.inl ⟨by rfl, ?_⟩) (TStp.refl _ _) ?_
      · intro w' hSw
        (try simp only [List.getElem_toArray, List.getElem_cons_succ, List.getElem_cons_zero])
        simp only [execOp, Instr.loadAt, Instr.sureAddr, Sem.run_bind, Sem.run_pure]
        rw [show (Act.eval _ (Operand.tmp 1)) = Value.pointer (some ⟨bP, 0, none⟩) from rfl]
        simp only [Sem.run_pure, Result.andThen_ok, run_loadVar_row w' bP 25 25 (playC O p.own.length co p.s1 p.s2 tk (some ⟨bT, oT, none⟩) turns.length d) (0, 0) _ (hSw.keep hr.kP (by decide) (by decide)) Try.underlying25 rfl (by kernel_rfl)]
      (try simp only [List.getElem_toArray, List.getElem_cons_succ, List.getElem_cons_zero, Act.put, List.setIfInBounds_toArray, List.set_cons_zero, List.set_cons_succ])
      refine wpAnyE_take (i := 3) (oi := _) (v := .pointer (some ⟨bP, 4, none⟩)) rfl (by kernel_rfl) (by kernel_rfl) (by kernel_rfl) (by kernel_rfl) (fun _ _ _ h => h) (Or.inl ⟨by rfl, ?_⟩) (TStp.refl _ _) ?_
      · intro w' hSw
        (try simp only [List.getElem_toArray, List.getElem_cons_succ, List.getElem_cons_zero])
        go_simp
      (try simp only [List.getElem_toArray, List.getElem_cons_succ, List.getElem_cons_zero, Act.put, List.setIfInBounds_toArray, List.set_cons_zero, List.set_cons_succ])
      refine wpAnyE_take (i := 4) (oi := _) (v := .slice (some ⟨bT, oT, none⟩) turns.length d) rfl (by kernel_rfl) (by kernel_rfl) (by kernel_rfl) (by kernel_rfl) (fun _ _ _ h => h) (Or.inl ⟨by rfl, ?_⟩) (TStp.refl _ _) ?_
      · intro w' hSw
        have s1 := (hSw.keep hr.kP (by decide) (by decide)).cell 4
        (try simp at s1)
        (try simp only [List.getElem_toArray, List.getElem_cons_succ, List.getElem_cons_zero])
        go_simp
      (try simp only [List.getElem_toArray, List.getElem_cons_succ, List.getElem_cons_zero, Act.put, List.setIfInBounds_toArray, List.set_cons_zero, List.set_cons_succ])
      refine wpAnyE_take (i := 5) (oi := _) (v := .int .i64 (k : Nat)) rfl (by kernel_rfl) (by kernel_rfl) (by kernel_rfl) (by kernel_rfl) (fun _ _ _ h => h) (Or.inl ⟨by rfl, ?_⟩) (TStp.refl _ _) ?_
      · intro w' hSw
        (try simp only [List.getElem_toArray, List.getElem_cons_succ, List.getElem_cons_zero])
        go_simp
      (try simp only [List.getElem_toArray, List.getElem_cons_succ, List.getElem_cons_zero, Act.put, List.setIfInBounds_toArray, List.set_cons_zero, List.set_cons_succ])
      refine wpAnyE_take (i := 6) (oi := _) (v := .pointer (some ⟨bT, oT + k, none⟩)) rfl (by kernel_rfl) (by kernel_rfl) (by kernel_rfl) (by kernel_rfl) (fun _ _ _ h => h) (Or.inl ⟨by rfl, ?_⟩) (TStp.refl _ _) ?_
      · intro w' hSw
        have g3 : (k : Int) < turns.length := by omega
        (try simp only [List.getElem_toArray, List.getElem_cons_succ, List.getElem_cons_zero])
        go_simp
      (try simp only [List.getElem_toArray, List.getElem_cons_succ, List.getElem_cons_zero, Act.put, List.setIfInBounds_toArray, List.set_cons_zero, List.set_cons_succ])
      refine wpAnyE_take (i := 7) (oi := _) (v := .int .u8 (x : Nat)) rfl (by kernel_rfl) (by kernel_rfl) (by kernel_rfl) (by kernel_rfl) (fun _ _ _ h => h) (Or.inl ⟨by rfl, ?_⟩) (TStp.refl _ _) ?_
      · intro w' hSw
        have s1 := (hSw.below.cell (p := ⟨bT, _, none⟩) hbT).trans cx
        (try simp at s1)
        (try simp only [List.getElem_toArray, List.getElem_cons_succ, List.getElem_cons_zero])
        go_simp
      (try simp only [List.getElem_toArray, List.getElem_cons_succ, List.getElem_cons_zero, Act.put, List.setIfInBounds_toArray, List.set_cons_zero, List.set_cons_succ])
      refine wpAnyE_take (i := 8) (oi := _) (v := .int .i64 (x : Nat)) rfl (by kernel_rfl) (by kernel_rfl) (by kernel_rfl) (by kernel_rfl) (fun _ _ _ h => h) (Or.inl ⟨by rfl, ?_⟩) (TStp.refl _ _) ?_
      · intro w' hSw
        have hw1 : IntKind.i64.wrap (x : Int) = (x : Int) := IntWalk.i64_in _ (by omega)
        (try simp only [List.getElem_toArray, List.getElem_cons_succ, List.getElem_cons_zero])
        go_simp
      (try simp only [List.getElem_toArray, List.getElem_cons_succ, List.getElem_cons_zero, Act.put, List.setIfInBounds_toArray, List.set_cons_zero, List.set_cons_succ])
      obtain ⟨y, hy⟩ : ∃ y, x % 3 = y := ⟨_, rfl⟩
      have hy3 : y < 3 := by omega
      have HY := Lib.hid hy
      clear hy
      refine wpAnyE_take (i := 9) (oi := _) (v := .int .i64 (y : Nat)) rfl (by kernel_rfl) (by kernel_rfl) (by kernel_rfl) (by kernel_rfl) (fun _ _ _ h => h) (Or.inl ⟨by rfl, ?_⟩) (TStp.refl _ _) ?_
      · intro w' hSw
        (try simp only [List.getElem_toArray, List.getElem_cons_succ, List.getElem_cons_zero])
        go_simp
        (try (rw [Int.tmod_eq_emod_of_nonneg (by omega)]; have hyy := HY.out; omega))
      (try simp only [List.getElem_toArray, List.getElem_cons_succ, List.getElem_cons_zero, Act.put, List.setIfInBounds_toArray, List.set_cons_zero, List.set_cons_succ])
      refine wpAnyE_one (i := 10) (o := _) (by kernel_rfl) rfl (fun K hK => ?_)
      (try simp only [List.getElem_toArray, List.getElem_cons_succ, List.getElem_cons_zero])
      go_simp
      have hd := HD.out ((turns.take k).map (· % 3)) (mod3_in _)
      have hln : ((turns.take k).map (· % 3)).length ≤ 300 := by simp; omega
      (with_reducible refine (turn_call hd HLY.out.1 HLY.out.2 (by omega) hy3 (by omega) O co tk (some ⟨bT, oT, none⟩) turns.length d _ hr.tr ((HO.out.below hr.bl).more hr.bl.size) h1 h2).mono ?_)
      rintro e v2 ⟨rfl, hT2, hst2⟩
      have hr2 := hr.step rfl hT2 hst2
      have hws : (turns.take k).map (· % 3) ++ [y] = (turns.take (k + 1)).map (· % 3) := by rw [List.take_add_one, HXX.out, List.map_append, ← HY.out]; rfl
      rw [hws] at hr2
      have HR2 := Lib.hid hr2
      clear hd hln hr hT2 hws hr2 cx
      refine hK.out _ _ (fun _ => hst2) ?_
      clear hK K hst2
      (try simp only [List.getElem_toArray, List.getElem_cons_succ, List.getElem_cons_zero, Act.put, List.setIfInBounds_toArray, List.set_cons_zero, List.set_cons_succ])
      refine wpAnyE_done (by kernel_rfl) ?_ _
      have hkk : (k : Int) + 1 ≤ 1000000 := by omega
      go_wp2_with fail
      go_roundw
      case rel => exact ⟨k + 1, by omega, by go_num, HR2.out⟩
      case measure => simp [intOf]; omega
    · obtain rfl : k = turns.length := by omega
      have g1 : decide ((turns.length : Int) < turns.length) = false := by simp
      have HRR := Lib.hid (show PlR w.heap.size gt bL bP l (playC O p.own.length co p.s1 p.s2 tk T turns.length d) p O (turns.map (· % 3) ++ doneW 900 0) w wr by
        have := hr
        rw [List.take_length] at this
        simpa [doneW] using this)
      clear hr
      go_wp2_with fail
      clear q4 lP
      go_loopw [6, 7, 33, 34, 35, 36, 37, 38, 39, 40, 41, 42, 43, 44, 45, 46, 47, 48, 49, 50, 51, 52] (fun v _ _ _ _ _ _ _ _ _ _ _ _ _ _ _ _ _ _ _ _ _ wr => P2 w.heap.size gt bL bP l (playC O p.own.length co p.s1 p.s2 tk T turns.length d) p O turns w v wr) (fun v _ _ _ _ _ _ _ _ _ _ _ _ _ _ _ _ _ _ _ _ _ _ => 3 - (intOf v).toNat)
      case atStart => exact ⟨0, by omega, rfl, HRR.out⟩
      case round =>
        clear HRR
        obtain ⟨who, hwho, rfl, hr⟩ := hrel
        obtain ⟨dw1, dw2⟩ := doneW_in (K := 900) hwho
        have HDW := Lib.hid (And.intro dw1 dw2)
        clear dw1 dw2
        by_cases hlt : who < 3
        · have g1 : (who : Int) < 3 := by omega
          have HRR := Lib.hid (show PlR w.heap.size gt bL bP l (playC O p.own.length co p.s1 p.s2 tk T turns.length d) p O (turns.map (· % 3) ++ doneW 900 who ++ List.replicate 0 who) w wr by simpa using hr)
          clear hr
          go_wp2_with fail
          go_loopw [7, 37, 38, 39, 40, 41, 42, 43, 44, 45, 46, 47, 48, 49, 50, 51, 52] (fun i _ _ _ _ _ _ _ _ _ _ _ _ _ _ _ _ wr => P3 w.heap.size gt bL bP l (playC O p.own.length co p.s1 p.s2 tk T turns.length d) p O turns who w i wr) (fun i _ _ _ _ _ _ _ _ _ _ _ _ _ _ _ _ _ => 900 - (intOf i).toNat)
          case atStart => exact ⟨0, by omega, rfl, HRR.out⟩
          case round =>
            clear HRR
            obtain ⟨k, hk, rfl, hr⟩ := hrel
            have hws : ∀ x ∈ turns.map (· % 3) ++ doneW 900 who ++ List.replicate k who, x < 3 := fun x hx => by
              rcases List.mem_append.1 hx with hx | hx
              · rcases List.mem_append.1 hx with hx | hx
                · exact mod3_in _ x hx
                · exact HDW.out.1 x hx
              · rw [List.mem_replicate] at hx; omega
            have hd := HD.out _ hws
            have hln : (turns.map (· % 3) ++ doneW 900 who ++ List.replicate k who).length ≤ 5000 := by
              rw [List.length_append, List.length_append, HDW.out.2, List.length_map, List.length_replicate]
              omega
            have hbad := hd.bd
            obtain ⟨mv, dv, lv, hx⟩ := hr.tr
            have b27 : wr.cell? ⟨gt, 27, none⟩ = some (.bool false) := (hx.tab.cell 27).trans (by rw [← hbad]; rfl)
            have lt := hx.tab.lt
            have HRR := Lib.hid (And.intro hr (And.intro hd hln))
            clear hx hd hln hws hbad hr
            by_cases hlt2 : k < 900
            · have g2 : (k : Int) < 900 := by omega
              obtain ⟨hr, hd, hln⟩ := HRR.out
              clear HRR
              go_wp2_with (first
                | (refine wpList_load_row rfl 31 (.tmp 3) rfl bL rfl 31 (lyC l) (0, 0) _ hr.kL Try.underlying31 rfl (by kernel_rfl) ?_)
                | (refine wpList_load_row rfl 25 (.tmp 1) rfl bP rfl 25 (playC O p.own.length co p.s1 p.s2 tk T turns.length d) (0, 0) _ hr.kP Try.underlying25 rfl (by kernel_rfl) ?_))
              (with_reducible refine (turn_call hd HLY.out.1 HLY.out.2 (by omega) hlt (by omega) O co tk T turns.length d _ hr.tr ((HO.out.below hr.bl).more hr.bl.size) h1 h2).mono ?_)
              rintro e v2 ⟨rfl, hT2, hst2⟩
              have hr2 := hr.step rfl hT2 hst2
              rw [List.append_assoc (turns.map (· % 3) ++ doneW 900 who), show List.replicate k who ++ [who] = List.replicate (k + 1) who from (List.replicate_succ' ..).symm] at hr2
              have HR2 := Lib.hid hr2
              clear hd hln hr hT2 hst2 hr2 b27 lt
              go_wp2_with fail
              go_roundw
              case rel => exact ⟨k + 1, by omega, by go_num, HR2.out⟩
              case measure => simp [intOf]; omega
            · obtain rfl : k = 900 := by omega
              have hr2 := HRR.out.1
              rw [List.append_assoc, ← doneW_succ] at hr2
              have HR2 := Lib.hid hr2
              clear hr2 HRR
              go_wp2_with fail
              go_roundw
              case rel => exact ⟨who + 1, by omega, by go_num, HR2.out⟩
              case measure => simp [intOf]; omega
        · obtain rfl : who = 3 := by omega
          have HE := Lib.hid (show PlR w.heap.size gt bL bP l (playC O p.own.length co p.s1 p.s2 tk T turns.length d) p O (turns.map (· % 3) ++ tailW 900) w wr by rw [← doneW_three]; exact hr)
          clear hr
          go_wp2
          go_ret
          rw [HL.out]
          exact ⟨gt, rfl, HE.out.tr, HE.out.bl⟩
end Go.Proofs.Ytdjglkpcdhkodaa
