/- law16's alone. Printed by al_gen.py. -/
import Derived.Test.YtgjdjgainjedhaaEPl
namespace Go.Proofs.Ytgjdjgainjedhaa
open Go.RowKit
set_option linter.unusedVariables false
attribute [local go_sem ↓] Go.wp_at_zero Go.wp_at_succ

/-- A program alone: the memory and the log behind k accesses. -/
def aloneS (l : Ly) (me : Int) (gone : Gone) (op : Opr) (m : List Int) : Nat → List Int × Log
  | 0 => (m, [])
  | k + 1 => match eraR l me op gone (aloneS l me gone op m k).2 with
    | .ask a c o v => ((⟨a, c, o, v⟩ : Acc).make (aloneS l me gone op m k).1, (aloneS l me gone op m k).2 ++ [((⟨a, c, o, v⟩ : Acc).had (aloneS l me gone op m k).1, (⟨a, c, o, v⟩ : Acc).ok ((⟨a, c, o, v⟩ : Acc).had (aloneS l me gone op m k).1))])
    | .out _ _ _ _ _ => aloneS l me gone op m k
structure ARun (l : Ly) (me : Int) (gone : Gone) (op : Opr) (m : List Int) (K : Nat) (val : Int) (is : Bool) (err pt : Int) (g : Gone) : Prop where
  ask : ∀ k, k < K → ∃ a c o v, eraR l me op gone (aloneS l me gone op m k).2 = .ask a c o v ∧ (⟨a, c, o, v⟩ : Acc).err (aloneS l me gone op m k).1.length = 0
  out : eraR l me op gone (aloneS l me gone op m K).2 = .out val is err pt g
  le : K ≤ 400
theorem aloneS_ml (l : Ly) (me : Int) (gone : Gone) (op : Opr) (m : List Int) : ∀ k, (aloneS l me gone op m k).1.length = m.length := by
  intro k
  induction k with
  | zero => rfl
  | succ k ih =>
    simp only [aloneS]
    split
    · dsimp only; rw [Acc.make_length, ih]
    · exact ih
theorem ARun.ll {l : Ly} {me : Int} {gone : Gone} {op : Opr} {m : List Int} {K : Nat} {val : Int} {is : Bool} {err pt : Int} {g : Gone} (h : ARun l me gone op m K val is err pt g) : ∀ k, k ≤ K → (aloneS l me gone op m k).2.length = k := by
  intro k
  induction k with
  | zero => intro _; rfl
  | succ k ih =>
    intro hk
    obtain ⟨a, c, o, v, e, _⟩ := h.ask k (by omega)
    simp only [aloneS, e]
    rw [List.length_append, ih (by omega)]
    rfl
/-- What alone tells. -/
def AlonePost (val : Int) (is : Bool) (err pt : Int) (g : Gone) (m' : List Int) (K : Nat) (w : World) (e : Ending) (w' : World) : Prop :=
  ∃ A c G n c', e = .returned (.tuple #[.agg (outG val is err pt (.slice G n c')), .agg #[.slice A m'.length c], .int .i64 (K : Nat)]) ∧ GoneOk w' (.slice G n c') g ∧ (0 < K → OwnInts w' w.heap.size (.slice A m'.length c) m') ∧ Below w.heap.size w w'
theorem results_cct {P : Program} {fn : Func} {p q t : Tmp} {t1 t2 : TypeId} (h : fn.results = #[.cell p t1, .cell q t2, .tmp t]) (tmps : Array Value) (w : World) (g1 g2 : Nat) (c1 c2 : Array Value) (f1 f2 : Nat × Nat) (d1 d2 : TypeDesc) (v : Value)
    (h1 : tmps.getD p undef = ptr g1) (h2 : tmps.getD q undef = ptr g2) (h3 : tmps.getD t undef = v) (k1 : w.heap[g1]? = some (.cells c1 t1 f1)) (k2 : w.heap[g2]? = some (.cells c2 t2 f2))
    (u1 : P.underlying t1 = some d1) (e1 : (match d1 with | .struct _ | .array _ _ => true | _ => false) = true) (i1 : (P.info? t1).map (·.size) = some c1.size)
    (u2 : P.underlying t2 = some d2) (e2 : (match d2 with | .struct _ | .array _ _ => true | _ => false) = true) (i2 : (P.info? t2).map (·.size) = some c2.size) :
    (results fn tmps).run P w = .ok (.tuple #[.agg c1, .agg c2, v]) w := by
  subst h3
  have h1' : tmps[p]?.getD undef = .pointer (some ⟨g1, 0, none⟩) := by simpa using h1
  have h2' : tmps[q]?.getD undef = .pointer (some ⟨g2, 0, none⟩) := by simpa using h2
  simp [results, h, h1', h2', asAddr, run_loadVar_row w g1 t1 t1 c1 f1 d1 k1 u1 e1 i1, run_loadVar_row w g2 t2 t2 c2 f2 d2 k2 u2 e2 i2]
/-- A memory behind k accesses: as it was told, if k is 0, or the run's own. -/
def MemK (k : Nat) (w : World) (B : Nat) (X : Option Addr) (n c : Nat) (zs : List Int) : Prop := zs.length = n ∧ ((k = 0 ∧ Sl w B X n (ints zs)) ∨ OwnInts w B (.slice X n c) zs)
theorem MemK.sl {k B n c : Nat} {X : Option Addr} {zs : List Int} {w : World} (h : MemK k w B X n c zs) (hB : B ≤ w.heap.size) : Sl w w.heap.size X n (ints zs) := by
  rcases h.2 with h' | h'
  · exact h'.2.more hB
  · exact own_sl h' h.1
theorem MemK.keep {k B n c : Nat} {X : Option Addr} {zs : List Int} {w w' : World} (h : MemK k w B X n c zs) (hB : B ≤ w.heap.size) (hb : Below w.heap.size w w') : MemK k w' B X n c zs := by
  refine ⟨h.1, ?_⟩
  rcases h.2 with h' | h'
  · exact .inl ⟨h'.1, h'.2.below (hb.mono hB)⟩
  · exact .inr (own_keepb h' hb)
theorem MemK.keptR {k : Nat} {w0 w w' : World} {n c : Nat} {A : Option Addr} {zs : List Int} (h : MemK k w w0.heap.size A n c zs) (hb : Below w0.heap.size w w') {t0 : TypeId} (hk : KeptT t0 w w') (hne : 3 ≠ t0) : MemK k w' w0.heap.size A n c zs := by
  refine ⟨h.1, ?_⟩
  rcases h.2 with h1 | h1
  · exact .inl ⟨h1.1, h1.2.below hb⟩
  · exact .inr (own_keptT (show World.ownsRow w w0.heap.size 3 1 (.slice A n c) zs.length (ints zs) from h1) hk hne)
theorem bk_lt2 {w : World} {g : Nat} {t : TypeId} {cs : Array Value} (k : Bk w g t cs) : g < w.heap.size := k.lt
theorem do_okn (A : Option Addr) (c n : Nat) (zs : List Int) (a : Acc) (w : World) (hn : zs.length = n) (h : Sl w w.heap.size A n (ints zs)) (hm : n ≤ 1000000) (he : a.err zs.length = 0) :
    Calls Try.prog 18 #[memV A n c, accV a] w (fun e w' => ∃ g cap, e = .returned (.tuple #[memV (some ⟨g, 0, none⟩) n cap, resV (a.had zs) (a.ok (a.had zs)), .int .i64 0]) ∧ OwnInts w' w.heap.size (.slice (some ⟨g, 0, none⟩) n cap) (a.make zs) ∧ Below w.heap.size w w') := by
  subst hn
  exact do_ok A c zs a w h hm he
def AlR (l : Ly) (me : Int) (gone : Gone) (op : Opr) (m : List Int) (K bL bM bO b6 b7 : Nat) (w : World) (v9 i : Value) (wr : World) : Prop :=
  ∃ (k : Nat) (A : Option Addr) (c : Nat), k ≤ K ∧ i = .int .i64 k ∧ OwnRes wr w.heap.size v9 (aloneS l me gone op m k).2 ∧ Bk wr bL 40 (lyC l) ∧ Bk wr bO 46 (oprC op) ∧ Bk wr bM 33 #[.slice A m.length c] ∧ MemK k wr w.heap.size A m.length c (aloneS l me gone op m k).1 ∧ Bk wr b6 63 outZ ∧ Bk wr b7 33 #[.slice none 0 0] ∧ Below w.heap.size w wr
set_option maxRecDepth 1000000 in
set_option maxHeartbeats 8000000 in
theorem alone_any (l : Ly) (me : Int) (gone : Gone) (op : Opr) (m : List Int) (K : Nat) (val : Int) (is : Bool) (err pt : Int) (g : Gone) (A G0 : Option Addr) (c c0 : Nat) (w : World) (f : LyFull l) (hse : 1 ≤ l.c.seats ∧ l.c.seats ≤ 8) (hno : l.c.nodes ≤ 1000) (hgA : NilOk G0 gone.length c0) (hg : SlGone w w.heap.size G0 gone) (hgm : gone.length ≤ 900) (hgb : ∀ x ∈ gone, x.1 ≤ 1000000) (hr : ARun l me gone op m K val is err pt g) (hm : m.length ≤ 100000) (hA : Sl w w.heap.size A m.length (ints m)) :
    Calls Try.prog 19 #[.agg (lyC l), .agg #[.slice A m.length c], .int .i64 me, .slice G0 gone.length c0, .agg (oprC op)] w (AlonePost val is err pt g (aloneS l me gone op m K).1 K w) := by
  have kL := ((((Bk.made w 40 (lyC l)).alloc (.cells #[.slice A m.length c] 33)).alloc (.cells (oprC op) 46)).alloc (.cells outZ 63)).alloc (.cells #[.slice none 0 0] 33)
  have kM := (((Bk.new (w.alloc (.cells (lyC l) 40)) (g := w.heap.size + 1) (by simp) 33 #[.slice A m.length c]).alloc (.cells (oprC op) 46)).alloc (.cells outZ 63)).alloc (.cells #[.slice none 0 0] 33)
  have kO := ((Bk.new ((w.alloc (.cells (lyC l) 40)).alloc (.cells #[.slice A m.length c] 33)) (g := w.heap.size + 1 + 1) (by simp) 46 (oprC op)).alloc (.cells outZ 63)).alloc (.cells #[.slice none 0 0] 33)
  have k6 := (Bk.new (((w.alloc (.cells (lyC l) 40)).alloc (.cells #[.slice A m.length c] 33)).alloc (.cells (oprC op) 46)) (g := w.heap.size + 1 + 1 + 1) (by simp) 63 outZ).alloc (.cells #[.slice none 0 0] 33)
  have k7 := Bk.new ((((w.alloc (.cells (lyC l) 40)).alloc (.cells #[.slice A m.length c] 33)).alloc (.cells (oprC op) 46)).alloc (.cells outZ 63)) (g := w.heap.size + 1 + 1 + 1 + 1) (by simp) 33 #[.slice none 0 0]
  have hbl := below_al (below_al (below_al (below_al (below_al (Below.refl w.heap.size w) (.cells (lyC l) 40)) (.cells #[.slice A m.length c] 33)) (.cells (oprC op) 46)) (.cells outZ 63)) (.cells #[.slice none 0 0] 33)
  have HF := Lib.hid (And.intro f (And.intro hse (And.intro hno (And.intro hgA (And.intro hg (And.intro hgm hgb))))))
  have HR := Lib.hid hr
  have HM := Lib.hid (MemAt.of_sl (c := c) hA)
  have hK := hr.le
  clear f hse hno hgA hg hgm hgb hr hA
  go_enter Try.func19, Try.ntmps19
  go_upto_region 1 with fail
  generalize ((((w.alloc (.cells (lyC l) 40)).alloc (.cells #[.slice A m.length c] 33)).alloc (.cells (oprC op) 46)).alloc (.cells outZ 63)).alloc (.cells #[.slice none 0 0] 33) = w1 at *
  obtain ⟨bL, hbL⟩ : ∃ g, w.heap.size = g := ⟨_, rfl⟩
  obtain ⟨bM, hbM⟩ : ∃ g, w.heap.size + 1 = g := ⟨_, rfl⟩
  obtain ⟨bO, hbO⟩ : ∃ g, w.heap.size + 1 + 1 = g := ⟨_, rfl⟩
  obtain ⟨b6, hb6⟩ : ∃ g, w.heap.size + 1 + 1 + 1 = g := ⟨_, rfl⟩
  obtain ⟨b7, hb7⟩ : ∃ g, w.heap.size + 1 + 1 + 1 + 1 = g := ⟨_, rfl⟩
  rw [hb7] at k7 ⊢
  rw [hb6] at k6 ⊢
  rw [hbO] at kO ⊢
  rw [hbM] at kM ⊢
  rw [hbL] at kL ⊢
  have zz : w.heap.size ≤ bL ∧ bL < bM ∧ bM < bO ∧ bO < b6 ∧ b6 < b7 := by omega
  clear hbL hbM hbO hb6 hb7
  have hrl : AlR l me gone op m K bL bM bO b6 b7 w (.slice none 0 0) (.int .i64 0) w1 := ⟨0, A, c, Nat.zero_le _, rfl, World.ownsRow_nil _ _ _ _, kL, kO, kM, by
    have h := HM.out
    exact ⟨h.1, h.2.elim (fun h2 => .inl ⟨rfl, h2.below hbl⟩) (fun h2 => .inl ⟨rfl, (own_sl h2 h.1).below hbl⟩)⟩, k6, k7, hbl⟩
  have HRL := Lib.hid hrl
  clear hrl kL kM kO k6 k7 hbl HM
  go_wp2_with fail
  go_loopw [13, 14, 15, 16, 17, 18, 19, 20, 21, 22, 23, 24, 25, 26, 27, 28, 29, 30, 31, 32, 33, 34, 35, 36, 37, 38, 39, 40, 41, 42, 43, 44, 45, 46, 47, 48, 49, 50, 51, 52, 53, 54] (fun v9 i _ _ _ _ _ _ _ _ _ _ _ _ _ _ _ _ _ _ _ _ _ _ _ _ _ _ _ _ _ _ _ _ _ _ _ _ _ _ _ _ wr => AlR l me gone op m K bL bM bO b6 b7 w v9 i wr) (fun _ i _ _ _ _ _ _ _ _ _ _ _ _ _ _ _ _ _ _ _ _ _ _ _ _ _ _ _ _ _ _ _ _ _ _ _ _ _ _ _ _ _ => 401 - (intOf i).toNat)
  case atStart => exact HRL.out
  case round =>
    clear HRL
    obtain ⟨k, A, c, hk, rfl, hlog, kL, kO, kM, hmem, k6, k7, hbl⟩ := hrel
    have hll := HR.out.ll k hk
    have hmlen := aloneS_ml l me gone op m k
    obtain ⟨⟨mk, log⟩, hmk⟩ : ∃ x, aloneS l me gone op m k = x := ⟨_, rfl⟩
    rw [hmk] at hlog hmem hll hmlen
    dsimp only at hlog hmem hll hmlen
    obtain ⟨G, cp, hv9⟩ := own_slice hlog
    subst hv9
    obtain ⟨qk, qc, qo, qv, va, isx, er, pt2, dn, gg, hAI⟩ := ansI_of (eraR l me op gone log)
    have HAI := Lib.hid hAI
    have HLL := Lib.hid (And.intro hmk (And.intro hll hmlen))
    have hk400 : k ≤ 400 := by omega
    have g1 : decide ((k : Int) ≤ 400) = true := by simp; omega
    have g2 : (k : Int) ≤ 400 := by omega
    have hl400 : log.length ≤ 400 := by omega
    clear hAI hmk hll hmlen
    go_wp2_with (first
      | (refine wpList_load_row rfl 40 (.tmp 5) rfl bL rfl 40 (lyC l) (0, 0) _ kL Try.underlying40 rfl (by kernel_rfl) ?_)
      | (refine wpList_load_row rfl 46 (.tmp 9) rfl bO rfl 46 (oprC op) (0, 0) _ kO Try.underlying46 rfl (by kernel_rfl) ?_))
    (with_reducible refine (enext_any l me op G0 gone.length c0 gone G cp log _ HF.out.1 HF.out.2.1 HF.out.2.2.1 rfl HF.out.2.2.2.1 ((HF.out.2.2.2.2.1.below hbl).more hbl.size) HF.out.2.2.2.2.2.1 HF.out.2.2.2.2.2.2 (own_slRes hlog) (by omega)).mono ?_)
    intro e w2 hpost
    obtain ⟨GO, nO, cO, rfl, hgo, hb⟩ := ansI_post HAI.out hpost
    clear hpost
    replace kL := kL.keep hb
    replace kO := kO.keep hb
    replace kM := kM.keep hb
    replace k6 := k6.keep hb
    replace k7 := k7.keep hb
    replace hmem := hmem.keep hbl.size hb
    have hlog2 : OwnRes w2 w.heap.size (.slice G log.length cp) log := own_keepb' (show World.ownsRow wr w.heap.size 67 2 (.slice G log.length cp) log.length (resCells log) from hlog) hb
    replace hbl := below_tr hbl hb
    clear hb hlog g1 g2
    have n1 := (Bk.made w2 61 accZ).alloc (.cells outZ 63)
    have n2 := Bk.new (w2.alloc (.cells accZ 61)) (g := w2.heap.size + 1) (by simp) 63 outZ
    have n3 : Bk (((w2.alloc (.cells accZ 61)).alloc (.cells outZ 63)).setRow w2.heap.size (accC qk qc qo qv)) (w2.heap.size + 1) 63 outZ := (setRow_other _ _ _ _ (by omega)).trans n2
    have f1 : Bk ((((w2.alloc (.cells accZ 61)).alloc (.cells outZ 63)).setRow w2.heap.size (accC qk qc qo qv)).setRow (w2.heap.size + 1) (outG va isx er pt2 (.slice GO nO cO))) w2.heap.size 61 (accC qk qc qo qv) := (setRow_other _ _ _ _ (by omega)).trans (setRow_heap _ _ accZ (accC qk qc qo qv) 61 (0, 0) n1)
    have f2 : Bk ((((w2.alloc (.cells accZ 61)).alloc (.cells outZ 63)).setRow w2.heap.size (accC qk qc qo qv)).setRow (w2.heap.size + 1) (outG va isx er pt2 (.slice GO nO cO))) (w2.heap.size + 1) 63 (outG va isx er pt2 (.slice GO nO cO)) := setRow_heap _ _ outZ (outG va isx er pt2 (.slice GO nO cO)) 63 (0, 0) n3
    have hbb : Below w2.heap.size w2 ((((w2.alloc (.cells accZ 61)).alloc (.cells outZ 63)).setRow w2.heap.size (accC qk qc qo qv)).setRow (w2.heap.size + 1) (outG va isx er pt2 (.slice GO nO cO))) := (((below_al (below_al (Below.refl _ _) _) _).trans (below_setRow0 (Nat.le_refl _) _)).trans (below_setRow0 (Nat.le_succ _) _))
    have kLx := kL.keep hbb
    have kOx := kO.keep hbb
    have kMx := kM.keep hbb
    have k6x := k6.keep hbb
    have k7x := k7.keep hbb
    have hgox := (fun e => (hgo e).mv fun b cs kb => kb.keep hbb : dn = true → GoneOk ((((w2.alloc (.cells accZ 61)).alloc (.cells outZ 63)).setRow w2.heap.size (accC qk qc qo qv)).setRow (w2.heap.size + 1) (outG va isx er pt2 (.slice GO nO cO))) (.slice GO nO cO) gg)
    have hmemx := hmem.keep hbl.size hbb
    have hlog2x := (own_keepb' (show World.ownsRow w2 w.heap.size 67 2 (.slice G log.length cp) log.length (resCells log) from hlog2) hbb : OwnRes ((((w2.alloc (.cells accZ 61)).alloc (.cells outZ 63)).setRow w2.heap.size (accC qk qc qo qv)).setRow (w2.heap.size + 1) (outG va isx er pt2 (.slice GO nO cO))) w.heap.size (.slice G log.length cp) log)
    have hszx := (And.intro (bk_lt2 k6) (bk_lt2 k7))
    have hblx := below_tr hbl hbb
    have H3 := Lib.hid (And.intro f1 (And.intro f2 (And.intro kLx (And.intro kOx (And.intro kMx (And.intro k6x (And.intro k7x (And.intro hgox (And.intro hmemx (And.intro hlog2x (And.intro hszx hblx)))))))))))
    clear f1 f2 hbb n2 kLx kOx kMx k6x k7x hgox hmemx hlog2x hszx hblx kL kO kM k6 k7 hgo hmem hlog2 hbl
    go_upto_region 6 with (first
      | (refine wpList_store_rowTo rfl 61 (.tmp 15) (.tmp 32) rfl rfl w2.heap.size (accC qk qc qo qv) rfl rfl 61 accZ n1 (by kernel_rfl) rfl (by simp [Value.oneCell']) ?_)
      | (refine wpList_store_rowTo rfl 63 (.tmp 16) (.tmp 33) rfl rfl (w2.heap.size + 1) (outG va isx er pt2 (.slice GO nO cO)) rfl rfl 63 outZ n3 (by kernel_rfl) rfl (by simp [Value.oneCell']) ?_))
    clear n1 n3
    obtain ⟨f1, f2, kL, kO, kM, k6, k7, hgo, hmem, hlog2, hsz, hbl⟩ := H3.out
    clear H3
    show Code.wp Try.prog _ _ _ ((((w2.alloc (.cells accZ 61)).alloc (.cells outZ 63)).setRow w2.heap.size (accC qk qc qo qv)).setRow (w2.heap.size + 1) (outG va isx er pt2 (.slice GO nO cO)))
    generalize ((((w2.alloc (.cells accZ 61)).alloc (.cells outZ 63)).setRow w2.heap.size (accC qk qc qo qv)).setRow (w2.heap.size + 1) (outG va isx er pt2 (.slice GO nO cO))) = w3 at *
    obtain ⟨gA, hgA⟩ : ∃ g, w2.heap.size = g := ⟨_, rfl⟩
    obtain ⟨gB, hgB⟩ : ∃ g, w2.heap.size + 1 = g := ⟨_, rfl⟩
    rw [hgA] at f1
    rw [hgB] at f2
    rw [hgB, hgA]
    have zB : b6 < gB ∧ b7 < gB := by omega
    clear hgA hgB hsz
    cases dn with
    | true =>
      have hN : eraR l me op gone log = .out va isx er pt2 gg := by
        rcases ansI_dn HAI.out with ⟨_, h⟩ | ⟨h, _⟩
        · exact h
        · cases h
      have hgk := hgo rfl
      have hkK : k = K := by
        by_cases h : k < K
        · obtain ⟨a, c', o', v, e, _⟩ := HR.out.ask k h
          rw [HLL.out.1] at e
          dsimp only at e
          rw [hN] at e
          cases e
        · omega
      subst hkK
      have ho := HR.out.out
      rw [HLL.out.1] at ho
      dsimp only at ho
      rw [hN] at ho
      injection ho with h1 h2 h3 h4 h5
      subst h1 h2 h3 h4 h5
      have HKM := Lib.hid HLL.out.1
      clear hN
      go_upto_region 7 with fail
      refine wp_region_E (S := fun w' => Bk w' gB 63 (outG va isx er pt2 (.slice GO nO cO)) ∧ Bk w' bM 33 #[.slice A m.length c]) (E := fun _ => false) (by kernel_rfl) ?_
      replace f2 := f2.drew
      replace kM := kM.drew
      replace k6 := k6.drew
      replace k7 := k7.drew
      replace hmem : MemK k w3.drew w.heap.size A m.length c mk := hmem.keep hbl.size (below_drew' (Below.refl _ _))
      have ho6 : w.heap.size ≤ b6 ∧ w.heap.size ≤ b7 := by omega
      replace hbl := hbl.drew
      replace hgk : GoneOk w3.drew (.slice GO nO cO) gg := hgk.mv fun b cs kb => kb.drew
      have hne1 := bk_ne kM k6 (by decide)
      have hneB := bk_ne f2 k7 (by decide)
      generalize w3.drew = w4 at *
      refine wpAnyE_take (i := 0) (oi := _) (v := .agg (outG va isx er pt2 (.slice GO nO cO))) rfl (by kernel_rfl) (by kernel_rfl) (by kernel_rfl) (by kernel_rfl) (fun _ _ _ h => h) (Or.inl ⟨by rfl, ?_⟩) ⟨f2, kM⟩ ?_
      · intro w' hSw
        (try simp only [List.getElem_toArray, List.getElem_cons_zero])
        simp only [execOp, Instr.loadAt, Instr.sureAddr, Sem.run_bind, Sem.run_pure]
        rw [show (Act.eval _ (Operand.tmp 16)) = Value.pointer (some ⟨gB, 0, none⟩) from rfl]
        simp only [Sem.run_pure, Result.andThen_ok, run_loadVar_row w' gB 63 63 (outG va isx er pt2 (.slice GO nO cO)) (0, 0) _ hSw.1 Try.underlying63 rfl (by kernel_rfl)]
      (try simp only [List.getElem_toArray, List.getElem_cons_zero, Act.put, List.setIfInBounds_toArray, List.set_cons_zero, List.set_cons_succ])
      refine wpAnyE_take (i := 1) (oi := _) (v := .agg #[.slice A m.length c]) rfl (by kernel_rfl) (by kernel_rfl) (by kernel_rfl) (by kernel_rfl) (fun _ _ _ h => h) (Or.inl ⟨by rfl, ?_⟩) ⟨f2, kM⟩ ?_
      · intro w' hSw
        have s1 := hSw.2.cell 0
        (try simp at s1)
        (try simp only [List.getElem_toArray, List.getElem_cons_succ, List.getElem_cons_zero])
        go_simp
      (try simp only [List.getElem_toArray, List.getElem_cons_succ, List.getElem_cons_zero, Act.put, List.setIfInBounds_toArray, List.set_cons_zero, List.set_cons_succ])
      refine wpAnyE_take (i := 2) (oi := _) (v := .int .i64 (k : Nat)) rfl (by kernel_rfl) (by kernel_rfl) (by kernel_rfl) (by kernel_rfl) (fun _ _ _ h => h) (Or.inl ⟨by rfl, ?_⟩) ⟨f2, kM⟩ ?_
      · intro w' hSw
        (try simp only [List.getElem_toArray, List.getElem_cons_succ, List.getElem_cons_zero])
        go_simp
      (try simp only [List.getElem_toArray, List.getElem_cons_succ, List.getElem_cons_zero, Act.put, List.setIfInBounds_toArray, List.set_cons_zero, List.set_cons_succ])
      refine wpAnyE_one (i := 3) (o := _) (by kernel_rfl) rfl (fun K hK => ?_)
      rw [if_pos (by rfl)]
      refine wp_store_row 63 (.tmp 10) (.tmp 36) rfl b6 (outG va isx er pt2 (.slice GO nO cO)) rfl rfl 63 outZ k6 (by kernel_rfl) rfl (by simp [Value.oneCell']) ?_
      have c6 : Bk (w4.setRow b6 (outG va isx er pt2 (.slice GO nO cO))) b6 63 (outG va isx er pt2 (.slice GO nO cO)) := setRow_heap _ _ outZ (outG va isx er pt2 (.slice GO nO cO)) 63 (0, 0) k6
      have e2 : Bk (w4.setRow b6 (outG va isx er pt2 (.slice GO nO cO))) gB 63 (outG va isx er pt2 (.slice GO nO cO)) := (setRow_other _ _ _ _ (by omega)).trans f2
      have eM : Bk (w4.setRow b6 (outG va isx er pt2 (.slice GO nO cO))) bM 33 #[.slice A m.length c] := (setRow_other _ _ _ _ (by omega)).trans kM
      have e7 : Bk (w4.setRow b6 (outG va isx er pt2 (.slice GO nO cO))) b7 33 #[.slice none 0 0] := (setRow_other _ _ _ _ (by omega)).trans k7
      have eb : Below w.heap.size w4 (w4.setRow b6 (outG va isx er pt2 (.slice GO nO cO))) := below_setRow0 ho6.1 _
      have ek : KeptT 63 w4 (w4.setRow b6 (outG va isx er pt2 (.slice GO nO cO))) := keptT_row k6
      have em := hmem.keptR eb ek (by decide)
      have hgk5 := hgk.mv fun b cs kb => kb.keptT ek (by decide)
      have ebl := hbl.trans eb
      refine hK.out _ _ (fun _ => ⟨e2, eM⟩) ?_
      clear hK K k6 f2 kM k7 eb ek hmem hbl hgk
      (try simp only [List.getElem_toArray, List.getElem_cons_succ, List.getElem_cons_zero, Act.put])
      generalize w4.setRow b6 (outG va isx er pt2 (.slice GO nO cO)) = w5 at *
      refine wpAnyE_one (i := 4) (o := _) (by kernel_rfl) rfl (fun K hK => ?_)
      rw [if_pos (by rfl)]
      refine wp_store_row 33 (.tmp 11) (.tmp 37) rfl b7 #[.slice A m.length c] rfl rfl 33 #[.slice none 0 0] e7 (by kernel_rfl) rfl (by simp [Value.oneCell']) ?_
      have d7 : Bk (w5.setRow b7 #[.slice A m.length c]) b7 33 #[.slice A m.length c] := setRow_heap _ _ #[.slice none 0 0] #[.slice A m.length c] 33 (0, 0) e7
      have d6 : Bk (w5.setRow b7 #[.slice A m.length c]) b6 63 (outG va isx er pt2 (.slice GO nO cO)) := (setRow_other _ _ _ _ (by omega)).trans c6
      have d2 : Bk (w5.setRow b7 #[.slice A m.length c]) gB 63 (outG va isx er pt2 (.slice GO nO cO)) := (setRow_other _ _ _ _ (by omega)).trans e2
      have dM : Bk (w5.setRow b7 #[.slice A m.length c]) bM 33 #[.slice A m.length c] := (setRow_other _ _ _ _ (by omega)).trans eM
      have eb : Below w.heap.size w5 (w5.setRow b7 #[.slice A m.length c]) := below_setRow0 ho6.2 _
      have dm := em.keptR eb (keptT_row e7) (by decide)
      have dgk : GoneOk (w5.setRow b7 #[.slice A m.length c]) (.slice GO nO cO) gg := hgk5.mv fun b cs kb => kb.keptT (keptT_row e7) (by decide)
      have dbl := ebl.trans eb
      refine hK.out _ _ (fun _ => ⟨d2, dM⟩) ?_
      clear hK K e7 c6 e2 eM eb em ebl hgk5
      (try simp only [List.getElem_toArray, List.getElem_cons_succ, List.getElem_cons_zero, Act.put])
      generalize w5.setRow b7 #[.slice A m.length c] = w6 at *
      refine wpAnyE_take (i := 5) (oi := _) (v := .int .i64 (k : Nat)) rfl (by kernel_rfl) (by kernel_rfl) (by kernel_rfl) (by kernel_rfl) (fun _ _ _ h => h) (Or.inl ⟨by rfl, ?_⟩) ⟨d2, dM⟩ ?_
      · intro w' hSw
        (try simp only [List.getElem_toArray, List.getElem_cons_succ, List.getElem_cons_zero])
        go_simp
      (try simp only [List.getElem_toArray, List.getElem_cons_succ, List.getElem_cons_zero, Act.put, List.setIfInBounds_toArray, List.set_cons_zero, List.set_cons_succ])
      refine wpAnyE_done (by kernel_rfl) ?_ _
      go_wp2_with fail
      refine bodyPost_ret (v := .tuple #[.agg (outG va isx er pt2 (.slice GO nO cO)), .agg #[.slice A m.length c], .int .i64 (k : Nat)]) (results_cct (p := 10) (q := 11) (t := 12) (t1 := 63) (t2 := 33) rfl _ _ b6 b7 _ _ (0, 0) (0, 0) _ _ _ rfl rfl rfl d6 d7 Try.underlying63 rfl (by kernel_rfl) Try.underlying33 rfl (by kernel_rfl)) rfl ?_
      refine ⟨A, c, GO, nO, cO, ?_, dgk, ?_, dbl⟩
      · rw [HKM.out]
        dsimp only
        rw [HLL.out.2.2]
      · have h1 : 0 < k → OwnInts w6 w.heap.size (.slice A m.length c) mk := fun hk0 => dm.2.elim (fun h => by omega) (fun h => h)
        rw [HKM.out]
        dsimp only
        rw [HLL.out.2.2]
        exact h1
    | false =>
      have hN : eraR l me op gone log = .ask qk qc qo qv := by
        rcases ansI_dn HAI.out with ⟨h, _⟩ | ⟨_, h, _⟩
        · cases h
        · exact h
      clear hgo
      have hkK : k < K := by
        by_cases h : k < K
        · exact h
        · have e : k = K := by omega
          have ho := HR.out.out
          rw [← e, HLL.out.1] at ho
          dsimp only at ho
          rw [hN] at ho
          cases ho
      have herr : (⟨qk, qc, qo, qv⟩ : Acc).err mk.length = 0 := by
        obtain ⟨a, c', o', v, e, e2⟩ := HR.out.ask k hkK
        rw [HLL.out.1] at e e2
        dsimp only at e e2
        rw [hN] at e
        injection e with h1 h2 h3 h4
        subst h1 h2 h3 h4
        exact e2
      have hnx : aloneS l me gone op m (k + 1) = ((⟨qk, qc, qo, qv⟩ : Acc).make mk, log ++ [((⟨qk, qc, qo, qv⟩ : Acc).had mk, (⟨qk, qc, qo, qv⟩ : Acc).ok ((⟨qk, qc, qo, qv⟩ : Acc).had mk))]) := by
        rw [aloneS, HLL.out.1]
        dsimp only
        rw [hN]
      have HNX := Lib.hid (And.intro hnx (And.intro hkK herr))
      clear hN herr hnx f2
      go_wp2_with (first
        | (refine wpList_load_row rfl 33 (.tmp 6) rfl bM rfl 33 #[.slice A m.length c] (0, 0) _ kM Try.underlying33 rfl (by kernel_rfl) ?_)
        | (refine wpList_load_row rfl 61 (.tmp 15) rfl gA rfl 61 (accC qk qc qo qv) (0, 0) _ f1 Try.underlying61 rfl (by kernel_rfl) ?_))
      have hsl := hmem.sl hbl.size
      have hmln := HLL.out.2.2
      (with_reducible refine (do_okn A c m.length mk ⟨qk, qc, qo, qv⟩ _ hmln hsl (by omega) HNX.out.2.2).mono ?_)
      rintro e w4 ⟨g6, c6, rfl, ho6, hb⟩
      replace kL := kL.keep hb
      replace kO := kO.keep hb
      replace kM := kM.keep hb
      replace k6 := k6.keep hb
      replace k7 := k7.keep hb
      replace hlog2 : OwnRes w4 w.heap.size (.slice G log.length cp) log := own_keepb' (show World.ownsRow w3 w.heap.size 67 2 (.slice G log.length cp) log.length (resCells log) from hlog2) hb
      have hsz4 : w.heap.size ≤ w3.heap.size := hbl.size
      replace hbl := below_tr hbl hb
      have hm6 : OwnInts w4 w.heap.size (.slice (some ⟨g6, 0, none⟩) m.length c6) ((⟨qk, qc, qo, qv⟩ : Acc).make mk) := own_lower ho6 hsz4
      clear hb f1 hmem hsl ho6 hmln
      obtain ⟨had, hhad⟩ : ∃ z, (⟨qk, qc, qo, qv⟩ : Acc).had mk = z := ⟨_, rfl⟩
      obtain ⟨gok, hgok⟩ : ∃ z, (⟨qk, qc, qo, qv⟩ : Acc).ok had = z := ⟨_, rfl⟩
      obtain ⟨mm, hmm⟩ : ∃ z, (⟨qk, qc, qo, qv⟩ : Acc).make mk = z := ⟨_, rfl⟩
      have hnx := HNX.out
      rw [hmm, hhad, hgok] at hnx
      rw [hhad, hgok]
      rw [hmm] at hm6
      have HNX2 := Lib.hid hnx
      clear hnx HNX hhad hgok hmm
      have n1 := (Bk.made w4 33 #[.slice none 0 0]).alloc (.cells #[.int .i64 0, .bool false] 67)
      have n2 := Bk.new (w4.alloc (.cells #[.slice none 0 0] 33)) (g := w4.heap.size + 1) (by simp) 67 #[.int .i64 0, .bool false]
      have n3 : Bk (((w4.alloc (.cells #[.slice none 0 0] 33)).alloc (.cells #[.int .i64 0, .bool false] 67)).setRow w4.heap.size #[.slice (some ⟨g6, 0, none⟩) m.length c6]) (w4.heap.size + 1) 67 #[.int .i64 0, .bool false] := (setRow_other _ _ _ _ (by omega)).trans n2
      have f1 : Bk ((((w4.alloc (.cells #[.slice none 0 0] 33)).alloc (.cells #[.int .i64 0, .bool false] 67)).setRow w4.heap.size #[.slice (some ⟨g6, 0, none⟩) m.length c6]).setRow (w4.heap.size + 1) #[.int .i64 had, .bool gok]) w4.heap.size 33 #[.slice (some ⟨g6, 0, none⟩) m.length c6] := (setRow_other _ _ _ _ (by omega)).trans (setRow_heap _ _ #[.slice none 0 0] #[.slice (some ⟨g6, 0, none⟩) m.length c6] 33 (0, 0) n1)
      have f2 : Bk ((((w4.alloc (.cells #[.slice none 0 0] 33)).alloc (.cells #[.int .i64 0, .bool false] 67)).setRow w4.heap.size #[.slice (some ⟨g6, 0, none⟩) m.length c6]).setRow (w4.heap.size + 1) #[.int .i64 had, .bool gok]) (w4.heap.size + 1) 67 #[.int .i64 had, .bool gok] := setRow_heap _ _ #[.int .i64 0, .bool false] #[.int .i64 had, .bool gok] 67 (0, 0) n3
      have hbb : Below w4.heap.size w4 ((((w4.alloc (.cells #[.slice none 0 0] 33)).alloc (.cells #[.int .i64 0, .bool false] 67)).setRow w4.heap.size #[.slice (some ⟨g6, 0, none⟩) m.length c6]).setRow (w4.heap.size + 1) #[.int .i64 had, .bool gok]) := (((below_al (below_al (Below.refl _ _) _) _).trans (below_setRow0 (Nat.le_refl _) _)).trans (below_setRow0 (Nat.le_succ _) _))
      have kLx := kL.keep hbb
      have kOx := kO.keep hbb
      have kMx := kM.keep hbb
      have k6x := k6.keep hbb
      have k7x := k7.keep hbb
      have hm6x := (own_keepb' (show World.ownsRow w4 w.heap.size 3 1 (.slice (some ⟨g6, 0, none⟩) m.length c6) mm.length (ints mm) from hm6) hbb : OwnInts ((((w4.alloc (.cells #[.slice none 0 0] 33)).alloc (.cells #[.int .i64 0, .bool false] 67)).setRow w4.heap.size #[.slice (some ⟨g6, 0, none⟩) m.length c6]).setRow (w4.heap.size + 1) #[.int .i64 had, .bool gok]) w.heap.size (.slice (some ⟨g6, 0, none⟩) m.length c6) mm)
      have hlog2x := (own_keepb' (show World.ownsRow w4 w.heap.size 67 2 (.slice G log.length cp) log.length (resCells log) from hlog2) hbb : OwnRes ((((w4.alloc (.cells #[.slice none 0 0] 33)).alloc (.cells #[.int .i64 0, .bool false] 67)).setRow w4.heap.size #[.slice (some ⟨g6, 0, none⟩) m.length c6]).setRow (w4.heap.size + 1) #[.int .i64 had, .bool gok]) w.heap.size (.slice G log.length cp) log)
      have hszx := (And.intro (bk_lt2 kM) hbl.size)
      have hblx := below_tr hbl hbb
      have H5 := Lib.hid (And.intro f1 (And.intro f2 (And.intro kLx (And.intro kOx (And.intro kMx (And.intro k6x (And.intro k7x (And.intro hm6x (And.intro hlog2x (And.intro hszx hblx))))))))))
      clear f1 f2 hbb n2 kLx kOx kMx k6x k7x hm6x hlog2x hszx hblx kL kO kM k6 k7 hm6 hlog2 hbl
      go_upto_region 9 with (first
        | (refine wpList_store_rowTo rfl 33 (.tmp 18) (.tmp 43) rfl rfl w4.heap.size #[.slice (some ⟨g6, 0, none⟩) m.length c6] rfl rfl 33 #[.slice none 0 0] n1 (by kernel_rfl) rfl (by simp [Value.oneCell']) ?_)
        | (refine wpList_store_rowTo rfl 67 (.tmp 19) (.tmp 44) rfl rfl (w4.heap.size + 1) #[.int .i64 had, .bool gok] rfl rfl 67 #[.int .i64 0, .bool false] n3 (by kernel_rfl) rfl (by simp [Value.oneCell']) ?_))
      clear n1 n3
      obtain ⟨f1, f2, kL, kO, kM, k6, k7, hm6, hlog2, hsz, hbl⟩ := H5.out
      clear H5
      show Code.wp Try.prog _ _ _ ((((w4.alloc (.cells #[.slice none 0 0] 33)).alloc (.cells #[.int .i64 0, .bool false] 67)).setRow w4.heap.size #[.slice (some ⟨g6, 0, none⟩) m.length c6]).setRow (w4.heap.size + 1) #[.int .i64 had, .bool gok])
      generalize ((((w4.alloc (.cells #[.slice none 0 0] 33)).alloc (.cells #[.int .i64 0, .bool false] 67)).setRow w4.heap.size #[.slice (some ⟨g6, 0, none⟩) m.length c6]).setRow (w4.heap.size + 1) #[.int .i64 had, .bool gok]) = w5 at *
      obtain ⟨gA2, hgA⟩ : ∃ g, w4.heap.size = g := ⟨_, rfl⟩
      obtain ⟨gB2, hgB⟩ : ∃ g, w4.heap.size + 1 = g := ⟨_, rfl⟩
      have zAB : w.heap.size ≤ gA2 ∧ gA2 < gB2 ∧ bM ≠ gA2 := by omega
      rw [hgA] at f1
      rw [hgB] at f2
      rw [hgB, hgA]
      clear hgA hgB hsz
      have qf := kM.free 0
      have qc0 := kM.cell 0
      have ql := kM.lt
      have q1 := f1.cell 0
      have ql1 := f1.lt
      simp at qc0 q1
      have hkt := keptT_set kM 0 (.slice (some ⟨g6, 0, none⟩) m.length c6)
      have hbs : Below w.heap.size w5 (w5.setCell ⟨bM, 0, none⟩ (.slice (some ⟨g6, 0, none⟩) m.length c6)) := (Below.refl _ _).setCell (p := ⟨bM, 0, none⟩) (by dsimp only; omega) _
      have x1 := kL.keptT hkt (by decide)
      have x2 := kO.keptT hkt (by decide)
      have x3 : Bk (w5.setCell ⟨bM, 0, none⟩ (.slice (some ⟨g6, 0, none⟩) m.length c6)) bM 33 #[.slice (some ⟨g6, 0, none⟩) m.length c6] := kM.stored 0 (.slice (some ⟨g6, 0, none⟩) m.length c6)
      have x4 := k6.keptT hkt (by decide)
      have x5 := k7.other (p := ⟨bM, 0, none⟩) (by dsimp only; omega) (.slice (some ⟨g6, 0, none⟩) m.length c6)
      have x6 : OwnInts (w5.setCell ⟨bM, 0, none⟩ (.slice (some ⟨g6, 0, none⟩) m.length c6)) w.heap.size (.slice (some ⟨g6, 0, none⟩) m.length c6) mm := own_keptT (show World.ownsRow w5 w.heap.size 3 1 (.slice (some ⟨g6, 0, none⟩) m.length c6) mm.length (ints mm) from hm6) hkt (by decide)
      have x7 : OwnRes (w5.setCell ⟨bM, 0, none⟩ (.slice (some ⟨g6, 0, none⟩) m.length c6)) w.heap.size (.slice G log.length cp) log := own_keptT (show World.ownsRow w5 w.heap.size 67 2 (.slice G log.length cp) log.length (resCells log) from hlog2) hkt (by decide)
      have x8 := f2.keptT hkt (by decide)
      have x9 := hbl.trans hbs
      have HX := Lib.hid (And.intro x1 (And.intro x2 (And.intro x3 (And.intro x4 (And.intro x5 (And.intro x6 (And.intro x7 (And.intro x8 x9))))))))
      clear x1 x2 x3 x4 x5 x6 x7 x8 x9 hkt hbs kL kO k6 k7 hm6 hlog2 hbl f2
      go_upto_region 12 with fail
      clear qf qc0 ql q1 ql1 f1 kM
      show Code.wp Try.prog _ _ _ (w5.setCell ⟨bM, 0, none⟩ (.slice (some ⟨g6, 0, none⟩) m.length c6))
      obtain ⟨kL, kO, kM, k6, k7, hm6, hlog2, f2, hbl⟩ := HX.out
      clear HX
      generalize w5.setCell ⟨bM, 0, none⟩ (.slice (some ⟨g6, 0, none⟩) m.length c6) = w6 at *
      -- the log
      obtain ⟨i0, hi0, hz0, hz1, hz2⟩ := info_parts res_info
      have s0 := f2.cell 0
      have s1 := f2.cell 1
      have sl := f2.lt
      simp at s0 s1
      have kr := Bk.made w6 67 #[.int .i64 had, .bool gok]
      have hbr := below_al (Below.refl w6.heap.size w6) (.cells #[.int .i64 had, .bool gok] 67)
      have hlog3 := own_keepb' (show World.ownsRow w6 w.heap.size 67 2 (.slice G log.length cp) log.length (resCells log) from hlog2) hbr
      replace kL := kL.keep hbr
      replace kO := kO.keep hbr
      replace kM := kM.keep hbr
      replace k6 := k6.keep hbr
      replace k7 := k7.keep hbr
      have hm7 := own_keepb' (show World.ownsRow w6 w.heap.size 3 1 (.slice (some ⟨g6, 0, none⟩) m.length c6) mm.length (ints mm) from hm6) hbr
      have hsz6 : w.heap.size ≤ (w6.alloc (.cells #[.int .i64 had, .bool gok] 67)).heap.size := Nat.le_trans hbl.size hbr.size
      have hbl7 := below_tr hbl hbr
      have HK := Lib.hid (And.intro kL (And.intro kO (And.intro kM (And.intro k6 (And.intro k7 (And.intro hm7 hbl7))))))
      have hkk : (k : Int) + 1 ≤ 1000000 := by omega
      clear kL kO kM k6 k7 hm6 hm7 hbl hbl7 hlog2 hbr
      go_wp2_with (at_builtin; go_must (refine wpList_append_own_at _ rfl (.tmp 51) (.tmp 53) _ rfl w.heap.size 67 i0 _ 2 16 Try.underlying47 hi0 hz0 hz1 hz2 rfl (by omega) (.slice G log.length cp) log.length (resCells log) rfl hlog3 ⟨w6.heap.size, 0, none⟩ 1 1 [.int .i64 had, .bool gok] rfl rfl (fun j u hu => by rw [Go.WideShapes.add_plain, Nat.zero_add, kr.cell j]; simpa using hu) (by simp [Value.oneCell']) (by simp only [maxLen]; omega) (by omega) (by simp; omega) ?_; intro v9 w7 hrow7 hgrow7 _ _))
      have hgk := keptT_grown hlog3 hgrow7
      have hbg := below_grow (Below.refl w.heap.size _) hlog3 hgrow7 hsz6 (Nat.le_refl _)
      obtain ⟨kL, kO, kM, k6, k7, hm7, hbl7⟩ := HK.out
      have hrl : AlR l me gone op m K bL bM bO b6 b7 w v9 (.int .i64 ((k + 1 : Nat) : Int)) w7 := ⟨k + 1, some ⟨g6, 0, none⟩, c6, by have := HNX2.out.2.1; omega, rfl, by
        rw [HNX2.out.1]
        unfold OwnRes
        rw [resCells_snoc, List.length_append]
        exact hrow7, kL.keptT hgk (by decide), kO.keptT hgk (by decide), kM.keptT hgk (by decide), by
        rw [HNX2.out.1]
        refine ⟨by have := aloneS_ml l me gone op m (k + 1); rw [HNX2.out.1] at this; exact this, .inr (own_keptT hm7 hgk (by decide))⟩, k6.keptT hgk (by decide), k7.keptT hgk (by decide), hbl7.trans hbg⟩
      have HRL := Lib.hid hrl
      clear hrl kL kO kM k6 k7 hm7 hbl7 HK hgk hbg hrow7 hgrow7 hlog3 kr s0 s1 sl f2
      go_wp2_with fail
      go_roundw
      case rel => exact HRL.out
      case measure => simp [intOf]; omega
end Go.Proofs.Ytgjdjgainjedhaa
