/- arena.Next, and what recovers, whatever is gone. Printed by arn_gen.py. -/
import Derived.Test.YtgjdjgainjedhaaGive
import Derived.Test.YtgjdjgainjedhaaERow
import Derived.Defers
import Derived.Recover
namespace Go.Proofs.Ytgjdjgainjedhaa
open Go.RowKit
set_option linter.unusedVariables false
attribute [local go_sem ↓] Go.wp_at_zero Go.wp_at_succ

abbrev accZ : Array Value := #[.int .i64 0, .int .i64 0, .int .i64 0, .int .i64 0]
theorem results_ccc {P : Program} {fn : Func} {p q t : Tmp} {t1 t2 t3 : TypeId} (h : fn.results = #[.cell p t1, .cell q t2, .cell t t3]) (tmps : Array Value) (w : World) (g1 g2 g3 : Nat) (cs1 cs2 : Array Value) (fr1 fr2 : Nat × Nat) (d1 d2 : TypeDesc) (v : Value)
    (hp : tmps.getD p undef = .pointer (some ⟨g1, 0, none⟩)) (hq : tmps.getD q undef = .pointer (some ⟨g2, 0, none⟩)) (hv : tmps.getD t undef = .pointer (some ⟨g3, 0, none⟩)) (k1 : w.heap[g1]? = some (.cells cs1 t1 fr1)) (k2 : w.heap[g2]? = some (.cells cs2 t2 fr2))
    (hu1 : P.underlying t1 = some d1) (hd1 : (match d1 with | .struct _ | .array _ _ => true | _ => false) = true) (hi1 : (P.info? t1).map (·.size) = some cs1.size)
    (hu2 : P.underlying t2 = some d2) (hd2 : (match d2 with | .struct _ | .array _ _ => true | _ => false) = true) (hi2 : (P.info? t2).map (·.size) = some cs2.size) (hl : (loadVar t3 ⟨g3, 0, none⟩).run P w = .ok v w) :
    (results fn tmps).run P w = .ok (.tuple #[.agg cs1, .agg cs2, v]) w := by
  have hp' : tmps[p]?.getD undef = .pointer (some ⟨g1, 0, none⟩) := by simpa using hp
  have hq' : tmps[q]?.getD undef = .pointer (some ⟨g2, 0, none⟩) := by simpa using hq
  have hv' : tmps[t]?.getD undef = .pointer (some ⟨g3, 0, none⟩) := by simpa using hv
  simp [results, h, hp', hq', hv', asAddr, run_loadVar_row w g1 t1 t1 cs1 fr1 d1 k1 hu1 hd1 hi1, run_loadVar_row w g2 t2 t2 cs2 fr2 d2 k2 hu2 hd2 hi2, hl]
theorem load_bool (w : World) (g : Nat) (b : Bool) (k : Bk w g 4 #[.bool b]) : (loadVar 4 ⟨g, 0, none⟩).run Try.prog w = .ok (.bool b) w := by
  have c := k.cell 0
  simp at c
  simp [go_sem, c]
theorem leaves_congr {P : Program} {fn : Func} {t t' : Array Value} {R : Ending → World → Prop} (h : results fn t = results fn t') : ∀ (ds : List Deferred) (u : FrameMode) (w : World), Leaves P fn t R ds u w → Leaves P fn t' R ds u w := by
  intro ds
  induction ds with
  | nil =>
    intro u w hl
    cases u with
    | returning =>
      obtain ⟨v, h1, h2⟩ := hl
      exact ⟨v, by rw [← h]; exact h1, h2⟩
    | panicking c => exact hl
    | run => exact hl.elim
  | cons d ds ih =>
    intro u w hl
    obtain ⟨hu, fv, cap, f, args, h1, h2, h3⟩ := hl
    refine ⟨hu, fv, cap, f, args, h1, h2, h3.mono (fun e u' w' hq => ?_)⟩
    cases e with
    | returned v => exact ih _ _ hq
    | panicked c => exact ih _ _ hq
    | outgrown => exact hq
theorem next_put {R : Ending → World → Prop} {K : Act → World → Prop} {c : List PanicEntry} {a : Act} {w : World} {d : Nat} {v : Value} (hd : d ≠ 10 ∧ d ≠ 11 ∧ d ≠ 12) (h : Exit.then K (bodyPostD Try.prog Try.f62 R) (Exit.panic c) (a.put (some d) v) w) : Exit.then K (bodyPostD Try.prog Try.f62 R) (Exit.panic c) a w := by
  have hres : results Try.f62 (a.put (some d) v).tmps = results Try.f62 a.tmps := by
    have hr : Try.f62.results = #[.cell 10 61, .cell 11 63, .cell 12 4] := Try.results62
    simp [results, Act.put, Array.getElem?_setIfInBounds, hd.1, hd.2.1, hd.2.2]
  exact leaves_congr hres _ _ _ h
def CatchPost (k c o v : Int) (ga go gb : Nat) (w : World) (e : Ending) (u' : FrameMode) (w' : World) : Prop :=
  e = .returned (.tuple #[]) ∧ u' = .panicking [{ v := askV k c o v, recovered := true }] ∧ Bk w' ga 61 (accC k c o v) ∧ Bk w' go 63 outZ ∧ Bk w' gb 4 #[.bool false] ∧ ∀ a : World, a.heap.size ≤ ga → a.heap.size ≤ go → a.heap.size ≤ gb → Below a.heap.size a w → Below a.heap.size a w'
set_option maxRecDepth 100000 in
set_option maxHeartbeats 2000000 in
theorem catch_idle (ga go gb : Nat) (w : World) :
    CallsD Try.prog 63 #[ptr ga, ptr go, ptr gb] .returning w fun e u' w' => e = .returned (.tuple #[]) ∧ u' = .returning ∧ w' = w := by
  refine callsD_of_wpS Try.func63 rfl fun c₀ cs hu => ?_
  apply wpS_seq
  apply wpS_region
  simp [wpOpsS, go_sem, recoverD, hu, Try.ntmps63, Exit.thenS]
  refine wpS_of_wp ?_
  have hn : ∀ w : World, (binOp .neq 20 .nilIface .nilIface).run Try.prog w = .ok (.bool false) w := fun _ => by kernel_rfl
  have heq : ∀ w : World, (eqGuard .neq 20 (.tmp 7) (.const .nilIface) .nilIface .nilIface).run Try.prog w = .ok () w := fun _ => by kernel_rfl
  have hfr : (#[ptr ga, ptr go, ptr gb] ++ ((Array.replicate 17 undef).setIfInBounds 3 .nilIface).setIfInBounds 0 .nilIface) = #[ptr ga, ptr go, ptr gb, .nilIface, undef, undef, .nilIface, undef, undef, undef, undef, undef, undef, undef, undef, undef, undef, undef, undef, undef] := by kernel_rfl
  rw [hfr]
  clear hfr
  go_wp2
  cases c₀
  simp only at hu
  subst hu
  exact ⟨rfl, _, rfl, _, results_none rfl _ _ _, rfl, rfl, rfl⟩
set_option maxRecDepth 100000 in
set_option maxHeartbeats 2000000 in
theorem catch_asked (k c o v : Int) (ga go gb : Nat) (w : World) (ka : Bk w ga 61 accZ) (ko : Bk w go 63 outZ) (kb : Bk w gb 4 #[.bool false]) (hne : ga < go ∧ go < gb) :
    CallsD Try.prog 63 #[ptr ga, ptr go, ptr gb] (.panicking [{ v := askV k c o v, recovered := false }]) w (CatchPost k c o v ga go gb w) := by
  refine callsD_of_wpS Try.func63 rfl fun c₀ cs hu => ?_
  apply wpS_seq
  apply wpS_region
  simp [wpOpsS, go_sem, recoverD, hu, Try.ntmps63, Exit.thenS]
  refine wpS_of_wp ?_
  have hn : ∀ w : World, (binOp .neq 20 (askV k c o v) .nilIface).run Try.prog w = .ok (.bool true) w := fun _ => by kernel_rfl
  have heq : ∀ w : World, (eqGuard .neq 20 (.tmp 7) (.const .nilIface) (askV k c o v) .nilIface).run Try.prog w = .ok () w := fun _ => by kernel_rfl
  have hfr : (#[ptr ga, ptr go, ptr gb] ++ ((Array.replicate 17 undef).setIfInBounds 3 (askV k c o v)).setIfInBounds 0 (askV k c o v)) = #[ptr ga, ptr go, ptr gb, askV k c o v, undef, undef, askV k c o v, undef, undef, undef, undef, undef, undef, undef, undef, undef, undef, undef, undef, undef] := by kernel_rfl
  rw [hfr]
  clear hfr
  have hta : ∀ w : World, (Instr.typeAssert (askV k c o v) 20 129 true).run Try.prog w = .ok (.tuple #[.agg (accC k c o v), .bool true]) w := fun _ => by kernel_rfl
  have l0 := ka.lt
  have l1 := ko.lt
  have l2 := kb.lt
  have kx := Bk.made w 129 (accC k c o v)
  have ka1 := ka.alloc (.cells (accC k c o v) 129)
  have ko1 := ko.alloc (.cells (accC k c o v) 129)
  have kb1 := kb.alloc (.cells (accC k c o v) 129)
  have hbz : ∀ a : World, Below a.heap.size a w → Below a.heap.size a (w.alloc (.cells (accC k c o v) 129)) := fun a ha => below_al ha _
  go_upto_region 5 with (refine wpList_store_new rfl 129 (.tmp 4) (.tmp 12) rfl rfl w.heap.size _ _ (accC k c o v) rfl rfl rfl rfl (by kernel_rfl) rfl (by simp [Value.oneCell']) ?_)
  generalize w.alloc (.cells (accC k c o v) 129) = w1 at *
  generalize w.heap.size = gx at *
  have ka2 : Bk (w1.setRow ga (accC k c o v)) ga 61 (accC k c o v) := setRow_heap _ _ accZ (accC k c o v) 61 (0, 0) ka1
  have ko2 : Bk (w1.setRow ga (accC k c o v)) go 63 outZ := (setRow_other _ _ _ _ (by omega)).trans ko1
  have kb2 : Bk (w1.setRow ga (accC k c o v)) gb 4 #[.bool false] := (setRow_other _ _ _ _ (by omega)).trans kb1
  have ko3 : Bk ((w1.setRow ga (accC k c o v)).setRow go outZ) go 63 outZ := setRow_heap _ _ outZ outZ 63 (0, 0) ko2
  have ka3 : Bk ((w1.setRow ga (accC k c o v)).setRow go outZ) ga 61 (accC k c o v) := (setRow_other _ _ _ _ (by omega)).trans ka2
  have kb3 : Bk ((w1.setRow ga (accC k c o v)).setRow go outZ) gb 4 #[.bool false] := (setRow_other _ _ _ _ (by omega)).trans kb2
  have q0 := kb3.cell 0
  have f0 := kb3.free 0
  have l3 := kb3.lt
  simp at q0
  go_wp2_with (first
    | (refine wpList_load_row rfl 61 (.tmp 17) rfl gx rfl 129 (accC k c o v) (0, 0) _ kx Try.underlying61 rfl (by kernel_rfl) ?_)
    | (refine wpList_store_rowTo rfl 61 (.tmp 0) (.tmp 18) rfl rfl ga (accC k c o v) rfl rfl 61 accZ ka1 (by kernel_rfl) rfl (by simp [Value.oneCell']) ?_)
    | (refine wpList_store_rowTo rfl 63 (.tmp 1) (.tmp 19) rfl rfl go outZ rfl rfl 63 outZ ko2 (by kernel_rfl) rfl (by simp [Value.oneCell']) ?_))
  refine ⟨rfl, _, rfl, _, results_none rfl _ _ _, rfl, rfl, ka3.other (p := ⟨gb, 0, none⟩) (by dsimp only; omega) _, ko3.other (p := ⟨gb, 0, none⟩) (by dsimp only; omega) _, kb3.stored 0 (.bool false), fun a h1 h2 h3 ha => ?_⟩
  exact below_set (below_setRow (below_setRow (hbz a ha) h1 _) h2 _) (p := ⟨gb, 0, none⟩) h3 _
abbrev outG (val : Int) (is : Bool) (err point : Int) (gv : Value) : Array Value := #[.int .i64 val, .bool is, .int .i64 err, .int .i64 point, gv]
def NextPost (r : Ans) (g : Gone) (w : World) (e : Ending) (w' : World) : Prop :=
  match r with
  | .ask k c o v => e = .returned (.tuple #[.agg (accC k c o v), .agg outZ, .bool false]) ∧ Below w.heap.size w w'
  | .out val is err point => ∃ G n c, n = g.length ∧ NilOk G n c ∧ SlGone w' w'.heap.size G g ∧ e = .returned (.tuple #[.agg accZ, .agg (outG val is err point (.slice G n c)), .bool true]) ∧ Below w.heap.size w w'
theorem GoneAt.sl {w : World} {bad : List Nat} {A : Option Addr} {l : Gone} (h : GoneAt w bad A l) : SlGone w w.heap.size A l := by
  intro hl
  obtain ⟨b, o, e, hb, _, hc⟩ := h hl
  exact ⟨b, o, e, hb, hc⟩
theorem GoneAt.set {w : World} {g i : Nat} {u : Value} {bad : List Nat} {A : Option Addr} {l : Gone} (h : GoneAt w bad A l) (hm : g ∈ bad) : GoneAt (w.setCell ⟨g, i, none⟩ u) bad A l := h.stp (Stp.set w g i u) hm
set_option maxRecDepth 100000 in
set_option maxHeartbeats 8000000 in
theorem next_any (l : Ly) (me : Int) (op : Opr) (G : Option Addr) (gn gc : Nat) (g : Gone) (A : Option Addr) (cap : Nat) (log : Log) (w : World) (f : LyFull l) (hgn : gn = g.length) (hgA : NilOk G gn gc) (hg : SlGone w w.heap.size G g) (hgm : g.length ≤ 1000) (ha : op.a ≤ 9223372036854775807) (hs : SlRes w w.heap.size A log) (hl : log.length ≤ 1000) :
    Calls Try.prog 62 #[lyV l, .int .i64 me, .slice G gn gc, .agg (oprC op), .slice A log.length cap] w (NextPost (nextR l op log) g w) := by
  have HG := Lib.hid (And.intro hg (And.intro hgn (And.intro hgA hgm)))
  clear hg hgn hgA hgm
  have hmf : ∀ (fn : Fn) (first cap : Array Value) (w : World), (Instr.makeFunc fn first cap).run Try.prog w = .ok (.func fn first cap) w := fun _ _ _ _ => rfl
  have k0 := ((((Bk.made w 40 (lyC l)).alloc (.cells (oprC op) 46)).alloc (.cells accZ 61)).alloc (.cells outZ 63)).alloc (.cells #[.bool false] 4)
  have k1 := (((Bk.new (w.alloc (.cells (lyC l) 40)) (g := w.heap.size + 1) (by simp) 46 (oprC op)).alloc (.cells accZ 61)).alloc (.cells outZ 63)).alloc (.cells #[.bool false] 4)
  have k2 := ((Bk.new ((w.alloc (.cells (lyC l) 40)).alloc (.cells (oprC op) 46)) (g := w.heap.size + 1 + 1) (by simp) 61 accZ).alloc (.cells outZ 63)).alloc (.cells #[.bool false] 4)
  have k3 := (Bk.new (((w.alloc (.cells (lyC l) 40)).alloc (.cells (oprC op) 46)).alloc (.cells accZ 61)) (g := w.heap.size + 1 + 1 + 1) (by simp) 63 outZ).alloc (.cells #[.bool false] 4)
  have k4 := Bk.new ((((w.alloc (.cells (lyC l) 40)).alloc (.cells (oprC op) 46)).alloc (.cells accZ 61)).alloc (.cells outZ 63)) (g := w.heap.size + 1 + 1 + 1 + 1) (by simp) 4 #[.bool false]
  have hbl := below_al (below_al (below_al (below_al (below_al (Below.refl w.heap.size w) (.cells (lyC l) 40)) (.cells (oprC op) 46)) (.cells accZ 61)) (.cells outZ 63)) (.cells #[.bool false] 4)
  go_enter_defers Try.func62, Try.ntmps62
  go_upto_region 2 with fail
  generalize ((((w.alloc (.cells (lyC l) 40)).alloc (.cells (oprC op) 46)).alloc (.cells accZ 61)).alloc (.cells outZ 63)).alloc (.cells #[.bool false] 4) = w8 at *
  obtain ⟨b0, hb0⟩ : ∃ g, w.heap.size = g := ⟨_, rfl⟩
  obtain ⟨b1, hb1⟩ : ∃ g, w.heap.size + 1 = g := ⟨_, rfl⟩
  obtain ⟨b2, hb2⟩ : ∃ g, w.heap.size + 1 + 1 = g := ⟨_, rfl⟩
  obtain ⟨b3, hb3⟩ : ∃ g, w.heap.size + 1 + 1 + 1 = g := ⟨_, rfl⟩
  obtain ⟨b4, hb4⟩ : ∃ g, w.heap.size + 1 + 1 + 1 + 1 = g := ⟨_, rfl⟩
  rw [hb4] at k4 ⊢
  rw [hb3] at k3 ⊢
  rw [hb2] at k2 ⊢
  rw [hb1] at k1 ⊢
  rw [hb0] at k0 ⊢
  have n0 : w.heap.size ≤ b0 := by omega
  have n1 : w.heap.size ≤ b1 := by omega
  have n2 : w.heap.size ≤ b2 := by omega
  have n3 : w.heap.size ≤ b3 := by omega
  have n4 : w.heap.size ≤ b4 := by omega
  have hch : b0 < b1 ∧ b1 < b2 ∧ b2 < b3 ∧ b3 < b4 := by omega
  clear hb0 hb1 hb2 hb3 hb4
  have HSL := Lib.hid hs
  have HF := Lib.hid f
  clear hs f
  go_upto_region 3 with (refine wpList_load_row rfl 40 (.tmp 5) rfl b0 rfl 40 (lyC l) (0, 0) _ k0 Try.underlying40 rfl (by kernel_rfl) ?_)
  have kp := Bk.made w8 133 (progC l A log.length cap 0)
  have l4 := k4.lt
  replace k1 := k1.alloc (.cells (progC l A log.length cap 0) 133)
  replace k2 := k2.alloc (.cells (progC l A log.length cap 0) 133)
  replace k3 := k3.alloc (.cells (progC l A log.length cap 0) 133)
  replace k4 := k4.alloc (.cells (progC l A log.length cap 0) 133)
  have zp : w.heap.size ≤ w8.heap.size := hbl.size
  replace hbl := below_al hbl (.cells (progC l A log.length cap 0) 133)
  clear k0
  show Code.wp Try.prog _ _ _ (w8.alloc (.cells (progC l A log.length cap 0) 133))
  obtain ⟨gp, hgp⟩ : ∃ g, w8.heap.size = g := ⟨_, rfl⟩
  have hbg : b4 < gp := by omega
  have zp' : w.heap.size ≤ gp := by omega
  rw [hgp] at kp
  rw [hgp]
  have hp : PrSt (w8.alloc (.cells (progC l A log.length cap 0) 133)) w.heap.size gp l A cap 0 log := ⟨kp, HSL.out.below hbl, zp', hl⟩
  clear hgp kp l4
  generalize w8.alloc (.cells (progC l A log.length cap 0) 133) = w9 at *
  have y0 := k1.cell 0
  have y2 := k1.cell 2
  have l1 := k1.lt
  simp at y0 y2
  by_cases hk1 : op.kind = 1
  · have HNX := Lib.hid (show nextR l op log = takeM l 0 log by unfold nextR; rw [if_pos hk1])
    have HK1 := Lib.hid hk1
    rw [hk1] at y0
    clear hk1
    go_upto_region 6 with fail
    go_wp2_with fail
    (with_reducible refine (take_any hp HF.out).mono ?_)
    intro e w13 hpost
    obtain ⟨ans, hans⟩ : ∃ a, takeM l 0 log = a := ⟨_, rfl⟩
    rw [hans] at hpost HNX
    clear hans y0 y2 l1 hp
    cases ans with
    | ask k c o v =>
      obtain ⟨rfl, hst⟩ := hpost
      replace k2 := hst.keep k2 (by omega)
      replace k3 := hst.keep k3 (by omega)
      replace k4 := hst.keep k4 (by omega)
      replace hbl := hst.below zp' hbl
      refine leaves_cons (f := 63) (args := #[ptr b2, ptr b3, ptr b4]) (by simp) (by simp [go_sem]) ?_
      refine (catch_asked k c o v b2 b3 b4 _ k2 k3 k4 (by omega)).mono ?_
      rintro e u' w14 ⟨rfl, rfl, c2, c3, c4, hbz⟩
      refine ⟨_, results_ccc (p := 10) (q := 11) (t := 12) (t1 := 61) (t2 := 63) (t3 := 4) rfl _ _ b2 b3 b4 (accC k c o v) outZ (0, 0) (0, 0) _ _ _ rfl rfl rfl c2 c3 Try.underlying61 rfl (by kernel_rfl) Try.underlying63 rfl (by kernel_rfl) (load_bool _ b4 false c4), ?_⟩
      rw [HNX.out]
      exact ⟨rfl, hbz w n2 n3 n4 hbl⟩
    | out val is err point =>
      obtain ⟨rfl, hst⟩ := hpost
      replace k2 := hst.keep k2 (by omega)
      replace k3 := hst.keep k3 (by omega)
      replace k4 := hst.keep k4 (by omega)
      replace hbl := hst.below zp' hbl
      clear hst
      have a3 : Bk (w13.setRow b3 (outC val is err point)) b3 63 (outC val is err point) := setRow_heap _ _ outZ (outC val is err point) 63 (0, 0) k3
      have a2 : Bk (w13.setRow b3 (outC val is err point)) b2 61 accZ := (setRow_other _ _ _ _ (by omega)).trans k2
      have a4 : Bk (w13.setRow b3 (outC val is err point)) b4 4 #[.bool false] := (setRow_other _ _ _ _ (by omega)).trans k4
      replace hbl := below_setRow hbl n3 (outC val is err point)
      go_upto_region 9 with (refine wpList_store_rowTo rfl 63 (.tmp 11) (.tmp 25) rfl rfl b3 (outC val is err point) rfl rfl 63 outZ k3 (by kernel_rfl) rfl (by simp [Value.oneCell']) ?_)
      clear k1 k2 k3 k4
      generalize w13.setRow b3 (outC val is err point) = w14 at *
      go_wp2_with fail
      (with_reducible refine (cloneg_any G gn gc g _ HG.out.2.1 HG.out.2.2.1 ((HG.out.1.below hbl).more hbl.size) HG.out.2.2.2).mono ?_)
      rintro e w15 ⟨G2, m2, c9, rfl, hm2, hni, hown, hb⟩
      have HM2 := Lib.hid (And.intro hm2 hni)
      clear hm2 hni
      replace a2 := a2.keep hb
      replace a3 := a3.keep hb
      replace a4 := a4.keep hb
      replace hbl := below_tr hbl hb
      have hga : GoneAt w15 [b2, b3, b4] G2 g := own_goneAt hown HM2.out.1 (by intro x hx; simp at hx; rcases hx with rfl | rfl | rfl; exact ⟨_, _, a2, by decide⟩; exact ⟨_, _, a3, by decide⟩; exact ⟨_, _, a4, by decide⟩)
      clear hb hown
      have q4 := a3.cell 4
      have f4 := a3.free 4
      have l4 := a3.lt
      simp at q4
      go_upto_region 10 with fail
      clear q4 f4 l4
      replace a3 : Bk (w15.setCell ⟨b3, 4, none⟩ (.slice G2 m2 c9)) b3 63 (outG val is err point (.slice G2 m2 c9)) := a3.stored 4 (.slice G2 m2 c9)
      replace a2 := a2.other (p := ⟨b3, 4, none⟩) (by dsimp only; omega) (.slice G2 m2 c9)
      replace a4 := a4.other (p := ⟨b3, 4, none⟩) (by dsimp only; omega) (.slice G2 m2 c9)
      replace hbl := below_set hbl (p := ⟨b3, 4, none⟩) n3 (.slice G2 m2 c9)
      replace hga := hga.set (g := b3) (i := 4) (u := (.slice G2 m2 c9)) (by simp)
      generalize w15.setCell ⟨b3, 4, none⟩ (.slice G2 m2 c9) = w16 at *
      refine wp_region_E (S := fun w' => Bk w' b3 63 (outG val is err point (.slice G2 m2 c9))) (E := fun _ => false) (by kernel_rfl) ?_
      replace a2 := a2.drew
      replace a3 := a3.drew
      replace a4 := a4.drew
      replace hbl := hbl.drew
      replace hga := hga.keep (below_drew' (Below.refl _ _))
      generalize w16.drew = w17 at *
      refine wpAnyE_take (i := 0) (oi := _) (v := .agg accZ) rfl (by kernel_rfl) (by kernel_rfl) (by kernel_rfl) (by kernel_rfl) (fun _ _ _ h => next_put (by omega) h) (Or.inl ⟨by rfl, ?_⟩) a3 ?_
      · intro w' hSw
        (try simp only [List.getElem_toArray, List.getElem_cons_zero])
        go_simp
      (try simp only [List.getElem_toArray, List.getElem_cons_zero, Act.put, List.setIfInBounds_toArray, List.set_cons_zero, List.set_cons_succ])
      refine wpAnyE_take (i := 1) (oi := _) (v := .agg (outG val is err point (.slice G2 m2 c9))) rfl (by kernel_rfl) (by kernel_rfl) (by kernel_rfl) (by kernel_rfl) (fun _ _ _ h => next_put (by omega) h) (Or.inl ⟨by rfl, ?_⟩) a3 ?_
      · intro w' hSw
        (try simp only [List.getElem_toArray, List.getElem_cons_succ, List.getElem_cons_zero])
        simp only [execOp, Instr.loadAt, Instr.sureAddr, Sem.run_bind, Sem.run_pure]
        rw [show (Act.eval _ (Operand.tmp 11)) = Value.pointer (some ⟨b3, 0, none⟩) from rfl]
        simp only [Sem.run_pure, Result.andThen_ok, run_loadVar_row w' b3 63 63 (outG val is err point (.slice G2 m2 c9)) (0, 0) _ hSw Try.underlying63 rfl (by kernel_rfl)]
      (try simp only [List.getElem_toArray, List.getElem_cons_succ, List.getElem_cons_zero, Act.put, List.setIfInBounds_toArray, List.set_cons_zero, List.set_cons_succ])
      refine wpAnyE_one (i := 2) (o := _) (by kernel_rfl) rfl (fun K hK => ?_)
      rw [if_pos (by rfl)]
      refine wp_store_row 61 (.tmp 10) (.tmp 35) rfl b2 accZ rfl rfl 61 accZ a2 (by kernel_rfl) rfl (by simp [Value.oneCell']) ?_
      have c2 : Bk (w17.setRow b2 accZ) b2 61 accZ := setRow_heap _ _ accZ accZ 61 (0, 0) a2
      replace a3 : Bk (w17.setRow b2 accZ) b3 63 (outG val is err point (.slice G2 m2 c9)) := (setRow_other _ _ _ _ (by omega)).trans a3
      replace a4 : Bk (w17.setRow b2 accZ) b4 4 #[.bool false] := (setRow_other _ _ _ _ (by omega)).trans a4
      replace hbl := below_setRow hbl n2 accZ
      replace hga := hga.row (g := b2) (cs := accZ) (by simp)
      refine hK.out _ _ (fun _ => a3) ?_
      clear hK K a2
      (try simp only [List.getElem_toArray, List.getElem_cons_succ, List.getElem_cons_zero, Act.put])
      generalize w17.setRow b2 accZ = w18 at *
      refine wpAnyE_one (i := 3) (o := _) (by kernel_rfl) rfl (fun K hK => ?_)
      rw [if_pos (by rfl)]
      refine wp_store_row 63 (.tmp 11) (.tmp 36) rfl b3 (outG val is err point (.slice G2 m2 c9)) rfl rfl 63 (outG val is err point (.slice G2 m2 c9)) a3 (by kernel_rfl) rfl (by simp [Value.oneCell']) ?_
      have c3 : Bk (w18.setRow b3 (outG val is err point (.slice G2 m2 c9))) b3 63 (outG val is err point (.slice G2 m2 c9)) := setRow_heap _ _ (outG val is err point (.slice G2 m2 c9)) (outG val is err point (.slice G2 m2 c9)) 63 (0, 0) a3
      replace c2 : Bk (w18.setRow b3 (outG val is err point (.slice G2 m2 c9))) b2 61 accZ := (setRow_other _ _ _ _ (by omega)).trans c2
      replace a4 : Bk (w18.setRow b3 (outG val is err point (.slice G2 m2 c9))) b4 4 #[.bool false] := (setRow_other _ _ _ _ (by omega)).trans a4
      replace hbl := below_setRow hbl n3 (outG val is err point (.slice G2 m2 c9))
      replace hga := hga.row (g := b3) (cs := (outG val is err point (.slice G2 m2 c9))) (by simp)
      refine hK.out _ _ (fun _ => c3) ?_
      clear hK K a3
      (try simp only [List.getElem_toArray, List.getElem_cons_succ, List.getElem_cons_zero, Act.put])
      generalize w18.setRow b3 (outG val is err point (.slice G2 m2 c9)) = w19 at *
      have q6 := a4.cell 0
      have f6 := a4.free 0
      have l6 := a4.lt
      simp at q6
      refine wpAnyE_one (i := 4) (o := _) (by kernel_rfl) rfl (fun K hK => ?_)
      (try simp only [List.getElem_toArray, List.getElem_cons_succ, List.getElem_cons_zero])
      go_simp
      clear q6 f6 l6
      replace a4 : Bk (w19.setCell ⟨b4, 0, none⟩ (.bool true)) b4 4 #[.bool true] := a4.stored 0 (.bool true)
      replace c2 := c2.other (p := ⟨b4, 0, none⟩) (by dsimp only; omega) (.bool true)
      replace c3 := c3.other (p := ⟨b4, 0, none⟩) (by dsimp only; omega) (.bool true)
      replace hbl := below_set hbl (p := ⟨b4, 0, none⟩) n4 (.bool true)
      replace hga := hga.set (g := b4) (i := 0) (u := (.bool true)) (by simp)
      refine hK.out _ _ (fun _ => c3) ?_
      clear hK K
      (try simp only [List.getElem_toArray, List.getElem_cons_succ, List.getElem_cons_zero, Act.put, List.setIfInBounds_toArray, List.set_cons_zero, List.set_cons_succ])
      generalize w19.setCell ⟨b4, 0, none⟩ (.bool true) = w20 at *
      refine wpAnyE_done (by kernel_rfl) ?_ _
      go_wp2
      refine leaves_cons (f := 63) (args := #[ptr b2, ptr b3, ptr b4]) (by simp) (by simp [go_sem]) ?_
      refine (catch_idle b2 b3 b4 _).mono ?_
      rintro e u' w21 ⟨rfl, rfl, rfl⟩
      refine ⟨_, results_ccc (p := 10) (q := 11) (t := 12) (t1 := 61) (t2 := 63) (t3 := 4) rfl _ _ b2 b3 b4 accZ (outG val is err point (.slice G2 m2 c9)) (0, 0) (0, 0) _ _ _ rfl rfl rfl c2 c3 Try.underlying61 rfl (by kernel_rfl) Try.underlying63 rfl (by kernel_rfl) (load_bool _ b4 true a4), ?_⟩
      rw [HNX.out]
      exact ⟨G2, m2, c9, HM2.out.1, HM2.out.2, hga.sl, rfl, hbl⟩
  · by_cases hk2 : op.kind = 2
    · have HNX := Lib.hid (show nextR l op log = giveM l op.a 0 log by unfold nextR; rw [if_neg hk1, if_pos hk2])
      have HK1 := Lib.hid hk2
      rw [hk2] at y0
      clear hk1 hk2
      go_upto_region 8 with fail
      go_wp2_with fail
      (with_reducible refine (give_any op.a ha hp HF.out).mono ?_)
      intro e w13 hpost
      obtain ⟨ans, hans⟩ : ∃ a, giveM l op.a 0 log = a := ⟨_, rfl⟩
      rw [hans] at hpost HNX
      clear hans y0 y2 l1 hp
      cases ans with
      | ask k c o v =>
        obtain ⟨rfl, hst⟩ := hpost
        replace k2 := hst.keep k2 (by omega)
        replace k3 := hst.keep k3 (by omega)
        replace k4 := hst.keep k4 (by omega)
        replace hbl := hst.below zp' hbl
        refine leaves_cons (f := 63) (args := #[ptr b2, ptr b3, ptr b4]) (by simp) (by simp [go_sem]) ?_
        refine (catch_asked k c o v b2 b3 b4 _ k2 k3 k4 (by omega)).mono ?_
        rintro e u' w14 ⟨rfl, rfl, c2, c3, c4, hbz⟩
        refine ⟨_, results_ccc (p := 10) (q := 11) (t := 12) (t1 := 61) (t2 := 63) (t3 := 4) rfl _ _ b2 b3 b4 (accC k c o v) outZ (0, 0) (0, 0) _ _ _ rfl rfl rfl c2 c3 Try.underlying61 rfl (by kernel_rfl) Try.underlying63 rfl (by kernel_rfl) (load_bool _ b4 false c4), ?_⟩
        rw [HNX.out]
        exact ⟨rfl, hbz w n2 n3 n4 hbl⟩
      | out val is err point =>
        obtain ⟨rfl, hst⟩ := hpost
        replace k2 := hst.keep k2 (by omega)
        replace k3 := hst.keep k3 (by omega)
        replace k4 := hst.keep k4 (by omega)
        replace hbl := hst.below zp' hbl
        clear hst
        have a3 : Bk (w13.setRow b3 (outC val is err point)) b3 63 (outC val is err point) := setRow_heap _ _ outZ (outC val is err point) 63 (0, 0) k3
        have a2 : Bk (w13.setRow b3 (outC val is err point)) b2 61 accZ := (setRow_other _ _ _ _ (by omega)).trans k2
        have a4 : Bk (w13.setRow b3 (outC val is err point)) b4 4 #[.bool false] := (setRow_other _ _ _ _ (by omega)).trans k4
        replace hbl := below_setRow hbl n3 (outC val is err point)
        go_upto_region 9 with (refine wpList_store_rowTo rfl 63 (.tmp 11) (.tmp 31) rfl rfl b3 (outC val is err point) rfl rfl 63 outZ k3 (by kernel_rfl) rfl (by simp [Value.oneCell']) ?_)
        clear k1 k2 k3 k4
        generalize w13.setRow b3 (outC val is err point) = w14 at *
        go_wp2_with fail
        (with_reducible refine (cloneg_any G gn gc g _ HG.out.2.1 HG.out.2.2.1 ((HG.out.1.below hbl).more hbl.size) HG.out.2.2.2).mono ?_)
        rintro e w15 ⟨G2, m2, c9, rfl, hm2, hni, hown, hb⟩
        have HM2 := Lib.hid (And.intro hm2 hni)
        clear hm2 hni
        replace a2 := a2.keep hb
        replace a3 := a3.keep hb
        replace a4 := a4.keep hb
        replace hbl := below_tr hbl hb
        have hga : GoneAt w15 [b2, b3, b4] G2 g := own_goneAt hown HM2.out.1 (by intro x hx; simp at hx; rcases hx with rfl | rfl | rfl; exact ⟨_, _, a2, by decide⟩; exact ⟨_, _, a3, by decide⟩; exact ⟨_, _, a4, by decide⟩)
        clear hb hown
        have q4 := a3.cell 4
        have f4 := a3.free 4
        have l4 := a3.lt
        simp at q4
        go_upto_region 10 with fail
        clear q4 f4 l4
        replace a3 : Bk (w15.setCell ⟨b3, 4, none⟩ (.slice G2 m2 c9)) b3 63 (outG val is err point (.slice G2 m2 c9)) := a3.stored 4 (.slice G2 m2 c9)
        replace a2 := a2.other (p := ⟨b3, 4, none⟩) (by dsimp only; omega) (.slice G2 m2 c9)
        replace a4 := a4.other (p := ⟨b3, 4, none⟩) (by dsimp only; omega) (.slice G2 m2 c9)
        replace hbl := below_set hbl (p := ⟨b3, 4, none⟩) n3 (.slice G2 m2 c9)
        replace hga := hga.set (g := b3) (i := 4) (u := (.slice G2 m2 c9)) (by simp)
        generalize w15.setCell ⟨b3, 4, none⟩ (.slice G2 m2 c9) = w16 at *
        refine wp_region_E (S := fun w' => Bk w' b3 63 (outG val is err point (.slice G2 m2 c9))) (E := fun _ => false) (by kernel_rfl) ?_
        replace a2 := a2.drew
        replace a3 := a3.drew
        replace a4 := a4.drew
        replace hbl := hbl.drew
        replace hga := hga.keep (below_drew' (Below.refl _ _))
        generalize w16.drew = w17 at *
        refine wpAnyE_take (i := 0) (oi := _) (v := .agg accZ) rfl (by kernel_rfl) (by kernel_rfl) (by kernel_rfl) (by kernel_rfl) (fun _ _ _ h => next_put (by omega) h) (Or.inl ⟨by rfl, ?_⟩) a3 ?_
        · intro w' hSw
          (try simp only [List.getElem_toArray, List.getElem_cons_zero])
          go_simp
        (try simp only [List.getElem_toArray, List.getElem_cons_zero, Act.put, List.setIfInBounds_toArray, List.set_cons_zero, List.set_cons_succ])
        refine wpAnyE_take (i := 1) (oi := _) (v := .agg (outG val is err point (.slice G2 m2 c9))) rfl (by kernel_rfl) (by kernel_rfl) (by kernel_rfl) (by kernel_rfl) (fun _ _ _ h => next_put (by omega) h) (Or.inl ⟨by rfl, ?_⟩) a3 ?_
        · intro w' hSw
          (try simp only [List.getElem_toArray, List.getElem_cons_succ, List.getElem_cons_zero])
          simp only [execOp, Instr.loadAt, Instr.sureAddr, Sem.run_bind, Sem.run_pure]
          rw [show (Act.eval _ (Operand.tmp 11)) = Value.pointer (some ⟨b3, 0, none⟩) from rfl]
          simp only [Sem.run_pure, Result.andThen_ok, run_loadVar_row w' b3 63 63 (outG val is err point (.slice G2 m2 c9)) (0, 0) _ hSw Try.underlying63 rfl (by kernel_rfl)]
        (try simp only [List.getElem_toArray, List.getElem_cons_succ, List.getElem_cons_zero, Act.put, List.setIfInBounds_toArray, List.set_cons_zero, List.set_cons_succ])
        refine wpAnyE_one (i := 2) (o := _) (by kernel_rfl) rfl (fun K hK => ?_)
        rw [if_pos (by rfl)]
        refine wp_store_row 61 (.tmp 10) (.tmp 35) rfl b2 accZ rfl rfl 61 accZ a2 (by kernel_rfl) rfl (by simp [Value.oneCell']) ?_
        have c2 : Bk (w17.setRow b2 accZ) b2 61 accZ := setRow_heap _ _ accZ accZ 61 (0, 0) a2
        replace a3 : Bk (w17.setRow b2 accZ) b3 63 (outG val is err point (.slice G2 m2 c9)) := (setRow_other _ _ _ _ (by omega)).trans a3
        replace a4 : Bk (w17.setRow b2 accZ) b4 4 #[.bool false] := (setRow_other _ _ _ _ (by omega)).trans a4
        replace hbl := below_setRow hbl n2 accZ
        replace hga := hga.row (g := b2) (cs := accZ) (by simp)
        refine hK.out _ _ (fun _ => a3) ?_
        clear hK K a2
        (try simp only [List.getElem_toArray, List.getElem_cons_succ, List.getElem_cons_zero, Act.put])
        generalize w17.setRow b2 accZ = w18 at *
        refine wpAnyE_one (i := 3) (o := _) (by kernel_rfl) rfl (fun K hK => ?_)
        rw [if_pos (by rfl)]
        refine wp_store_row 63 (.tmp 11) (.tmp 36) rfl b3 (outG val is err point (.slice G2 m2 c9)) rfl rfl 63 (outG val is err point (.slice G2 m2 c9)) a3 (by kernel_rfl) rfl (by simp [Value.oneCell']) ?_
        have c3 : Bk (w18.setRow b3 (outG val is err point (.slice G2 m2 c9))) b3 63 (outG val is err point (.slice G2 m2 c9)) := setRow_heap _ _ (outG val is err point (.slice G2 m2 c9)) (outG val is err point (.slice G2 m2 c9)) 63 (0, 0) a3
        replace c2 : Bk (w18.setRow b3 (outG val is err point (.slice G2 m2 c9))) b2 61 accZ := (setRow_other _ _ _ _ (by omega)).trans c2
        replace a4 : Bk (w18.setRow b3 (outG val is err point (.slice G2 m2 c9))) b4 4 #[.bool false] := (setRow_other _ _ _ _ (by omega)).trans a4
        replace hbl := below_setRow hbl n3 (outG val is err point (.slice G2 m2 c9))
        replace hga := hga.row (g := b3) (cs := (outG val is err point (.slice G2 m2 c9))) (by simp)
        refine hK.out _ _ (fun _ => c3) ?_
        clear hK K a3
        (try simp only [List.getElem_toArray, List.getElem_cons_succ, List.getElem_cons_zero, Act.put])
        generalize w18.setRow b3 (outG val is err point (.slice G2 m2 c9)) = w19 at *
        have q6 := a4.cell 0
        have f6 := a4.free 0
        have l6 := a4.lt
        simp at q6
        refine wpAnyE_one (i := 4) (o := _) (by kernel_rfl) rfl (fun K hK => ?_)
        (try simp only [List.getElem_toArray, List.getElem_cons_succ, List.getElem_cons_zero])
        go_simp
        clear q6 f6 l6
        replace a4 : Bk (w19.setCell ⟨b4, 0, none⟩ (.bool true)) b4 4 #[.bool true] := a4.stored 0 (.bool true)
        replace c2 := c2.other (p := ⟨b4, 0, none⟩) (by dsimp only; omega) (.bool true)
        replace c3 := c3.other (p := ⟨b4, 0, none⟩) (by dsimp only; omega) (.bool true)
        replace hbl := below_set hbl (p := ⟨b4, 0, none⟩) n4 (.bool true)
        replace hga := hga.set (g := b4) (i := 0) (u := (.bool true)) (by simp)
        refine hK.out _ _ (fun _ => c3) ?_
        clear hK K
        (try simp only [List.getElem_toArray, List.getElem_cons_succ, List.getElem_cons_zero, Act.put, List.setIfInBounds_toArray, List.set_cons_zero, List.set_cons_succ])
        generalize w19.setCell ⟨b4, 0, none⟩ (.bool true) = w20 at *
        refine wpAnyE_done (by kernel_rfl) ?_ _
        go_wp2
        refine leaves_cons (f := 63) (args := #[ptr b2, ptr b3, ptr b4]) (by simp) (by simp [go_sem]) ?_
        refine (catch_idle b2 b3 b4 _).mono ?_
        rintro e u' w21 ⟨rfl, rfl, rfl⟩
        refine ⟨_, results_ccc (p := 10) (q := 11) (t := 12) (t1 := 61) (t2 := 63) (t3 := 4) rfl _ _ b2 b3 b4 accZ (outG val is err point (.slice G2 m2 c9)) (0, 0) (0, 0) _ _ _ rfl rfl rfl c2 c3 Try.underlying61 rfl (by kernel_rfl) Try.underlying63 rfl (by kernel_rfl) (load_bool _ b4 true a4), ?_⟩
        rw [HNX.out]
        exact ⟨G2, m2, c9, HM2.out.1, HM2.out.2, hga.sl, rfl, hbl⟩
    · have HNX := Lib.hid (show nextR l op log = .out 0 false 1 (-1) by unfold nextR; rw [if_neg hk1, if_neg hk2])
      have g1 : (op.kind == (1 : Int)) = false := by simp [hk1]
      have g2 : (op.kind == (2 : Int)) = false := by simp [hk2]
      have g3 : decide (op.kind = (1 : Int)) = false := by simp [hk1]
      have g4 : decide (op.kind = (2 : Int)) = false := by simp [hk2]
      clear hk1 hk2
      have a3 : Bk (w9.setRow b3 (outC 0 false 1 (-1))) b3 63 (outC 0 false 1 (-1)) := setRow_heap _ _ outZ (outC 0 false 1 (-1)) 63 (0, 0) k3
      have a2 : Bk (w9.setRow b3 (outC 0 false 1 (-1))) b2 61 accZ := (setRow_other _ _ _ _ (by omega)).trans k2
      have a4 : Bk (w9.setRow b3 (outC 0 false 1 (-1))) b4 4 #[.bool false] := (setRow_other _ _ _ _ (by omega)).trans k4
      replace hbl := below_setRow hbl n3 (outC 0 false 1 (-1))
      go_upto_region 9 with (refine wpList_store_rowTo rfl 63 (.tmp 11) (.tmp 21) rfl rfl b3 (outC 0 false 1 (-1)) rfl rfl 63 outZ k3 (by kernel_rfl) rfl (by simp [Value.oneCell']) ?_)
      clear k1 k2 k3 k4 hp y0 y2 l1 g1 g2 g3 g4
      generalize w9.setRow b3 (outC 0 false 1 (-1)) = w14 at *
      go_wp2_with fail
      (with_reducible refine (cloneg_any G gn gc g _ HG.out.2.1 HG.out.2.2.1 ((HG.out.1.below hbl).more hbl.size) HG.out.2.2.2).mono ?_)
      rintro e w15 ⟨G2, m2, c9, rfl, hm2, hni, hown, hb⟩
      have HM2 := Lib.hid (And.intro hm2 hni)
      clear hm2 hni
      replace a2 := a2.keep hb
      replace a3 := a3.keep hb
      replace a4 := a4.keep hb
      replace hbl := below_tr hbl hb
      have hga : GoneAt w15 [b2, b3, b4] G2 g := own_goneAt hown HM2.out.1 (by intro x hx; simp at hx; rcases hx with rfl | rfl | rfl; exact ⟨_, _, a2, by decide⟩; exact ⟨_, _, a3, by decide⟩; exact ⟨_, _, a4, by decide⟩)
      clear hb hown
      have q4 := a3.cell 4
      have f4 := a3.free 4
      have l4 := a3.lt
      simp at q4
      go_upto_region 10 with fail
      clear q4 f4 l4
      replace a3 : Bk (w15.setCell ⟨b3, 4, none⟩ (.slice G2 m2 c9)) b3 63 (outG 0 false 1 (-1) (.slice G2 m2 c9)) := a3.stored 4 (.slice G2 m2 c9)
      replace a2 := a2.other (p := ⟨b3, 4, none⟩) (by dsimp only; omega) (.slice G2 m2 c9)
      replace a4 := a4.other (p := ⟨b3, 4, none⟩) (by dsimp only; omega) (.slice G2 m2 c9)
      replace hbl := below_set hbl (p := ⟨b3, 4, none⟩) n3 (.slice G2 m2 c9)
      replace hga := hga.set (g := b3) (i := 4) (u := (.slice G2 m2 c9)) (by simp)
      generalize w15.setCell ⟨b3, 4, none⟩ (.slice G2 m2 c9) = w16 at *
      refine wp_region_E (S := fun w' => Bk w' b3 63 (outG 0 false 1 (-1) (.slice G2 m2 c9))) (E := fun _ => false) (by kernel_rfl) ?_
      replace a2 := a2.drew
      replace a3 := a3.drew
      replace a4 := a4.drew
      replace hbl := hbl.drew
      replace hga := hga.keep (below_drew' (Below.refl _ _))
      generalize w16.drew = w17 at *
      refine wpAnyE_take (i := 0) (oi := _) (v := .agg accZ) rfl (by kernel_rfl) (by kernel_rfl) (by kernel_rfl) (by kernel_rfl) (fun _ _ _ h => next_put (by omega) h) (Or.inl ⟨by rfl, ?_⟩) a3 ?_
      · intro w' hSw
        (try simp only [List.getElem_toArray, List.getElem_cons_zero])
        go_simp
      (try simp only [List.getElem_toArray, List.getElem_cons_zero, Act.put, List.setIfInBounds_toArray, List.set_cons_zero, List.set_cons_succ])
      refine wpAnyE_take (i := 1) (oi := _) (v := .agg (outG 0 false 1 (-1) (.slice G2 m2 c9))) rfl (by kernel_rfl) (by kernel_rfl) (by kernel_rfl) (by kernel_rfl) (fun _ _ _ h => next_put (by omega) h) (Or.inl ⟨by rfl, ?_⟩) a3 ?_
      · intro w' hSw
        (try simp only [List.getElem_toArray, List.getElem_cons_succ, List.getElem_cons_zero])
        simp only [execOp, Instr.loadAt, Instr.sureAddr, Sem.run_bind, Sem.run_pure]
        rw [show (Act.eval _ (Operand.tmp 11)) = Value.pointer (some ⟨b3, 0, none⟩) from rfl]
        simp only [Sem.run_pure, Result.andThen_ok, run_loadVar_row w' b3 63 63 (outG 0 false 1 (-1) (.slice G2 m2 c9)) (0, 0) _ hSw Try.underlying63 rfl (by kernel_rfl)]
      (try simp only [List.getElem_toArray, List.getElem_cons_succ, List.getElem_cons_zero, Act.put, List.setIfInBounds_toArray, List.set_cons_zero, List.set_cons_succ])
      refine wpAnyE_one (i := 2) (o := _) (by kernel_rfl) rfl (fun K hK => ?_)
      rw [if_pos (by rfl)]
      refine wp_store_row 61 (.tmp 10) (.tmp 35) rfl b2 accZ rfl rfl 61 accZ a2 (by kernel_rfl) rfl (by simp [Value.oneCell']) ?_
      have c2 : Bk (w17.setRow b2 accZ) b2 61 accZ := setRow_heap _ _ accZ accZ 61 (0, 0) a2
      replace a3 : Bk (w17.setRow b2 accZ) b3 63 (outG 0 false 1 (-1) (.slice G2 m2 c9)) := (setRow_other _ _ _ _ (by omega)).trans a3
      replace a4 : Bk (w17.setRow b2 accZ) b4 4 #[.bool false] := (setRow_other _ _ _ _ (by omega)).trans a4
      replace hbl := below_setRow hbl n2 accZ
      replace hga := hga.row (g := b2) (cs := accZ) (by simp)
      refine hK.out _ _ (fun _ => a3) ?_
      clear hK K a2
      (try simp only [List.getElem_toArray, List.getElem_cons_succ, List.getElem_cons_zero, Act.put])
      generalize w17.setRow b2 accZ = w18 at *
      refine wpAnyE_one (i := 3) (o := _) (by kernel_rfl) rfl (fun K hK => ?_)
      rw [if_pos (by rfl)]
      refine wp_store_row 63 (.tmp 11) (.tmp 36) rfl b3 (outG 0 false 1 (-1) (.slice G2 m2 c9)) rfl rfl 63 (outG 0 false 1 (-1) (.slice G2 m2 c9)) a3 (by kernel_rfl) rfl (by simp [Value.oneCell']) ?_
      have c3 : Bk (w18.setRow b3 (outG 0 false 1 (-1) (.slice G2 m2 c9))) b3 63 (outG 0 false 1 (-1) (.slice G2 m2 c9)) := setRow_heap _ _ (outG 0 false 1 (-1) (.slice G2 m2 c9)) (outG 0 false 1 (-1) (.slice G2 m2 c9)) 63 (0, 0) a3
      replace c2 : Bk (w18.setRow b3 (outG 0 false 1 (-1) (.slice G2 m2 c9))) b2 61 accZ := (setRow_other _ _ _ _ (by omega)).trans c2
      replace a4 : Bk (w18.setRow b3 (outG 0 false 1 (-1) (.slice G2 m2 c9))) b4 4 #[.bool false] := (setRow_other _ _ _ _ (by omega)).trans a4
      replace hbl := below_setRow hbl n3 (outG 0 false 1 (-1) (.slice G2 m2 c9))
      replace hga := hga.row (g := b3) (cs := (outG 0 false 1 (-1) (.slice G2 m2 c9))) (by simp)
      refine hK.out _ _ (fun _ => c3) ?_
      clear hK K a3
      (try simp only [List.getElem_toArray, List.getElem_cons_succ, List.getElem_cons_zero, Act.put])
      generalize w18.setRow b3 (outG 0 false 1 (-1) (.slice G2 m2 c9)) = w19 at *
      have q6 := a4.cell 0
      have f6 := a4.free 0
      have l6 := a4.lt
      simp at q6
      refine wpAnyE_one (i := 4) (o := _) (by kernel_rfl) rfl (fun K hK => ?_)
      (try simp only [List.getElem_toArray, List.getElem_cons_succ, List.getElem_cons_zero])
      go_simp
      clear q6 f6 l6
      replace a4 : Bk (w19.setCell ⟨b4, 0, none⟩ (.bool true)) b4 4 #[.bool true] := a4.stored 0 (.bool true)
      replace c2 := c2.other (p := ⟨b4, 0, none⟩) (by dsimp only; omega) (.bool true)
      replace c3 := c3.other (p := ⟨b4, 0, none⟩) (by dsimp only; omega) (.bool true)
      replace hbl := below_set hbl (p := ⟨b4, 0, none⟩) n4 (.bool true)
      replace hga := hga.set (g := b4) (i := 0) (u := (.bool true)) (by simp)
      refine hK.out _ _ (fun _ => c3) ?_
      clear hK K
      (try simp only [List.getElem_toArray, List.getElem_cons_succ, List.getElem_cons_zero, Act.put, List.setIfInBounds_toArray, List.set_cons_zero, List.set_cons_succ])
      generalize w19.setCell ⟨b4, 0, none⟩ (.bool true) = w20 at *
      refine wpAnyE_done (by kernel_rfl) ?_ _
      go_wp2
      refine leaves_cons (f := 63) (args := #[ptr b2, ptr b3, ptr b4]) (by simp) (by simp [go_sem]) ?_
      refine (catch_idle b2 b3 b4 _).mono ?_
      rintro e u' w21 ⟨rfl, rfl, rfl⟩
      refine ⟨_, results_ccc (p := 10) (q := 11) (t := 12) (t1 := 61) (t2 := 63) (t3 := 4) rfl _ _ b2 b3 b4 accZ (outG 0 false 1 (-1) (.slice G2 m2 c9)) (0, 0) (0, 0) _ _ _ rfl rfl rfl c2 c3 Try.underlying61 rfl (by kernel_rfl) Try.underlying63 rfl (by kernel_rfl) (load_bool _ b4 true a4), ?_⟩
      rw [HNX.out]
      exact ⟨G2, m2, c9, HM2.out.1, HM2.out.2, hga.sl, rfl, hbl⟩
end Go.Proofs.Ytgjdjgainjedhaa
