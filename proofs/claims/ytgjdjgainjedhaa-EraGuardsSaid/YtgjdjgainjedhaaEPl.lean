/- law16.played. Printed by pl_gen.py. -/
import Derived.Test.YtgjdjgainjedhaaER
namespace Go.Proofs.Ytgjdjgainjedhaa
open Go.RowKit
set_option linter.unusedVariables false
attribute [local go_sem ↓] Go.wp_at_zero Go.wp_at_succ

theorem bk_sub {w : World} {g : Nat} {t : TypeId} {cs : Array Value} (k : Bk w g t cs) : ∀ (j : Nat) (v : Value), cs[j]? = some v → w.cell? ⟨g, 0 + j, none⟩ = some v := fun j v h => by rw [Nat.zero_add, k.cell]; exact h
structure PlSt (w : World) (gt gs bP bL : Nat) (l : Ly) (pc : Array Value) (t : TabE) (wr : World) : Prop where
  tr : TRep wr wr.heap.size gt gs t
  bl : Below w.heap.size w wr
  kP : Bk wr bP 25 pc
  kL : Bk wr bL 40 (lyC l)
section
variable {w wr w' : World} {gt gs bP bL : Nat} {l : Ly} {pc : Array Value} {t t' : TabE}
theorem PlSt.keep (h : PlSt w gt gs bP bL l pc t wr) (hb : Below wr.heap.size wr w') : PlSt w gt gs bP bL l pc t w' := ⟨(h.tr.keep hb).top, below_tr h.bl hb, h.kP.keep hb, h.kL.keep hb⟩
theorem PlSt.drew (h : PlSt w gt gs bP bL l pc t wr) : PlSt w gt gs bP bL l pc t wr.drew := h.keep (below_drew' (Below.refl _ _))
theorem PlSt.ne (h : PlSt w gt gs bP bL l pc t wr) : (bP ≠ gt ∧ bP ≠ gs) ∧ bL ≠ gt ∧ bL ≠ gs := by
  obtain ⟨_, _, _, k, _⟩ := h.tr.mem
  obtain ⟨_, k2, _⟩ := h.tr.sts
  exact ⟨⟨bk_neT h.kP k (by decide), bk_neT h.kP k2 (by decide)⟩, bk_neT h.kL k (by decide), bk_neT h.kL k2 (by decide)⟩
theorem PlSt.step (h : PlSt w gt gs bP bL l pc t wr) (hg : w.heap.size ≤ gt ∧ w.heap.size ≤ gs) (ht : TRep w' w'.heap.size gt gs t') (hs : Stw gt gs wr w') : PlSt w gt gs bP bL l pc t' w' := by
  obtain ⟨⟨n1, n2⟩, n3, n4⟩ := h.ne
  have hb := hs.par (B := w.heap.size) hg.1 hg.2 h.bl.size
  exact ⟨ht, ⟨hb.os.trans h.bl.os, hb.tape.trans h.bl.tape, hb.output.trans h.bl.output, Nat.le_trans h.bl.size hb.size, fun b q => (hb.block b q).trans (h.bl.block b q)⟩, hs.keep h.kP n1 n2, hs.keep h.kL n3 n4⟩
end
def endE (l : Ly) (n : Nat) (want : List (List Nat)) (turns : List Nat) : TabE := runE l want (startE0 l n) (whosE n turns)
def P1Rel (w : World) (gt gs bP bL : Nat) (l : Ly) (pc : Array Value) (n : Nat) (want : List (List Nat)) (turns : List Nat) (v6 v7 : Value) (wr : World) : Prop :=
  ∃ k : Nat, k ≤ turns.length ∧ v6 = .bool true ∧ v7 = .int .i64 k ∧ PlSt w gt gs bP bL l pc (runE l want (startE0 l n) ((turns.take k).map (· % n))) wr
def P2Rel (w : World) (gt gs bP bL : Nat) (l : Ly) (pc : Array Value) (n : Nat) (want : List (List Nat)) (turns : List Nat) (v6 v8 : Value) (wr : World) : Prop :=
  ∃ k : Nat, k ≤ n ∧ v6 = .bool true ∧ v8 = .int .i64 k ∧ PlSt w gt gs bP bL l pc (runE l want (startE0 l n) (whosP n turns k 0)) wr
def P3Rel (w : World) (gt gs bP bL : Nat) (l : Ly) (pc : Array Value) (n : Nat) (want : List (List Nat)) (turns : List Nat) (k : Nat) (v9 : Value) (wr : World) : Prop :=
  ∃ i : Nat, i ≤ 700 ∧ v9 = .int .i64 i ∧ PlSt w gt gs bP bL l pc (runE l want (startE0 l n) (whosP n turns k i)) wr
def PlayedPost (l : Ly) (n : Nat) (want : List (List Nat)) (turns : List Nat) (w : World) (e : Ending) (w' : World) : Prop :=
  ∃ gt gs, e = .returned (.tuple #[ptr gt, .bool true]) ∧ w.heap.size ≤ gt ∧ w.heap.size ≤ gs ∧ TRep w' w'.heap.size gt gs (endE l n want turns) ∧ Below w.heap.size w w'
theorem whosP_succ (n : Nat) (turns : List Nat) (k i : Nat) : whosP n turns k (i + 1) = whosP n turns k i ++ [k] := by
  unfold whosP
  rw [List.replicate_succ', List.append_assoc, List.append_assoc, List.append_assoc]
theorem whosP_0 (n : Nat) (turns : List Nat) : whosP n turns 0 0 = (turns.take turns.length).map (· % n) := by
  rw [List.take_length]
  simp only [whosP, List.range_zero, List.flatMap_nil, List.replicate_zero, List.append_nil]
set_option maxRecDepth 1000000 in
set_option maxHeartbeats 8000000 in
theorem played_any (tN : Int) (W : Option Addr) (n c : Nat) (T : Option Addr) (m d : Nat) (want : List (List Nat)) (turns : List Nat) (w : World) (t0 : 0 ≤ tN) (t1 : tN < 256) (h1 : 1 ≤ n) (h2 : n ≤ 3) (hm : m ≤ 200) (hwn : want.length = n) (htm : turns.length = m) (hW : SlU8s w w.heap.size W want) (hT : SlU8 w w.heap.size T turns) (hxs : ∀ xs ∈ want, xs.length ≤ 5) :
    Calls Try.prog 9 #[.agg (playC tN W n c T m d)] w (PlayedPost (playL n tN) n want turns w) := by
  have hok := layOk_of (layEB_play n tN h1 h2)
  have hfull : LyFull (playL n tN) := lyFull_of _ (playCf_can n tN h1 (by omega))
  have hplay := play_ok hok want hxs turns (by omega)
  have hwhere := where_any tN W n c T m d
  have k0 := Bk.made w 25 (playC tN W n c T m d)
  have hbl := below_al (Below.refl w.heap.size w) (.cells (playC tN W n c T m d) 25)
  have HWH := Lib.hid (fun w' : World => hwhere w' t0 t1 h1 (by omega))
  clear hwhere
  obtain ⟨l, hl⟩ : ∃ l, playL n tN = l := ⟨_, rfl⟩
  rw [hl] at hok hfull hplay HWH ⊢
  clear hl
  have hse : (1 ≤ l.c.seats ∧ l.c.seats ≤ 8) ∧ l.c.nodes ≤ 1000 ∧ 1 ≤ l.c.nodes := by have := hok.lay.ns; have := hok.lay.nn; omega
  have HO := Lib.hid (And.intro hok (And.intro hfull (And.intro hplay (And.intro hse hxs))))
  have HWT := Lib.hid (And.intro hW (And.intro hT (And.intro hwn htm)))
  clear hok hfull hplay hse hW hT hwn htm hxs t0 t1
  go_enter Try.func9, Try.ntmps9
  go_upto_region 1 with fail
  generalize hw1 : w.alloc (.cells (playC tN W n c T m d) 25) = w1 at *
  clear hw1
  go_wp2_with (refine wpList_load_row rfl 25 (.tmp 1) rfl w.heap.size rfl 25 (playC tN W n c T m d) (0, 0) _ k0 Try.underlying25 rfl (by kernel_rfl) ?_)
  (with_reducible refine (HWH.out _).mono ?_)
  rintro e w2 ⟨rfl, hb⟩
  replace k0 := k0.keep hb
  replace hbl := below_tr hbl hb
  clear hb HWH
  go_upto_region 2 with (first
    | (refine wpList_store_new rfl 40 (.tmp 4) (.tmp 11) rfl rfl w2.heap.size _ _ (lyC l) rfl rfl rfl rfl (by kernel_rfl) rfl (by simp [Value.oneCell']) ?_))
  have kL := Bk.made w2 40 (lyC l)
  replace k0 := k0.alloc (.cells (lyC l) 40)
  replace hbl := below_al hbl (.cells (lyC l) 40)
  have hLP : w.heap.size ≤ w2.heap.size := by have := hbl.size; have := k0.lt; simp at this; omega
  generalize w2.alloc (.cells (lyC l) 40) = w3 at *
  obtain ⟨bL, hbL⟩ : ∃ z, w2.heap.size = z := ⟨_, rfl⟩
  rw [hbL] at kL ⊢
  clear hbL hLP
  obtain ⟨bP, hbP⟩ : ∃ z, w.heap.size = z := ⟨_, rfl⟩
  have HBP := Lib.hid hbP
  rw [hbP] at k0 ⊢
  clear hbP
  have p1 := k0.cell 1
  have lP := k0.lt
  simp at p1
  go_wp2_with (refine wpList_load_row rfl 40 (.tmp 4) rfl bL rfl 40 (lyC l) (0, 0) _ kL Try.underlying40 rfl (by kernel_rfl) ?_)
  (with_reducible refine (begin_any l n _ HO.out.2.1 (by omega) HO.out.2.2.2.1.2.2 HO.out.2.2.2.1.2.1 HO.out.1.sz.1 HO.out.1.sz.2 HO.out.1.err).mono ?_)
  rintro e w4 ⟨gt, gs, rfl, hgt, hgs, hx, hb⟩
  have hg : w.heap.size ≤ gt ∧ w.heap.size ≤ gs := by have := hbl.size; omega
  have st0 : PlSt w gt gs bP bL l (playC tN W n c T m d) (startE0 l n) w4 := ⟨hx, below_tr hbl hb, k0.keep hb, kL.keep hb⟩
  clear hb hx hgt hgs k0 kL hbl p1 lP
  have HG := Lib.hid hg
  clear hg
  go_upto_region 5 with fail
  go_loopw [6, 7] (fun v6 v7 wr => P1Rel w gt gs bP bL l (playC tN W n c T m d) n want turns v6 v7 wr) (fun _ v7 _ => turns.length - (intOf v7).toNat)
  case atStart => exact ⟨0, Nat.zero_le _, rfl, rfl, st0⟩
  case round =>
    obtain ⟨k, hk, rfl, rfl, st⟩ := hrel
    have okT := HO.out.2.2.1.2.1 k hk
    have hkm : k ≤ m := by rw [← HWT.out.2.2.2]; exact hk
    have hTr : SlU8 wr w.heap.size T turns := HWT.out.2.1.below st.bl
    have hWr : SlU8s wr w.heap.size W want := HWT.out.1.below st.bl
    have hsz : w.heap.size ≤ wr.heap.size := st.bl.size
    by_cases hlt : k < m
    · have i1 : decide ((k : Int) < m) = true := by simp; omega
      have i2 : decide (k < m) = true := by simp; omega
      obtain ⟨tv, htv⟩ : ∃ tv, turns[k]? = some tv := ⟨_, List.getElem?_eq_getElem (by rw [HWT.out.2.2.2]; exact hlt)⟩
      obtain ⟨bT, oT, rfl, hbT, hcT⟩ := hTr (by rw [HWT.out.2.2.2]; omega)
      obtain ⟨ct, ht256⟩ := hcT k tv htv
      have hwho0 : tv % n < n := Nat.mod_lt _ (by omega)
      obtain ⟨q, hq⟩ : ∃ q, tv % n = q := ⟨_, rfl⟩
      have hwho : q < n := by rw [← hq]; exact hwho0
      have hrq : ((tv : Int) % (n : Int)) = (q : Int) := by omega
      have HRQ := Lib.hid hrq
      clear hwho0 hrq
      obtain ⟨x0, hx0⟩ : ∃ x, (runE l want (startE0 l n) ((turns.take k).map (· % n))) = x := ⟨_, rfl⟩
      have hnx : runE l want (startE0 l n) ((turns.take (k + 1)).map (· % n)) = turnE l want q x0 := by
        rw [List.take_add_one, htv]
        simp only [Option.toList_some, List.map_append, List.map_cons, List.map_nil]
        rw [runE_snoc, hx0, hq]
      have okT2 := HO.out.2.2.1.2.1 (k + 1) (by rw [HWT.out.2.2.2]; omega)
      rw [hnx] at okT2
      rw [hx0] at st okT
      obtain ⟨s, hs⟩ : ∃ s, x0.seats[q]? = some s := ⟨_, List.getElem?_eq_getElem (by obtain ⟨_, _, _, ti⟩ := okT.ti; rw [ti.len]; exact hwho)⟩
      have ht := okT.turn HO.out.1.lay HO.out.2.2.1.1 hs
      obtain ⟨LL, hsafe⟩ := okT2.safe HO.out.1.lay HO.out.2.2.1.1
      have HST := Lib.hid st
      have HT := Lib.hid (And.intro hs (And.intro ht (And.intro hWr (And.intro hsz (And.intro hsafe hnx)))))
      have kP := st.kP
      have kL := st.kL
      have HCT := Lib.hid (And.intro hbT ct)
      clear st okT okT2 hx0 hs ht hsafe hWr hTr hcT htv hnx hq
      have p1 := kP.cell 1
      have p2 := kP.cell 2
      have lP := kP.lt
      simp at p1 p2
      go_upto_region 7 with fail
      clear p1 p2 i1 i2
      refine wp_region_E (S := fun w' => Bk w' bP 25 (playC tN W n c (some ⟨bT, oT, none⟩) m d) ∧ Bk w' bL 40 (lyC l) ∧ w'.cell? ⟨bT, oT + k, none⟩ = some (.int .u8 (tv : Nat))) (E := fun _ => false) (by kernel_rfl) ?_
      replace kP := kP.drew
      replace kL := kL.drew
      have st := HST.out.drew
      have ct : wr.drew.cell? ⟨bT, oT + k, none⟩ = some (.int .u8 (tv : Nat)) := HCT.out.2
      have hWd : SlU8s wr.drew w.heap.size W want := HT.out.2.2.1
      have hszd : w.heap.size ≤ wr.drew.heap.size := hsz
      have hTl : bT < wr.drew.heap.size := Nat.lt_of_lt_of_le HCT.out.1 hsz
      generalize wr.drew = w5 at *
      have hkl : (k : Int) < m := by omega
      have hn0 : (n : Int) ≠ 0 := by omega
      refine wpAnyE_take (i := 0) (oi := _) (v := ptr gt) rfl (by kernel_rfl) (by kernel_rfl) (by kernel_rfl) (by kernel_rfl) (fun _ _ _ h => h) (Or.inl ⟨by rfl, ?_⟩) ⟨kP, kL, ct⟩ ?_
      · intro w' hSw
        (try simp only [List.getElem_toArray, List.getElem_cons_zero])
        go_simp
      (try simp only [List.getElem_toArray, List.getElem_cons_zero, Act.put, List.setIfInBounds_toArray, List.set_cons_zero, List.set_cons_succ])
      refine wpAnyE_take (i := 1) (oi := _) (v := .agg (lyC l)) rfl (by kernel_rfl) (by kernel_rfl) (by kernel_rfl) (by kernel_rfl) (fun _ _ _ h => h) (Or.inl ⟨by rfl, ?_⟩) ⟨kP, kL, ct⟩ ?_
      · intro w' hSw
        (try simp only [List.getElem_toArray, List.getElem_cons_succ, List.getElem_cons_zero])
        simp only [execOp, Instr.loadAt, Instr.sureAddr, Sem.run_bind, Sem.run_pure]
        rw [show (Act.eval _ (Operand.tmp 4)) = Value.pointer (some ⟨bL, 0, none⟩) from rfl]
        simp only [Sem.run_pure, Result.andThen_ok, run_loadVar_row w' bL 40 40 (lyC l) (0, 0) _ hSw.2.1 Try.underlying40 rfl (by kernel_rfl)]
      (try simp only [List.getElem_toArray, List.getElem_cons_succ, List.getElem_cons_zero, Act.put, List.setIfInBounds_toArray, List.set_cons_zero, List.set_cons_succ])
      refine wpAnyE_take (i := 2) (oi := _) (v := .agg (playC tN W n c (some ⟨bT, oT, none⟩) m d)) rfl (by kernel_rfl) (by kernel_rfl) (by kernel_rfl) (by kernel_rfl) (fun _ _ _ h => h) (Or.inl ⟨by rfl, ?_⟩) ⟨kP, kL, ct⟩ ?_
      · intro w' hSw
        (try simp only [List.getElem_toArray, List.getElem_cons_succ, List.getElem_cons_zero])
        simp only [execOp, Instr.loadAt, Instr.sureAddr, Sem.run_bind, Sem.run_pure]
        rw [show (Act.eval _ (Operand.tmp 1)) = Value.pointer (some ⟨bP, 0, none⟩) from rfl]
        simp only [Sem.run_pure, Result.andThen_ok, run_loadVar_row w' bP 25 25 (playC tN W n c (some ⟨bT, oT, none⟩) m d) (0, 0) _ hSw.1 Try.underlying25 rfl (by kernel_rfl)]
      (try simp only [List.getElem_toArray, List.getElem_cons_succ, List.getElem_cons_zero, Act.put, List.setIfInBounds_toArray, List.set_cons_zero, List.set_cons_succ])
      refine wpAnyE_take (i := 3) (oi := _) (v := .pointer (some ⟨bP, 2, none⟩)) rfl (by kernel_rfl) (by kernel_rfl) (by kernel_rfl) (by kernel_rfl) (fun _ _ _ h => h) (Or.inl ⟨by rfl, ?_⟩) ⟨kP, kL, ct⟩ ?_
      · intro w' hSw
        (try simp only [List.getElem_toArray, List.getElem_cons_succ, List.getElem_cons_zero])
        go_simp
      (try simp only [List.getElem_toArray, List.getElem_cons_succ, List.getElem_cons_zero, Act.put, List.setIfInBounds_toArray, List.set_cons_zero, List.set_cons_succ])
      refine wpAnyE_take (i := 4) (oi := _) (v := .slice (some ⟨bT, oT, none⟩) m d) rfl (by kernel_rfl) (by kernel_rfl) (by kernel_rfl) (by kernel_rfl) (fun _ _ _ h => h) (Or.inl ⟨by rfl, ?_⟩) ⟨kP, kL, ct⟩ ?_
      · intro w' hSw
        have s1 := hSw.1.cell 2
        (try simp at s1)
        (try simp only [List.getElem_toArray, List.getElem_cons_succ, List.getElem_cons_zero])
        go_simp
      (try simp only [List.getElem_toArray, List.getElem_cons_succ, List.getElem_cons_zero, Act.put, List.setIfInBounds_toArray, List.set_cons_zero, List.set_cons_succ])
      refine wpAnyE_take (i := 5) (oi := _) (v := .int .i64 (k : Nat)) rfl (by kernel_rfl) (by kernel_rfl) (by kernel_rfl) (by kernel_rfl) (fun _ _ _ h => h) (Or.inl ⟨by rfl, ?_⟩) ⟨kP, kL, ct⟩ ?_
      · intro w' hSw
        (try simp only [List.getElem_toArray, List.getElem_cons_succ, List.getElem_cons_zero])
        go_simp
      (try simp only [List.getElem_toArray, List.getElem_cons_succ, List.getElem_cons_zero, Act.put, List.setIfInBounds_toArray, List.set_cons_zero, List.set_cons_succ])
      refine wpAnyE_take (i := 6) (oi := _) (v := .pointer (some ⟨bT, oT + k, none⟩)) rfl (by kernel_rfl) (by kernel_rfl) (by kernel_rfl) (by kernel_rfl) (fun _ _ _ h => h) (Or.inl ⟨by rfl, ?_⟩) ⟨kP, kL, ct⟩ ?_
      · intro w' hSw
        (try simp only [List.getElem_toArray, List.getElem_cons_succ, List.getElem_cons_zero])
        go_simp
      (try simp only [List.getElem_toArray, List.getElem_cons_succ, List.getElem_cons_zero, Act.put, List.setIfInBounds_toArray, List.set_cons_zero, List.set_cons_succ])
      refine wpAnyE_take (i := 7) (oi := _) (v := .int .u8 (tv : Nat)) rfl (by kernel_rfl) (by kernel_rfl) (by kernel_rfl) (by kernel_rfl) (fun _ _ _ h => h) (Or.inl ⟨by rfl, ?_⟩) ⟨kP, kL, ct⟩ ?_
      · intro w' hSw
        have s1 := hSw.2.2
        (try simp at s1)
        (try simp only [List.getElem_toArray, List.getElem_cons_succ, List.getElem_cons_zero])
        go_simp
      (try simp only [List.getElem_toArray, List.getElem_cons_succ, List.getElem_cons_zero, Act.put, List.setIfInBounds_toArray, List.set_cons_zero, List.set_cons_succ])
      refine wpAnyE_take (i := 8) (oi := _) (v := .int .i64 (tv : Nat)) rfl (by kernel_rfl) (by kernel_rfl) (by kernel_rfl) (by kernel_rfl) (fun _ _ _ h => h) (Or.inl ⟨by rfl, ?_⟩) ⟨kP, kL, ct⟩ ?_
      · intro w' hSw
        have hwv : IntKind.i64.wrap (tv : Int) = tv := IntWalk.i64_in _ (by omega)
        (try simp only [List.getElem_toArray, List.getElem_cons_succ, List.getElem_cons_zero])
        go_simp
      (try simp only [List.getElem_toArray, List.getElem_cons_succ, List.getElem_cons_zero, Act.put, List.setIfInBounds_toArray, List.set_cons_zero, List.set_cons_succ])
      refine wpAnyE_take (i := 9) (oi := _) (v := .pointer (some ⟨bP, 1, none⟩)) rfl (by kernel_rfl) (by kernel_rfl) (by kernel_rfl) (by kernel_rfl) (fun _ _ _ h => h) (Or.inl ⟨by rfl, ?_⟩) ⟨kP, kL, ct⟩ ?_
      · intro w' hSw
        (try simp only [List.getElem_toArray, List.getElem_cons_succ, List.getElem_cons_zero])
        go_simp
      (try simp only [List.getElem_toArray, List.getElem_cons_succ, List.getElem_cons_zero, Act.put, List.setIfInBounds_toArray, List.set_cons_zero, List.set_cons_succ])
      refine wpAnyE_take (i := 10) (oi := _) (v := .slice W n c) rfl (by kernel_rfl) (by kernel_rfl) (by kernel_rfl) (by kernel_rfl) (fun _ _ _ h => h) (Or.inl ⟨by rfl, ?_⟩) ⟨kP, kL, ct⟩ ?_
      · intro w' hSw
        have s1 := hSw.1.cell 1
        (try simp at s1)
        (try simp only [List.getElem_toArray, List.getElem_cons_succ, List.getElem_cons_zero])
        go_simp
      (try simp only [List.getElem_toArray, List.getElem_cons_succ, List.getElem_cons_zero, Act.put, List.setIfInBounds_toArray, List.set_cons_zero, List.set_cons_succ])
      refine wpAnyE_take (i := 11) (oi := _) (v := .int .i64 (n : Nat)) rfl (by kernel_rfl) (by kernel_rfl) (by kernel_rfl) (by kernel_rfl) (fun _ _ _ h => h) (Or.inl ⟨by rfl, ?_⟩) ⟨kP, kL, ct⟩ ?_
      · intro w' hSw
        (try simp only [List.getElem_toArray, List.getElem_cons_succ, List.getElem_cons_zero])
        go_simp
      (try simp only [List.getElem_toArray, List.getElem_cons_succ, List.getElem_cons_zero, Act.put, List.setIfInBounds_toArray, List.set_cons_zero, List.set_cons_succ])
      refine wpAnyE_take (i := 12) (oi := _) (v := .int .i64 (q : Nat)) rfl (by kernel_rfl) (by kernel_rfl) (by kernel_rfl) (by kernel_rfl) (fun _ _ _ h => h) (Or.inl ⟨by rfl, ?_⟩) ⟨kP, kL, ct⟩ ?_
      · intro w' hSw
        have hn9 : ¬ n = 0 := by omega
        have hrm : (tv : Int).tmod (n : Int) = q := by rw [Int.tmod_eq_emod_of_nonneg (by omega)]; exact HRQ.out
        (try simp only [List.getElem_toArray, List.getElem_cons_succ, List.getElem_cons_zero])
        go_simp
      (try simp only [List.getElem_toArray, List.getElem_cons_succ, List.getElem_cons_zero, Act.put, List.setIfInBounds_toArray, List.set_cons_zero, List.set_cons_succ])
      refine wpAnyE_one (i := 13) (o := _) (by kernel_rfl) rfl (fun K hK => ?_)
      (try simp only [List.getElem_toArray, List.getElem_cons_succ, List.getElem_cons_zero])
      go_simp
      (with_reducible refine (tturn_any (B0 := w.heap.size) (n := n) l tN W (some ⟨bT, oT, none⟩) c m d st.tr HT.out.1 hWd ⟨HG.out.1, HG.out.2, hszd⟩ HWT.out.2.2.1 HT.out.2.1.2.2.2.2.2.2.2.1 HO.out.2.1 HO.out.2.2.2.1.1 HO.out.2.2.2.1.2.1 (by omega) HT.out.2.1.2.2.2.2.2.2.2.2.1 HT.out.2.1.1 HT.out.2.1.2.1 HT.out.2.1.2.2.1 HT.out.2.1.2.2.2.1 HT.out.2.1.2.2.2.2.1 HT.out.2.1.2.2.2.2.2.1 HT.out.2.1.2.2.2.2.2.2.1 HT.out.2.1.2.2.2.2.2.2.2.2.2).mono ?_)
      rintro e w6 ⟨rfl, hx6, hst6⟩
      have st6 := st.step HG.out hx6 hst6
      have hct6 : w6.cell? ⟨bT, oT + k, none⟩ = some (.int .u8 (tv : Nat)) := by
        have h1 := (st6.bl.cell (p := ⟨bT, oT + k, none⟩) HCT.out.1)
        have h2 := (HST.out.bl.cell (p := ⟨bT, oT + k, none⟩) HCT.out.1)
        exact h1.trans (h2.symm.trans HCT.out.2)
      rw [← HT.out.2.2.2.2.2] at st6
      have STN := st6
      clear hx6 hst6 st kP kL ct hTl st6
      refine hK.out _ _ (fun _ => ⟨STN.kP, STN.kL, hct6⟩) ?_
      clear hK K
      (try simp only [List.getElem_toArray, List.getElem_cons_succ, List.getElem_cons_zero, Act.put, List.setIfInBounds_toArray, List.set_cons_zero, List.set_cons_succ])
      refine wpAnyE_done (by kernel_rfl) ?_ _
      clear hct6 hWd hszd hkl
      go_wp2_with (first
        | (refine wpList_load_subG (by rfl) 40 (.tmp 4) rfl bL 0 rfl (lyC l) _ (bk_sub STN.kL) Try.underlying40 rfl (by kernel_rfl) ?_)
        | (refine wpList_load_subG (by rfl) 25 (.tmp 1) rfl bP 0 rfl (playC tN W n c (some ⟨bT, oT, none⟩) m d) _ (bk_sub STN.kP) Try.underlying25 rfl (by kernel_rfl) ?_))
      (with_reducible refine (safe_any (n := n) (B0 := w.heap.size) l tN W (some ⟨bT, oT, none⟩) c m d STN.tr (HWT.out.1.below STN.bl) STN.bl.size HWT.out.2.2.1 h2 HO.out.2.1 (by rw [HT.out.2.2.2.2.2]; exact HT.out.2.2.2.2.1)).mono ?_)
      rintro e w7 ⟨rfl, hb7⟩
      have st8 := STN.keep hb7
      clear hb7 STN
      go_wp2_with fail
      go_roundw
      case rel => exact ⟨k + 1, by rw [HWT.out.2.2.2]; omega, rfl, by go_num, st8⟩
      case measure => have := HWT.out.2.2.2; simp [intOf]; omega
    · have i1 : decide ((k : Int) < m) = false := by simp; omega
      have i2 : decide (k < m) = false := by simp; omega
      obtain rfl : k = turns.length := by have := HWT.out.2.2.2; omega
      rw [← whosP_0] at st
      have p1 := st.kP.cell 2
      have lP := st.kP.lt
      simp at p1
      clear okT hTr hWr hsz
      have HMM := Lib.hid HWT.out.2.2.2
      have st0 := st
      clear st
      go_upto_region 10 with fail
      clear p1 lP i1 i2
      go_loopw [6, 8] (fun v6 v8 wr => P2Rel w gt gs bP bL l (playC tN W n c T m d) n want turns v6 v8 wr) (fun _ v8 _ => n - (intOf v8).toNat)
      case atStart => exact ⟨0, Nat.zero_le _, rfl, rfl, st0⟩
      case round =>
        obtain ⟨k, hk, rfl, rfl, st⟩ := hrel
        have p1 := st.kP.cell 1
        have lP := st.kP.lt
        simp at p1
        by_cases hlt : k < n
        · have i1 : decide ((k : Int) < n) = true := by simp; omega
          have i2 : decide (k < n) = true := by simp; omega
          have st1 := st
          clear st
          go_upto_region 13 with fail
          clear p1 lP i1 i2
          go_loopw [9] (fun v9 wr => P3Rel w gt gs bP bL l (playC tN W n c T m d) n want turns k v9 wr) (fun v9 _ => 700 - (intOf v9).toNat)
          case atStart => exact ⟨0, by omega, rfl, st1⟩
          case round =>
            obtain ⟨i, hi, rfl, st⟩ := hrel
            have okT := HO.out.2.2.1.2.2.1 k hlt i hi
            by_cases hli : i < 700
            · have i1 : decide ((i : Int) < 700) = true := by simp; omega
              have i2 : decide (i < 700) = true := by simp; omega
              obtain ⟨x0, hx0⟩ : ∃ x, (runE l want (startE0 l n) (whosP n turns k i)) = x := ⟨_, rfl⟩
              have hnx : runE l want (startE0 l n) (whosP n turns k (i + 1)) = turnE l want k x0 := by rw [whosP_succ, runE_snoc, hx0]
              rw [hx0] at st okT
              obtain ⟨s, hs⟩ : ∃ s, x0.seats[k]? = some s := ⟨_, List.getElem?_eq_getElem (by obtain ⟨_, _, _, ti⟩ := okT.ti; rw [ti.len]; exact hlt)⟩
              have ht := okT.turn HO.out.1.lay HO.out.2.2.1.1 hs
              have hWd : SlU8s wr w.heap.size W want := HWT.out.1.below st.bl
              have hszd : w.heap.size ≤ wr.heap.size := st.bl.size
              have HT := Lib.hid (And.intro hs (And.intro ht hnx))
              have kP := st.kP
              have kL := st.kL
              clear okT hx0 hs ht hnx
              go_wp2_with (first
                | (refine wpList_load_row rfl 40 (.tmp 4) rfl bL rfl 40 (lyC l) (0, 0) _ kL Try.underlying40 rfl (by kernel_rfl) ?_)
                | (refine wpList_load_row rfl 25 (.tmp 1) rfl bP rfl 25 (playC tN W n c T m d) (0, 0) _ kP Try.underlying25 rfl (by kernel_rfl) ?_))
              (with_reducible refine (tturn_any (B0 := w.heap.size) (n := n) l tN W T c m d st.tr HT.out.1 hWd ⟨HG.out.1, HG.out.2, hszd⟩ HWT.out.2.2.1 HT.out.2.1.2.2.2.2.2.2.2.1 HO.out.2.1 HO.out.2.2.2.1.1 HO.out.2.2.2.1.2.1 (by omega) HT.out.2.1.2.2.2.2.2.2.2.2.1 HT.out.2.1.1 HT.out.2.1.2.1 HT.out.2.1.2.2.1 HT.out.2.1.2.2.2.1 HT.out.2.1.2.2.2.2.1 HT.out.2.1.2.2.2.2.2.1 HT.out.2.1.2.2.2.2.2.2.1 HT.out.2.1.2.2.2.2.2.2.2.2.2).mono ?_)
              rintro e w6 ⟨rfl, hx6, hst6⟩
              have st6 := st.step HG.out hx6 hst6
              rw [← HT.out.2.2] at st6
              clear hx6 hst6 st kP kL hWd hszd
              go_wp2_with fail
              go_roundw
              case rel => exact ⟨i + 1, by omega, by go_num, st6⟩
              case measure => simp [intOf]; omega
            · have i1 : decide ((i : Int) < 700) = false := by simp; omega
              have i2 : decide (i < 700) = false := by simp; omega
              obtain rfl : i = 700 := by omega
              obtain ⟨LL, hsafe⟩ := okT.safe HO.out.1.lay HO.out.2.2.1.1
              have hend := HO.out.2.2.1.2.2.2 (k + 1) (by omega)
              rw [whosP_next] at st hsafe
              obtain ⟨x0, hx0⟩ : ∃ x, (runE l want (startE0 l n) (whosP n turns (k + 1) 0)) = x := ⟨_, rfl⟩
              rw [hx0] at st hsafe hend
              obtain ⟨s, hs, hfin⟩ := hend.fin k (by omega)
              obtain ⟨bz, hbz⟩ : ∃ b, s.busy = b := ⟨_, rfl⟩
              have hbf : bz = false := by rw [← hbz]; exact hfin.1
              have HT := Lib.hid (And.intro hs (And.intro hs (And.intro hs (And.intro hs (And.intro hsafe (And.intro hx0 (And.intro hbz (And.intro hbf hsafe.len))))))))
              have STN := st
              clear okT hsafe hend hx0 hs hfin hbz hbf st st1
              go_upto_region 16 with fail
              clear i1 i2
              go_wp2_with (first
                | (refine wpList_load_subG (by rfl) 40 (.tmp 4) rfl bL 0 rfl (lyC l) _ (bk_sub STN.kL) Try.underlying40 rfl (by kernel_rfl) ?_)
                | (refine wpList_load_subG (by rfl) 25 (.tmp 1) rfl bP 0 rfl (playC tN W n c T m d) _ (bk_sub STN.kP) Try.underlying25 rfl (by kernel_rfl) ?_))
              (with_reducible refine (safe_any (n := n) (B0 := w.heap.size) l tN W T c m d STN.tr (HWT.out.1.below STN.bl) STN.bl.size HWT.out.2.2.1 h2 HO.out.2.1 HT.out.2.2.2.2.1).mono ?_)
              rintro e w7 ⟨rfl, hb7⟩
              have st8 := STN.keep hb7
              clear hb7 STN
              obtain ⟨cc, c1, lT⟩ := st8.tr.c1
              rw [HT.out.2.2.2.2.2.2.2.2] at c1
              obtain ⟨lv, gv, sv⟩ := st8.tr.seat (who := k) (s := s) HT.out.1
              have o1 := sv.cells 1 _ rfl
              have l1 := sv.lt
              clear sv
              have o1' : w7.cell? ⟨gs, k * 11 + 1, none⟩ = some (.bool false) := by rw [o1]; show some (Value.bool s.busy) = _; rw [HT.out.2.2.2.2.2.2.1, HT.out.2.2.2.2.2.2.2.1]
              have hki : (k : Int) < n := by omega
              clear o1
              go_wp2_with fail
              go_roundw
              case rel => exact ⟨k + 1, by omega, rfl, by go_num, by rw [HT.out.2.2.2.2.2.1]; exact st8⟩
              case measure => simp [intOf]; omega
        · have i1 : decide ((k : Int) < n) = false := by simp; omega
          have i2 : decide (k < n) = false := by simp; omega
          obtain rfl : k = n := by omega
          rw [whosP_end] at st
          have HX := Lib.hid st
          clear st st0
          go_wp2_with fail
          refine bodyPost_ret (v := .tuple #[ptr gt, .bool true]) (by simp [results, Try.results9, go_sem]) rfl ⟨gt, gs, rfl, HG.out.1, HG.out.2, HX.out.tr, HX.out.bl⟩
end Go.Proofs.Ytgjdjgainjedhaa
