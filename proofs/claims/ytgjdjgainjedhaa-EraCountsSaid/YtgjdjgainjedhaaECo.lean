/- EraCounts' walk. Printed by co_gen.py. -/
import Derived.Test.YtgjdjgainjedhaaECp
import Derived.Test.YtgjdjgainjedhaaESh
namespace Go.Proofs.Ytgjdjgainjedhaa
open Go.RowKit
set_option linter.unusedVariables false
attribute [local go_sem ↓] Go.wp_at_zero Go.wp_at_succ

def coL : Ly := lyOf ⟨2, 5, 1, 1, 1, 0, 0, 0, 0⟩
theorem coCf_can : Cf.can ⟨2, 5, 1, 1, 1, 0, 0, 0, 0⟩ := by
  refine ⟨⟨fun j hj => ?_, rfl⟩, by decide, by decide⟩
  have hc : j = 0 ∨ j = 1 ∨ j = 2 ∨ j = 3 ∨ j = 4 ∨ j = 5 ∨ j = 6 ∨ j = 7 := by omega
  rcases hc with rfl | rfl | rfl | rfl | rfl | rfl | rfl | rfl <;> simp [Cf.rowOk]
structure CoIs (l : Ly) (N s x a : Int) (M1 M2 M3 M4 : List Int) (val : Int) : Prop where
  len : M1.length = 72 ∧ M2.length = 72 ∧ M3.length = 72 ∧ M4.length = 72
  m1 : M1 = (List.replicate 72 0).set 2 (1 + N)
  r1 : ARun l 0 [] ⟨1, 0, s, a⟩ M1 5 val true 0 3 []
  e1 : (aloneS l 0 [] ⟨1, 0, s, a⟩ M1 5).1 = M2
  r2 : ARun l 0 [] ⟨2, 0, 0, 0⟩ M2 3 0 true 0 2 []
  e2 : (aloneS l 0 [] ⟨2, 0, 0, 0⟩ M2 3).1 = M3
  r3 : ARun l 0 [(x % 5 + 1, 1)] ⟨3, 0, x, 0⟩ M3 2 0 true 0 1 [(x % 5 + 1, 1), (x, 1 + N)]
  e3 : (aloneS l 0 [(x % 5 + 1, 1)] ⟨3, 0, x, 0⟩ M3 2).1 = M4
  rv : resvAt l 0 s = 8 + s
  c2 : cellN M2 (8 + s) = 1 + N
  c3 : cellN M3 (8 + s) = 0
  c4 : cellN M4 2 = 2 + N
  own : a ≠ 2 → a ≠ 8 + s → M1[a.toNat]? = some val
theorem co_lay : (coL.size = 72 ∧ coL.era = 2 ∧ coL.c.seats = 2 ∧ coL.c.nodes = 5) ∧ (∀ i, i < 3 → resvAt coL 0 ((i : Nat) : Int) = ((8 + i : Nat) : Int)) := by
  refine ⟨by decide +kernel, fun i hi => ?_⟩
  have hc : i = 0 ∨ i = 1 ∨ i = 2 := by omega
  rcases hc with rfl | rfl | rfl <;> decide +kernel
theorem cellN_in {zs : List Int} {k : Nat} (h : k < zs.length) : cellN zs (k : Nat) = zs.getD k 0 := by
  unfold cellN
  rw [if_neg (by omega), Int.toNat_natCast]
theorem co_is (N s x a : Int) (hN : 0 ≤ N ∧ N < 65536) (hs : 0 ≤ s ∧ s < 3) (hx : 1 ≤ x ∧ x ≤ 5) (ha : 0 ≤ a ∧ a < 72) : ∃ M1 M2 M3 M4 val, CoIs coL N s x a M1 M2 M3 M4 val := by
  obtain ⟨⟨l1, l2, l3, l4⟩, hrv⟩ := co_lay
  obtain ⟨σ, rfl⟩ : ∃ σ : Nat, s = σ := ⟨s.toNat, by omega⟩
  have hσ : σ < 3 := by omega
  obtain ⟨M1, hM1⟩ : ∃ z, (List.replicate 72 (0 : Int)).set 2 (1 + N) = z := ⟨_, rfl⟩
  have n1 : M1.length = 72 := by rw [← hM1]; simp
  have g1 : M1.getD 2 0 = 1 + N := by rw [← hM1, set_at (by simp), if_pos rfl]
  have q1 := guard_run (l := coL) (me := 0) (m := M1) (s := (σ : Int)) (b := a) (sz := 72) (ρ := 8 + σ) (e := 1 + N) ⟨by omega, by omega⟩ ⟨ha.1, by omega⟩ (by omega) n1 (by omega) ⟨hrv σ hσ, by omega⟩ (by omega) (by rw [l2]; exact g1) (by omega)
  obtain ⟨M2, hM2⟩ : ∃ z, M1.set (8 + σ) (1 + N) = z := ⟨_, rfl⟩
  have n2 : M2.length = 72 := by rw [← hM2]; simp [n1]
  rw [hM2] at q1
  have q2 := drop_run (l := coL) (me := 0) (m := M2) (sz := 72) (fun i => 8 + i) n2 (fun i hi => ⟨hrv i hi, by omega⟩)
  obtain ⟨M3, hM3⟩ : ∃ z, ((M2.set (8 + 0) 0).set (8 + 1) 0).set (8 + 2) 0 = z := ⟨_, rfl⟩
  have n3 : M3.length = 72 := by rw [← hM3]; simp [n2]
  have g3 : M3.getD 2 0 = 1 + N := by
    rw [← hM3, set_at (by simp [n2]), if_neg (by omega), set_at (by simp [n2]), if_neg (by omega), set_at (by simp [n2]), if_neg (by omega), ← hM2, set_at (by simp [n1]; omega), if_neg (by omega)]
    exact g1
  have q3 := retire_run (l := coL) (me := 0) (gone := [(x % 5 + 1, 1)]) (m := M3) (x := x) (e := 1 + N) (sz := 72) ⟨hx.1, by omega⟩ n3 (by omega) (by rw [l2]; exact g3) ⟨by omega, by omega⟩ (by rw [l3]; simp)
  obtain ⟨M4, hM4⟩ : ∃ z, M3.set coL.era.toNat (1 + N + 1) = z := ⟨_, rfl⟩
  have n4 : M4.length = 72 := by rw [← hM4]; simp [n3]
  refine ⟨M1, M2, M3, M4, M2.getD a.toNat 0, ⟨n1, n2, n3, n4⟩, hM1.symm, q1.1, q1.2, q2.1, by rw [q2.2]; exact hM3, q3.1, by rw [q3.2]; exact hM4, by rw [hrv σ hσ]; omega, ?_, ?_, ?_, ?_⟩
  · rw [show (8 : Int) + (σ : Int) = ((8 + σ : Nat) : Int) by omega, cellN_in (by omega), ← hM2, set_at (by omega), if_pos rfl]
  · rw [show (8 : Int) + (σ : Int) = ((8 + σ : Nat) : Int) by omega, cellN_in (by omega), ← hM3, set_at (by simp [n2]), set_at (by simp [n2]), set_at (by simp [n2])]
    have hc : σ = 0 ∨ σ = 1 ∨ σ = 2 := by omega
    rcases hc with rfl | rfl | rfl <;> simp
  · rw [show (2 : Int) = ((2 : Nat) : Int) from rfl, cellN_in (by omega), ← hM4, l2, set_at (by omega)]
    simp
    omega
  · intro h1 h2
    rw [← hM2, set_at (by omega), if_neg (by omega), List.getD_eq_getElem?_getD]
    rw [List.getElem?_eq_getElem (by omega)]
    rfl
section
variable {w : World}
theorem own_cells' {B n c : Nat} {A : Option Addr} {zs : List Int} (h : OwnInts w B (.slice A n c) zs) (hn : zs.length = n) (h0 : 0 < n) : ∃ gR cur, (A = some ⟨gR, 0, none⟩ ∧ Bk w gR 3 cur) ∧ B ≤ gR ∧ ∀ (k : Nat) (r : Int), zs[k]? = some r → cur[k]? = some (.int .i64 r) := by
  rcases h.2 with ⟨_, h0⟩ | ⟨g, cap, cur, h1, h2, h3, _, _, _, h4⟩
  · omega
  · injection h1 with h1 _ _
    refine ⟨g, cur, ⟨h1, h3⟩, h2, fun k r hk => ?_⟩
    have h5 : (ints zs)[k]? = some (.int .i64 r) := by simp [ints, hk]
    rw [← h4, List.getElem?_take] at h5
    split at h5
    · simpa using h5
    · cases h5
/-- A row of ints from one that was set at k. -/
theorem sl_cur {g n : Nat} {cur : Array Value} {zs : List Int} (k : Bk w g 3 cur) (hn : zs.length = n) (h : ∀ (k : Nat) (r : Int), zs[k]? = some r → cur[k]? = some (.int .i64 r)) : Sl w w.heap.size (some ⟨g, 0, none⟩) n (ints zs) := by
  refine ⟨by simp [ints, hn], fun _ => ⟨g, 0, rfl, k.lt, fun j u hu => ?_⟩⟩
  rw [Nat.zero_add, k.cell]
  simp only [ints, List.getElem?_map] at hu
  cases e : zs[j]? with
  | none => rw [e] at hu; cases hu
  | some z => rw [e] at hu; cases hu; exact h j z e
theorem cur_set {cur : Array Value} {zs : List Int} {i : Nat} {v : Int} (hi : i < zs.length) (h : ∀ (k : Nat) (r : Int), zs[k]? = some r → cur[k]? = some (.int .i64 r)) : ∀ (k : Nat) (r : Int), (zs.set i v)[k]? = some r → (cur.setIfInBounds i (.int .i64 v))[k]? = some (.int .i64 r) := by
  intro k r hk
  rw [List.getElem?_set] at hk
  have hc := h i zs[i] (List.getElem?_eq_getElem hi)
  have hlt := (Array.getElem?_eq_some_iff.1 hc).1
  by_cases e : i = k
  · subst e
    rw [if_pos rfl, if_pos hi] at hk
    cases hk
    simp [hlt]
  · rw [if_neg e] at hk
    rw [Array.getElem?_setIfInBounds, if_neg e]
    exact h k r hk
theorem sl_slInt {B n : Nat} {A : Option Addr} {zs : List Int} (h : Sl w B A n (ints zs)) : SlInt w B A zs := by
  intro hl
  have hn := h.1
  simp [ints] at hn
  obtain ⟨b, o, e, hb, hc⟩ := h.2 (by omega)
  exact ⟨b, o, e, hb, fun k r hk => hc k _ (by simp [ints, hk])⟩
theorem pair_at2 {G : Option Addr} {n c' : Nat} {x y : Int × Int} (h : GoneOk w (.slice G n c') [x, y]) : n = 2 ∧ ∃ b o, G = some ⟨b, o, none⟩ ∧ b < w.heap.size ∧ w.cell? ⟨b, o + 2, none⟩ = some (.int .i64 y.1) ∧ w.cell? ⟨b, o + 2 + 1, none⟩ = some (.int .i64 y.2) := by
  obtain ⟨G', n', c2, e, hn, -, hp⟩ := h
  injection e with e1 e2 e3
  subst e1 e2 e3
  obtain ⟨b, o, cs, e1, k, hc⟩ := hp (by simp)
  have := hc 1 y rfl
  simp only [Nat.one_mul] at this
  exact ⟨hn, b, o, e1, k.lt, this.1, this.2⟩
/-- alone, with one pair gone. -/
theorem alone_one (l : Ly) (p q k o a b : Int) (m : List Int) (N K : Nat) (val : Int) (is : Bool) (err pt : Int) (g : Gone) (A : Option Addr) (c gG : Nat) (w : World) (f : LyFull l) (hse : 1 ≤ l.c.seats ∧ l.c.seats ≤ 8) (hno : l.c.nodes ≤ 1000) (hp : p ≤ 1000000) (kG : Bk w gG 51 #[.int .i64 p, .int .i64 q]) (hr : ARun l 0 [(p, q)] ⟨k, o, a, b⟩ m K val is err pt g) (hN : m.length = N) (hm : N ≤ 100000) (hA : Sl w w.heap.size A N (ints m)) :
    Calls Try.prog 19 #[.agg (lyC l), .agg #[.slice A N c], .int .i64 0, .slice (some ⟨gG, 0, none⟩) 1 1, .agg #[.int .i64 k, .int .i64 o, .int .i64 a, .int .i64 b]] w (AlonePost val is err pt g (aloneS l 0 [(p, q)] ⟨k, o, a, b⟩ m K).1 K w) := by
  subst hN
  refine alone_any l 0 [(p, q)] ⟨k, o, a, b⟩ m K val is err pt g A (some ⟨gG, 0, none⟩) c 1 w f hse hno (fun h => by cases h) (fun _ => ⟨gG, 0, rfl, kG.lt, fun i r hi => ?_⟩) (by simp) (fun x hx => by simp at hx; subst hx; exact hp) hr hm hA
  have hi0 : i = 0 := by have := (List.getElem?_eq_some_iff.1 hi).1; simp at this; omega
  subst hi0
  simp at hi
  subst hi
  exact ⟨by rw [kG.cell]; rfl, by rw [kG.cell]; rfl⟩
end
theorem pair_cells {w : World} {b o : Nat} {u v : Value} (h0 : w.cell? ⟨b, o, none⟩ = some u) (h1 : w.cell? ⟨b, o + 1, none⟩ = some v) : ∀ (j : Nat) (z : Value), #[u, v][j]? = some z → w.cell? ⟨b, o + j, none⟩ = some z := by
  intro j z hj
  have hj2 : j = 0 ∨ j = 1 := by have := (Array.getElem?_eq_some_iff.1 hj).1; simp at this; omega
  rcases hj2 with rfl | rfl
  · simp at hj; subst hj; exact h0
  · simp at hj; subst hj; exact h1
theorem new_72 (w : World) : Calls Try.prog 16 #[.int .i64 72] w (NewMem 72 w) := new_any 72 w (by omega)
theorem wpList_load_rowG {P : Program} {ops : Array Oper} {rest : List Oper} {o : Oper} {a : Act} {w : World} {Q : Exit → Act → World → Prop} (hgd : Region.wanted o (yielded ops a.tmps) = true) (ty : TypeId) (x : Operand) (ho : o.op = .load ty x)
    (g : Nat) (hx : a.eval x = .pointer (some ⟨g, 0, none⟩)) (t : TypeId) (cs : Array Value) (fr : Nat × Nat) (d : TypeDesc) (hg : w.heap[g]? = some (.cells cs t fr))
    (hu : P.underlying ty = some d) (hd : (match d with | .struct _ | .array _ _ => true | _ => false) = true) (hi : (P.info? ty).map (·.size) = some cs.size)
    (h : wpList P ops Q rest (a.put o.dst (.agg cs)) w) : wpList P ops Q (o :: rest) a w := by
  simp only [wpList, hgd, if_true]
  exact .inl (wp_load_row ty x ho g hx t cs fr d hg hu hd hi h)
abbrev coIn (N S C X : Int) : Array Value := #[.int .u16 N, .int .u8 S, .int .u8 C, .int .u8 X]
set_option maxRecDepth 1000000 in
set_option maxHeartbeats 32000000 in
theorem counts_law (N S C X : Int) (w : World) (hN : 0 ≤ N ∧ N < 65536) (hS : 0 ≤ S ∧ S < 256) (hC : 0 ≤ C ∧ C < 256) (hX : 0 ≤ X ∧ X < 256) : Calls Try.prog 6 #[.agg (coIn N S C X)] w (BoolBelow true w) := by
  have hfull : LyFull coL := lyFull_of _ coCf_can
  have hof : ∀ w', Calls Try.prog 15 #[cfV ⟨2, 5, 1, 1, 1, 0, 0, 0, 0⟩] w' (OfPost coL 0 w') := fun w' => rof_ok _ w' coCf_can
  obtain ⟨s, hs⟩ : ∃ z, S % 3 = z := ⟨_, rfl⟩
  obtain ⟨x, hx⟩ : ∃ z, 1 + X % 5 = z := ⟨_, rfl⟩
  obtain ⟨a, ha⟩ : ∃ z, C % 72 = z := ⟨_, rfl⟩
  have bs : 0 ≤ s ∧ s < 3 := by omega
  have bx : 1 ≤ x ∧ x ≤ 5 := by omega
  have ba : 0 ≤ a ∧ a < 72 := by omega
  obtain ⟨M1, M2, M3, M4, val, hI⟩ := co_is N s x a hN bs bx ba
  have hlay := co_lay.1
  generalize coL = l at *
  have HL := Lib.hid (And.intro hfull (And.intro hof hlay))
  have HI := Lib.hid hI
  clear hfull hof hlay hI
  have hse : (1 ≤ l.c.seats ∧ l.c.seats ≤ 8) ∧ l.c.nodes ≤ 1000 := by have := HL.out.2.2; omega
  have HSE := Lib.hid hse
  clear hse
  have kP := Bk.made w 72 (coIn N S C X)
  have hbl := below_al (Below.refl w.heap.size w) (.cells (coIn N S C X) 72)
  have HE := Lib.hid (And.intro hs (And.intro hx ha))
  have HX := Lib.hid (And.intro hS (And.intro hC hX))
  clear hs hx ha
  go_enter Try.func6, Try.ntmps6
  go_upto_region 1 with fail
  generalize w.alloc (.cells (coIn N S C X) 72) = w1 at *
  obtain ⟨bP, hbP⟩ : ∃ z, w.heap.size = z := ⟨_, rfl⟩
  rw [hbP] at kP ⊢
  clear hbP
  have p0 := kP.cell 0
  have p1 := kP.cell 1
  have p2 := kP.cell 2
  have p3 := kP.cell 3
  have lP := kP.lt
  simp at p0 p1 p2 p3
  go_wp2_with fail
  (with_reducible refine (shown_any _).mono ?_)
  rintro e w2 ⟨rfl, hb⟩
  replace hbl := below_tr hbl hb
  clear hb kP p0 p1 p2 p3 lP
  go_wp2_with fail
  (with_reducible refine (HL.out.2.1 _).mono ?_)
  rintro e w3 ⟨rfl, hb⟩
  replace hbl := below_tr hbl hb
  clear hb
  go_upto_region 7 with (refine wpList_store_new rfl 40 (.tmp 8) (.tmp 36) rfl rfl w3.heap.size _ _ (lyC l) rfl rfl rfl rfl (by kernel_rfl) rfl (by simp [Value.oneCell']) ?_)
  have kL := Bk.made w3 40 (lyC l)
  replace hbl := below_al hbl (.cells (lyC l) 40)
  generalize w3.alloc (.cells (lyC l) 40) = w4 at *
  generalize w3.heap.size = bL at *
  have q24 := kL.cell 24
  have lL := kL.lt
  simp at q24
  rw [HL.out.2.2.1] at q24
  have hsz4 := hbl.size
  go_wp2_with fail
  (with_reducible refine (new_72 _).mono ?_)
  rintro e w5 ⟨g0, rfl, hown, hb⟩
  replace kL := kL.keep hb
  replace hbl := below_tr hbl hb
  clear hb q24 lL
  go_upto_region 8 with fail
  have kM := Bk.made w5 33 #[.slice (some ⟨g0, 0, none⟩) 72 72]
  obtain ⟨gR, cur, ⟨hgR, kA⟩, hge0, hcur⟩ := own_cells' hown (by simp) (by omega)
  obtain rfl : g0 = gR := by injection hgR with h; injection h
  have hge : w.heap.size ≤ g0 := Nat.le_trans hsz4 hge0
  clear hgR hown hge0 hsz4
  replace kA := kA.alloc (.cells #[.slice (some ⟨g0, 0, none⟩) 72 72] 33)
  replace kL := kL.alloc (.cells #[.slice (some ⟨g0, 0, none⟩) 72 72] 33)
  replace hbl := below_al hbl (.cells #[.slice (some ⟨g0, 0, none⟩) 72 72] 33)
  generalize w5.alloc (.cells #[.slice (some ⟨g0, 0, none⟩) 72 72] 33) = w6 at *
  generalize w5.heap.size = bM at *
  have nL : g0 ≠ bL := bk_neT kA kL (by decide)
  have nM : g0 ≠ bM := bk_neT kA kM (by decide)
  have q11 := kL.cell 11
  have q24 := kL.cell 24
  have c0 := kM.cell 0
  have a2 := kA.cell 2
  rw [hcur 2 0 (by decide)] at a2
  have fa := kA.free 2
  have lL := kL.lt
  have lM := kM.lt
  have lA := kA.lt
  simp at q24 q11 c0
  rw [HL.out.2.2.1] at q24
  rw [HL.out.2.2.2.1] at q11
  have hwr : IntKind.i64.wrap (1 + N) = 1 + N := by rw [IntWalk.i64_in _ (by omega)]
  have HCUR := Lib.hid hcur
  clear hcur
  go_upto_region 9 with fail
  replace kL := kL.other (p := ⟨g0, 2, none⟩) (Ne.symm nL) (.int .i64 (1 + N))
  replace kM := kM.other (p := ⟨g0, 2, none⟩) (Ne.symm nM) (.int .i64 (1 + N))
  replace kA := kA.stored 2 (.int .i64 (1 + N))
  replace hbl := below_set hbl hge (p := ⟨g0, 2, none⟩) (.int .i64 (1 + N))
  generalize w6.setCell ⟨g0, 2, none⟩ (.int .i64 (1 + N)) = w7 at *
  have hcur' := cur_set (v := 1 + N) (by simp) HCUR.out (i := 2)
  rw [← HI.out.m1] at hcur'
  generalize cur.setIfInBounds 2 (.int .i64 (1 + N)) = curN at *
  have HCU := Lib.hid hcur'
  clear HCUR hcur' q11 q24 c0 a2 fa lL lM lA hwr nL nM hge
  have q24 := kL.cell 24
  have lL := kL.lt
  simp at q24
  rw [HL.out.2.2.1] at q24
  go_upto_region 11 with fail
  rw [HE.out.1, HE.out.2.2]
  clear q24 lL
  have hsl : Sl w7 w7.heap.size (some ⟨g0, 0, none⟩) 72 (ints M1) := sl_cur kA HI.out.len.1 HCU.out
  go_wp2_with (first
    | (refine wpList_load_row rfl 40 (.tmp 8) rfl bL rfl 40 (lyC l) (0, 0) _ kL Try.underlying40 rfl (by kernel_rfl) ?_)
    | (refine wpList_load_row rfl 33 (.tmp 10) rfl bM rfl 33 #[.slice (some ⟨g0, 0, none⟩) 72 72] (0, 0) _ kM Try.underlying33 rfl (by kernel_rfl) ?_))
  (with_reducible refine (alone_nil l 0 1 0 s a M1 72 5 val true 0 3 [] (some ⟨g0, 0, none⟩) 72 _ HL.out.1 HSE.out.1 HSE.out.2 HI.out.r1 HI.out.len.1 (by omega) hsl).mono ?_)
  rintro e wA ⟨A2, c2, G5, n5, c5, rfl, hg5, hown2, hb⟩
  rw [HI.out.e1] at hown2 ⊢
  have hsl2 := sl_own0 (own_lower (hown2 (by omega)) (Nat.zero_le _)) HI.out.len.2.1
  rw [HI.out.len.2.1]
  replace kL := kL.keep hb
  replace kM := kM.keep hb
  replace kA := kA.keep hb
  replace hbl := below_tr hbl hb
  clear hb hown2 hsl hg5
  have n1 := (Bk.made wA 63 outZ).alloc (.cells #[.slice none 0 0] 33)
  have n2 := Bk.new (wA.alloc (.cells outZ 63)) (g := wA.heap.size + 1) (by simp) 33 #[.slice none 0 0]
  have n3 : Bk (((wA.alloc (.cells outZ 63)).alloc (.cells #[.slice none 0 0] 33)).setRow wA.heap.size (outG val true 0 3 (.slice G5 n5 c5))) (wA.heap.size + 1) 33 #[.slice none 0 0] := (setRow_other _ _ _ _ (by omega)).trans n2
  have f1 : Bk ((((wA.alloc (.cells outZ 63)).alloc (.cells #[.slice none 0 0] 33)).setRow wA.heap.size (outG val true 0 3 (.slice G5 n5 c5))).setRow (wA.heap.size + 1) #[.slice A2 72 c2]) wA.heap.size 63 (outG val true 0 3 (.slice G5 n5 c5)) := (setRow_other _ _ _ _ (by omega)).trans (setRow_heap _ _ outZ (outG val true 0 3 (.slice G5 n5 c5)) 63 (0, 0) n1)
  have f2 : Bk ((((wA.alloc (.cells outZ 63)).alloc (.cells #[.slice none 0 0] 33)).setRow wA.heap.size (outG val true 0 3 (.slice G5 n5 c5))).setRow (wA.heap.size + 1) #[.slice A2 72 c2]) (wA.heap.size + 1) 33 #[.slice A2 72 c2] := setRow_heap _ _ #[.slice none 0 0] #[.slice A2 72 c2] 33 (0, 0) n3
  have hbb : Below wA.heap.size wA ((((wA.alloc (.cells outZ 63)).alloc (.cells #[.slice none 0 0] 33)).setRow wA.heap.size (outG val true 0 3 (.slice G5 n5 c5))).setRow (wA.heap.size + 1) #[.slice A2 72 c2]) := (((below_al (below_al (Below.refl _ _) _) _).trans (below_setRow0 (Nat.le_refl _) _)).trans (below_setRow0 (Nat.le_succ _) _))
  have kLx := kL.keep hbb
  have kMx := kM.keep hbb
  have kAx := kA.keep hbb
  have hsl2x := hsl2.keepb hbb
  have hblx := below_tr hbl hbb
  have HG5 := Lib.hid (And.intro f1 (And.intro f2 (And.intro kLx (And.intro kMx (And.intro kAx (And.intro hsl2x hblx))))))
  clear f1 f2 hbb n2 kLx kMx kAx hsl2x hblx kL kM kA hsl2 hbl
  go_upto_region 12 with (first
    | (refine wpList_store_rowTo rfl 63 (.tmp 13) (.tmp 64) rfl rfl wA.heap.size (outG val true 0 3 (.slice G5 n5 c5)) rfl rfl 63 outZ n1 (by kernel_rfl) rfl (by simp [Value.oneCell']) ?_)
    | (refine wpList_store_rowTo rfl 33 (.tmp 14) (.tmp 65) rfl rfl (wA.heap.size + 1) #[.slice A2 72 c2] rfl rfl 33 #[.slice none 0 0] n3 (by kernel_rfl) rfl (by simp [Value.oneCell']) ?_))
  clear n1 n3
  obtain ⟨f1, f2, kL, kM, kA, hsl2, hbl⟩ := HG5.out
  clear HG5
  show Code.wp Try.prog _ _ _ ((((wA.alloc (.cells outZ 63)).alloc (.cells #[.slice none 0 0] 33)).setRow wA.heap.size (outG val true 0 3 (.slice G5 n5 c5))).setRow (wA.heap.size + 1) #[.slice A2 72 c2])
  generalize ((((wA.alloc (.cells outZ 63)).alloc (.cells #[.slice none 0 0] 33)).setRow wA.heap.size (outG val true 0 3 (.slice G5 n5 c5))).setRow (wA.heap.size + 1) #[.slice A2 72 c2]) = wB at *
  have kO := f1
  have kB := f2
  clear f1 f2
  obtain ⟨bO, hbO⟩ : ∃ z, wA.heap.size = z := ⟨_, rfl⟩
  rw [hbO] at kO kB
  rw [hbO]
  clear hbO
  generalize bO + 1 = bB at *
  go_wp2_with (first
    | (refine wpList_load_row rfl 40 (.tmp 8) rfl bL rfl 40 (lyC l) (0, 0) _ kL Try.underlying40 rfl (by kernel_rfl) ?_)
    | (refine wpList_load_row rfl 33 (.tmp 14) rfl bB rfl 33 #[.slice A2 72 c2] (0, 0) _ kB Try.underlying33 rfl (by kernel_rfl) ?_))
  (with_reducible refine (alone_nil l 0 2 0 0 0 M2 72 3 0 true 0 2 [] A2 c2 _ HL.out.1 HSE.out.1 HSE.out.2 HI.out.r2 HI.out.len.2.1 (by omega) hsl2).mono ?_)
  rintro e wC ⟨A3, c3, G6, n6, c6, rfl, hg6, hown3, hb⟩
  rw [HI.out.e2] at hown3 ⊢
  have hsl3 := sl_own0 (own_lower (hown3 (by omega)) (Nat.zero_le _)) HI.out.len.2.2.1
  rw [HI.out.len.2.2.1]
  replace kL := kL.keep hb
  replace kM := kM.keep hb
  replace kA := kA.keep hb
  replace kO := kO.keep hb
  replace kB := kB.keep hb
  replace hsl2 := hsl2.keepb hb
  replace hbl := below_tr hbl hb
  clear hb hown3 hg6
  have n1 := (Bk.made wC 63 outZ).alloc (.cells #[.slice none 0 0] 33)
  have n2 := Bk.new (wC.alloc (.cells outZ 63)) (g := wC.heap.size + 1) (by simp) 33 #[.slice none 0 0]
  have n3 : Bk (((wC.alloc (.cells outZ 63)).alloc (.cells #[.slice none 0 0] 33)).setRow wC.heap.size (outG 0 true 0 2 (.slice G6 n6 c6))) (wC.heap.size + 1) 33 #[.slice none 0 0] := (setRow_other _ _ _ _ (by omega)).trans n2
  have f1 : Bk ((((wC.alloc (.cells outZ 63)).alloc (.cells #[.slice none 0 0] 33)).setRow wC.heap.size (outG 0 true 0 2 (.slice G6 n6 c6))).setRow (wC.heap.size + 1) #[.slice A3 72 c3]) wC.heap.size 63 (outG 0 true 0 2 (.slice G6 n6 c6)) := (setRow_other _ _ _ _ (by omega)).trans (setRow_heap _ _ outZ (outG 0 true 0 2 (.slice G6 n6 c6)) 63 (0, 0) n1)
  have f2 : Bk ((((wC.alloc (.cells outZ 63)).alloc (.cells #[.slice none 0 0] 33)).setRow wC.heap.size (outG 0 true 0 2 (.slice G6 n6 c6))).setRow (wC.heap.size + 1) #[.slice A3 72 c3]) (wC.heap.size + 1) 33 #[.slice A3 72 c3] := setRow_heap _ _ #[.slice none 0 0] #[.slice A3 72 c3] 33 (0, 0) n3
  have hbb : Below wC.heap.size wC ((((wC.alloc (.cells outZ 63)).alloc (.cells #[.slice none 0 0] 33)).setRow wC.heap.size (outG 0 true 0 2 (.slice G6 n6 c6))).setRow (wC.heap.size + 1) #[.slice A3 72 c3]) := (((below_al (below_al (Below.refl _ _) _) _).trans (below_setRow0 (Nat.le_refl _) _)).trans (below_setRow0 (Nat.le_succ _) _))
  have kLx := kL.keep hbb
  have kMx := kM.keep hbb
  have kAx := kA.keep hbb
  have kOx := kO.keep hbb
  have kBx := kB.keep hbb
  have hsl2x := hsl2.keepb hbb
  have hsl3x := hsl3.keepb hbb
  have hblx := below_tr hbl hbb
  have HG6 := Lib.hid (And.intro f1 (And.intro f2 (And.intro kLx (And.intro kMx (And.intro kAx (And.intro kOx (And.intro kBx (And.intro hsl2x (And.intro hsl3x hblx)))))))))
  clear f1 f2 hbb n2 kLx kMx kAx kOx kBx hsl2x hsl3x hblx kL kM kA kO kB hsl2 hsl3 hbl
  go_upto_region 13 with (first
    | (refine wpList_store_rowTo rfl 63 (.tmp 16) (.tmp 72) rfl rfl wC.heap.size (outG 0 true 0 2 (.slice G6 n6 c6)) rfl rfl 63 outZ n1 (by kernel_rfl) rfl (by simp [Value.oneCell']) ?_)
    | (refine wpList_store_rowTo rfl 33 (.tmp 17) (.tmp 73) rfl rfl (wC.heap.size + 1) #[.slice A3 72 c3] rfl rfl 33 #[.slice none 0 0] n3 (by kernel_rfl) rfl (by simp [Value.oneCell']) ?_))
  clear n1 n3
  obtain ⟨f1, f2, kL, kM, kA, kO, kB, hsl2, hsl3, hbl⟩ := HG6.out
  clear HG6
  show Code.wp Try.prog _ _ _ ((((wC.alloc (.cells outZ 63)).alloc (.cells #[.slice none 0 0] 33)).setRow wC.heap.size (outG 0 true 0 2 (.slice G6 n6 c6))).setRow (wC.heap.size + 1) #[.slice A3 72 c3])
  generalize ((((wC.alloc (.cells outZ 63)).alloc (.cells #[.slice none 0 0] 33)).setRow wC.heap.size (outG 0 true 0 2 (.slice G6 n6 c6))).setRow (wC.heap.size + 1) #[.slice A3 72 c3]) = wD at *
  have kC := f2
  clear f1 f2
  obtain ⟨bC, hbC⟩ : ∃ z, wC.heap.size + 1 = z := ⟨_, rfl⟩
  rw [hbC] at kC
  rw [hbC]
  clear hbC
  generalize wC.heap.size = b16 at *
  go_upto_region 14 with fail
  rw [HE.out.2.1]
  have hw5 : IntKind.i64.wrap (x % 5 + 1) = x % 5 + 1 := by rw [IntWalk.i64_in _ (by omega)]
  have kG := Bk.made wD 51 #[.int .i64 (x % 5 + 1), .int .i64 1]
  have hba : Below wD.heap.size wD (wD.alloc (.cells #[.int .i64 (x % 5 + 1), .int .i64 1] 51)) := below_al (Below.refl _ _) _
  have nLG : wD.heap.size ≠ bL := fun h => by have := kL.lt; omega
  have nCG : wD.heap.size ≠ bC := fun h => by have := kC.lt; omega
  have kL1 := kL
  have kC1 := kC
  replace kL := kL.keep hba
  replace kM := kM.keep hba
  replace kA := kA.keep hba
  replace kO := kO.keep hba
  replace kB := kB.keep hba
  replace kC := kC.keep hba
  replace hsl2 := hsl2.keepb hba
  replace hsl3 := hsl3.keepb hba
  replace hbl := below_tr hbl hba
  clear hba
  go_wp2_with (first
    | (refine wpList_load_row rfl 40 (.tmp 8) rfl bL rfl 40 (lyC l) (0, 0) _ kL1 Try.underlying40 rfl (by kernel_rfl) ?_)
    | (refine wpList_load_row rfl 33 (.tmp 17) rfl bC rfl 33 #[.slice A3 72 c3] (0, 0) _ kC1 Try.underlying33 rfl (by kernel_rfl) ?_)
    | (refine wpList_load_row rfl 40 (.tmp 8) rfl bL rfl 40 (lyC l) (0, 0) _ kL Try.underlying40 rfl (by kernel_rfl) ?_)
    | (refine wpList_load_row rfl 33 (.tmp 17) rfl bC rfl 33 #[.slice A3 72 c3] (0, 0) _ kC Try.underlying33 rfl (by kernel_rfl) ?_))
  clear kL1 kC1
  generalize (wD.alloc (.cells #[.int .i64 (x % 5 + 1), .int .i64 1] 51)) = wG at *
  generalize wD.heap.size = gG at *
  (with_reducible refine (alone_one l (x % 5 + 1) 1 3 0 x 0 M3 72 2 0 true 0 1 [(x % 5 + 1, 1), (x, 1 + N)] A3 c3 gG _ HL.out.1 HSE.out.1 HSE.out.2 (by omega) kG HI.out.r3 HI.out.len.2.2.1 (by omega) hsl3).mono ?_)
  rintro e wE ⟨A4, c4, G7, n7, c7, rfl, hg7, hown4, hb⟩
  rw [HI.out.e3] at hown4 ⊢
  have hsl4 := sl_own0 (own_lower (hown4 (by omega)) (Nat.zero_le _)) HI.out.len.2.2.2
  rw [HI.out.len.2.2.2]
  replace kL := kL.keep hb
  replace kM := kM.keep hb
  replace kA := kA.keep hb
  replace kO := kO.keep hb
  replace kB := kB.keep hb
  replace kC := kC.keep hb
  replace hsl2 := hsl2.keepb hb
  replace hsl3 := hsl3.keepb hb
  replace hbl := below_tr hbl hb
  clear hb hown4 kG nLG nCG hw5
  have n1 := (Bk.made wE 63 outZ).alloc (.cells #[.slice none 0 0] 33)
  have n2 := Bk.new (wE.alloc (.cells outZ 63)) (g := wE.heap.size + 1) (by simp) 33 #[.slice none 0 0]
  have n3 : Bk (((wE.alloc (.cells outZ 63)).alloc (.cells #[.slice none 0 0] 33)).setRow wE.heap.size (outG 0 true 0 1 (.slice G7 n7 c7))) (wE.heap.size + 1) 33 #[.slice none 0 0] := (setRow_other _ _ _ _ (by omega)).trans n2
  have f1 : Bk ((((wE.alloc (.cells outZ 63)).alloc (.cells #[.slice none 0 0] 33)).setRow wE.heap.size (outG 0 true 0 1 (.slice G7 n7 c7))).setRow (wE.heap.size + 1) #[.slice A4 72 c4]) wE.heap.size 63 (outG 0 true 0 1 (.slice G7 n7 c7)) := (setRow_other _ _ _ _ (by omega)).trans (setRow_heap _ _ outZ (outG 0 true 0 1 (.slice G7 n7 c7)) 63 (0, 0) n1)
  have f2 : Bk ((((wE.alloc (.cells outZ 63)).alloc (.cells #[.slice none 0 0] 33)).setRow wE.heap.size (outG 0 true 0 1 (.slice G7 n7 c7))).setRow (wE.heap.size + 1) #[.slice A4 72 c4]) (wE.heap.size + 1) 33 #[.slice A4 72 c4] := setRow_heap _ _ #[.slice none 0 0] #[.slice A4 72 c4] 33 (0, 0) n3
  have hbb : Below wE.heap.size wE ((((wE.alloc (.cells outZ 63)).alloc (.cells #[.slice none 0 0] 33)).setRow wE.heap.size (outG 0 true 0 1 (.slice G7 n7 c7))).setRow (wE.heap.size + 1) #[.slice A4 72 c4]) := (((below_al (below_al (Below.refl _ _) _) _).trans (below_setRow0 (Nat.le_refl _) _)).trans (below_setRow0 (Nat.le_succ _) _))
  have kLx := kL.keep hbb
  have kMx := kM.keep hbb
  have kAx := kA.keep hbb
  have kOx := kO.keep hbb
  have kBx := kB.keep hbb
  have kCx := kC.keep hbb
  have hsl2x := hsl2.keepb hbb
  have hsl3x := hsl3.keepb hbb
  have hsl4x := hsl4.keepb hbb
  have hg7x := (hg7.mv fun b cs kb => kb.keep hbb : GoneOk ((((wE.alloc (.cells outZ 63)).alloc (.cells #[.slice none 0 0] 33)).setRow wE.heap.size (outG 0 true 0 1 (.slice G7 n7 c7))).setRow (wE.heap.size + 1) #[.slice A4 72 c4]) (.slice G7 n7 c7) [(x % 5 + 1, 1), (x, 1 + N)])
  have hblx := below_tr hbl hbb
  have HG7 := Lib.hid (And.intro f1 (And.intro f2 (And.intro kLx (And.intro kMx (And.intro kAx (And.intro kOx (And.intro kBx (And.intro kCx (And.intro hsl2x (And.intro hsl3x (And.intro hsl4x (And.intro hg7x hblx))))))))))))
  clear f1 f2 hbb n2 kLx kMx kAx kOx kBx kCx hsl2x hsl3x hsl4x hg7x hblx kL kM kA kO kB kC hsl2 hsl3 hsl4 hg7 hbl
  go_upto_region 15 with (first
    | (refine wpList_store_rowTo rfl 63 (.tmp 20) (.tmp 90) rfl rfl wE.heap.size (outG 0 true 0 1 (.slice G7 n7 c7)) rfl rfl 63 outZ n1 (by kernel_rfl) rfl (by simp [Value.oneCell']) ?_)
    | (refine wpList_store_rowTo rfl 33 (.tmp 21) (.tmp 91) rfl rfl (wE.heap.size + 1) #[.slice A4 72 c4] rfl rfl 33 #[.slice none 0 0] n3 (by kernel_rfl) rfl (by simp [Value.oneCell']) ?_))
  clear n1 n3
  obtain ⟨f1, f2, kL, kM, kA, kO, kB, kC, hsl2, hsl3, hsl4, hg7, hbl⟩ := HG7.out
  clear HG7
  show Code.wp Try.prog _ _ _ ((((wE.alloc (.cells outZ 63)).alloc (.cells #[.slice none 0 0] 33)).setRow wE.heap.size (outG 0 true 0 1 (.slice G7 n7 c7))).setRow (wE.heap.size + 1) #[.slice A4 72 c4])
  generalize ((((wE.alloc (.cells outZ 63)).alloc (.cells #[.slice none 0 0] 33)).setRow wE.heap.size (outG 0 true 0 1 (.slice G7 n7 c7))).setRow (wE.heap.size + 1) #[.slice A4 72 c4]) = wF at *
  have kE := f1
  have kD := f2
  clear f1 f2
  obtain ⟨bE, hbE⟩ : ∃ z, wE.heap.size = z := ⟨_, rfl⟩
  rw [hbE] at kE kD
  rw [hbE]
  clear hbE
  generalize bE + 1 = bD at *
  obtain ⟨rfl, bP, oP, rfl, lP, hp0, hp1⟩ := pair_at2 hg7
  clear hg7
  have e4 := kE.cell 4
  have lE := kE.lt
  have q11 := kL.cell 11
  have lL := kL.lt
  simp at e4 q11
  rw [HL.out.2.2.2.1] at q11
  have HR := Lib.hid (And.intro hp0 hp1)
  clear hp0 hp1
  go_upto_region 17 with fail
  clear e4 lE
  have hw1 : IntKind.i64.wrap (1 + N) = 1 + N := by rw [IntWalk.i64_in _ (by omega)]
  have hw2 : IntKind.i64.wrap (2 + N) = 2 + N := by rw [IntWalk.i64_in _ (by omega)]
  have hw0 : IntKind.i64.wrap N = N := by rw [IntWalk.i64_in _ (by omega)]
  have HW1 := Lib.hid (And.intro hw1 (And.intro hw2 hw0))
  have HBA := Lib.hid ba
  clear hw0 hw1 hw2
  by_cases h2 : a = 2
  · have i1 : decide (a = 2) = true := by simp [h2]
    go_upto_region 18 with fail
    clear i1 h2
    clear q11 lL
    refine wp_region_E (S := fun w' => Below wF.drew.heap.size wF.drew w') (E := fun _ => false) (by kernel_rfl) ?_
    simp only [List.append_eq, List.cons_append, List.nil_append]
    have hr2 : wF.drew.cell? ⟨bP, oP + 2, none⟩ = some (.int .i64 x) ∧ wF.drew.cell? ⟨bP, oP + 2 + 1, none⟩ = some (.int .i64 (1 + N)) := ⟨HR.out.1, HR.out.2⟩
    replace kL := kL.drew
    replace kM := kM.drew
    replace kA := kA.drew
    replace kO := kO.drew
    replace kB := kB.drew
    replace kC := kC.drew
    replace kE := kE.drew
    replace kD := kD.drew
    replace hbl := hbl.drew
    replace hsl2 := hsl2.keepb (below_drew' (Below.refl _ _))
    replace hsl3 := hsl3.keepb (below_drew' (Below.refl _ _))
    replace hsl4 := hsl4.keepb (below_drew' (Below.refl _ _))
    generalize wF.drew = wz at *
    have HQ2 := Lib.hid hr2
    clear hr2
    have hz0 : Below wz.heap.size wz wz := Below.refl _ _
    refine wpAnyE_take (i := 0) (oi := _) (v := .bool true) rfl (by kernel_rfl) (by kernel_rfl) (by kernel_rfl) (by kernel_rfl) (fun _ _ _ h => h) (Or.inl ⟨by kernel_rfl, ?_⟩) hz0 ?_
    · intro w' hSw
      (try simp only [List.getElem_toArray, List.getElem_cons_zero])
      go_simp
    (try simp only [List.getElem_toArray, List.getElem_cons_zero, Act.put, List.setIfInBounds_toArray, List.set_cons_zero, List.set_cons_succ])
    refine wpAnyE_take (i := 1) (oi := _) (v := .bool true) rfl (by kernel_rfl) (by kernel_rfl) (by kernel_rfl) (by kernel_rfl) (fun _ _ _ h => h) (Or.inl ⟨by kernel_rfl, ?_⟩) hz0 ?_
    · intro w' hSw
      (try simp only [List.getElem_toArray, List.getElem_cons_succ, List.getElem_cons_zero])
      go_simp
    (try simp only [List.getElem_toArray, List.getElem_cons_succ, List.getElem_cons_zero, Act.put, List.setIfInBounds_toArray, List.set_cons_zero, List.set_cons_succ])
    refine wpAnyE_take (i := 2) (oi := _) (v := .int .i64 5) rfl (by kernel_rfl) (by kernel_rfl) (by kernel_rfl) (by kernel_rfl) (fun _ _ _ h => h) (Or.inl ⟨by kernel_rfl, ?_⟩) hz0 ?_
    · intro w' hSw
      (try simp only [List.getElem_toArray, List.getElem_cons_succ, List.getElem_cons_zero])
      go_simp
    (try simp only [List.getElem_toArray, List.getElem_cons_succ, List.getElem_cons_zero, Act.put, List.setIfInBounds_toArray, List.set_cons_zero, List.set_cons_succ])
    refine wpAnyE_take (i := 3) (oi := _) (v := .bool true) rfl (by kernel_rfl) (by kernel_rfl) (by kernel_rfl) (by kernel_rfl) (fun _ _ _ h => h) (Or.inl ⟨by kernel_rfl, ?_⟩) hz0 ?_
    · intro w' hSw
      (try simp only [List.getElem_toArray, List.getElem_cons_succ, List.getElem_cons_zero])
      go_simp
    (try simp only [List.getElem_toArray, List.getElem_cons_succ, List.getElem_cons_zero, Act.put, List.setIfInBounds_toArray, List.set_cons_zero, List.set_cons_succ])
    refine wpAnyE_take (i := 4) (oi := _) (v := .bool true) rfl (by kernel_rfl) (by kernel_rfl) (by kernel_rfl) (by kernel_rfl) (fun _ _ _ h => h) (Or.inl ⟨by kernel_rfl, ?_⟩) hz0 ?_
    · intro w' hSw
      (try simp only [List.getElem_toArray, List.getElem_cons_succ, List.getElem_cons_zero])
      go_simp
    (try simp only [List.getElem_toArray, List.getElem_cons_succ, List.getElem_cons_zero, Act.put, List.setIfInBounds_toArray, List.set_cons_zero, List.set_cons_succ])
    refine wpAnyE_take (i := 5) (oi := _) (v := .bool true) rfl (by kernel_rfl) (by kernel_rfl) (by kernel_rfl) (by kernel_rfl) (fun _ _ _ h => h) (Or.inl ⟨by kernel_rfl, ?_⟩) hz0 ?_
    · intro w' hSw
      (try simp only [List.getElem_toArray, List.getElem_cons_succ, List.getElem_cons_zero])
      go_simp
    (try simp only [List.getElem_toArray, List.getElem_cons_succ, List.getElem_cons_zero, Act.put, List.setIfInBounds_toArray, List.set_cons_zero, List.set_cons_succ])
    refine wpAnyE_take (i := 6) (oi := _) (v := .pointer (some ⟨bO, 1, none⟩)) rfl (by kernel_rfl) (by kernel_rfl) (by kernel_rfl) (by kernel_rfl) (fun _ _ _ h => h) (Or.inl ⟨by kernel_rfl, ?_⟩) hz0 ?_
    · intro w' hSw
      (try simp only [List.getElem_toArray, List.getElem_cons_succ, List.getElem_cons_zero])
      go_simp
    (try simp only [List.getElem_toArray, List.getElem_cons_succ, List.getElem_cons_zero, Act.put, List.setIfInBounds_toArray, List.set_cons_zero, List.set_cons_succ])
    refine wpAnyE_take (i := 7) (oi := _) (v := .bool true) rfl (by kernel_rfl) (by kernel_rfl) (by kernel_rfl) (by kernel_rfl) (fun _ _ _ h => h) (Or.inl ⟨by kernel_rfl, ?_⟩) hz0 ?_
    · intro w' hSw
      have lO := (kO.keep hSw).lt
      have ff := (kO.keep hSw).cell 1
      (try simp at ff)
      (try simp only [List.getElem_toArray, List.getElem_cons_succ, List.getElem_cons_zero])
      go_simp
    (try simp only [List.getElem_toArray, List.getElem_cons_succ, List.getElem_cons_zero, Act.put, List.setIfInBounds_toArray, List.set_cons_zero, List.set_cons_succ])
    refine wpAnyE_take (i := 8) (oi := _) (v := .bool true) rfl (by kernel_rfl) (by kernel_rfl) (by kernel_rfl) (by kernel_rfl) (fun _ _ _ h => h) (Or.inl ⟨by kernel_rfl, ?_⟩) hz0 ?_
    · intro w' hSw
      (try simp only [List.getElem_toArray, List.getElem_cons_succ, List.getElem_cons_zero])
      go_simp
    (try simp only [List.getElem_toArray, List.getElem_cons_succ, List.getElem_cons_zero, Act.put, List.setIfInBounds_toArray, List.set_cons_zero, List.set_cons_succ])
    refine wpAnyE_take (i := 9) (oi := _) (v := .bool true) rfl (by kernel_rfl) (by kernel_rfl) (by kernel_rfl) (by kernel_rfl) (fun _ _ _ h => h) (Or.inl ⟨by kernel_rfl, ?_⟩) hz0 ?_
    · intro w' hSw
      (try simp only [List.getElem_toArray, List.getElem_cons_succ, List.getElem_cons_zero])
      go_simp
    (try simp only [List.getElem_toArray, List.getElem_cons_succ, List.getElem_cons_zero, Act.put, List.setIfInBounds_toArray, List.set_cons_zero, List.set_cons_succ])
    refine wpAnyE_take (i := 10) (oi := _) (v := .bool true) rfl (by kernel_rfl) (by kernel_rfl) (by kernel_rfl) (by kernel_rfl) (fun _ _ _ h => h) (Or.inl ⟨by kernel_rfl, ?_⟩) hz0 ?_
    · intro w' hSw
      (try simp only [List.getElem_toArray, List.getElem_cons_succ, List.getElem_cons_zero])
      go_simp
    (try simp only [List.getElem_toArray, List.getElem_cons_succ, List.getElem_cons_zero, Act.put, List.setIfInBounds_toArray, List.set_cons_zero, List.set_cons_succ])
    refine wpAnyE_take (i := 11) (oi := _) (v := .bool true) rfl (by kernel_rfl) (by kernel_rfl) (by kernel_rfl) (by kernel_rfl) (fun _ _ _ h => h) (Or.inl ⟨by kernel_rfl, ?_⟩) hz0 ?_
    · intro w' hSw
      (try simp only [List.getElem_toArray, List.getElem_cons_succ, List.getElem_cons_zero])
      go_simp
    (try simp only [List.getElem_toArray, List.getElem_cons_succ, List.getElem_cons_zero, Act.put, List.setIfInBounds_toArray, List.set_cons_zero, List.set_cons_succ])
    refine wpAnyE_take (i := 12) (oi := _) (v := undef) rfl (by kernel_rfl) (by kernel_rfl) (by kernel_rfl) (by kernel_rfl) (fun _ _ _ h => h) (Or.inr ⟨by kernel_rfl, rfl⟩) hz0 ?_
    (try simp only [List.getElem_toArray, List.getElem_cons_succ, List.getElem_cons_zero, Act.put, List.setIfInBounds_toArray, List.set_cons_zero, List.set_cons_succ])
    refine wpAnyE_take (i := 13) (oi := _) (v := undef) rfl (by kernel_rfl) (by kernel_rfl) (by kernel_rfl) (by kernel_rfl) (fun _ _ _ h => h) (Or.inr ⟨by kernel_rfl, rfl⟩) hz0 ?_
    (try simp only [List.getElem_toArray, List.getElem_cons_succ, List.getElem_cons_zero, Act.put, List.setIfInBounds_toArray, List.set_cons_zero, List.set_cons_succ])
    refine wpAnyE_take (i := 14) (oi := _) (v := undef) rfl (by kernel_rfl) (by kernel_rfl) (by kernel_rfl) (by kernel_rfl) (fun _ _ _ h => h) (Or.inr ⟨by kernel_rfl, rfl⟩) hz0 ?_
    (try simp only [List.getElem_toArray, List.getElem_cons_succ, List.getElem_cons_zero, Act.put, List.setIfInBounds_toArray, List.set_cons_zero, List.set_cons_succ])
    refine wpAnyE_take (i := 15) (oi := _) (v := undef) rfl (by kernel_rfl) (by kernel_rfl) (by kernel_rfl) (by kernel_rfl) (fun _ _ _ h => h) (Or.inr ⟨by kernel_rfl, rfl⟩) hz0 ?_
    (try simp only [List.getElem_toArray, List.getElem_cons_succ, List.getElem_cons_zero, Act.put, List.setIfInBounds_toArray, List.set_cons_zero, List.set_cons_succ])
    refine wpAnyE_take (i := 16) (oi := _) (v := undef) rfl (by kernel_rfl) (by kernel_rfl) (by kernel_rfl) (by kernel_rfl) (fun _ _ _ h => h) (Or.inr ⟨by kernel_rfl, rfl⟩) hz0 ?_
    (try simp only [List.getElem_toArray, List.getElem_cons_succ, List.getElem_cons_zero, Act.put, List.setIfInBounds_toArray, List.set_cons_zero, List.set_cons_succ])
    refine wpAnyE_take (i := 17) (oi := _) (v := undef) rfl (by kernel_rfl) (by kernel_rfl) (by kernel_rfl) (by kernel_rfl) (fun _ _ _ h => h) (Or.inr ⟨by kernel_rfl, rfl⟩) hz0 ?_
    (try simp only [List.getElem_toArray, List.getElem_cons_succ, List.getElem_cons_zero, Act.put, List.setIfInBounds_toArray, List.set_cons_zero, List.set_cons_succ])
    refine wpAnyE_take (i := 18) (oi := _) (v := undef) rfl (by kernel_rfl) (by kernel_rfl) (by kernel_rfl) (by kernel_rfl) (fun _ _ _ h => h) (Or.inr ⟨by kernel_rfl, rfl⟩) hz0 ?_
    (try simp only [List.getElem_toArray, List.getElem_cons_succ, List.getElem_cons_zero, Act.put, List.setIfInBounds_toArray, List.set_cons_zero, List.set_cons_succ])
    refine wpAnyE_take (i := 19) (oi := _) (v := undef) rfl (by kernel_rfl) (by kernel_rfl) (by kernel_rfl) (by kernel_rfl) (fun _ _ _ h => h) (Or.inr ⟨by kernel_rfl, rfl⟩) hz0 ?_
    (try simp only [List.getElem_toArray, List.getElem_cons_succ, List.getElem_cons_zero, Act.put, List.setIfInBounds_toArray, List.set_cons_zero, List.set_cons_succ])
    refine wpAnyE_take (i := 20) (oi := _) (v := .bool true) rfl (by kernel_rfl) (by kernel_rfl) (by kernel_rfl) (by kernel_rfl) (fun _ _ _ h => h) (Or.inl ⟨by kernel_rfl, ?_⟩) hz0 ?_
    · intro w' hSw
      (try simp only [List.getElem_toArray, List.getElem_cons_succ, List.getElem_cons_zero])
      go_simp
    (try simp only [List.getElem_toArray, List.getElem_cons_succ, List.getElem_cons_zero, Act.put, List.setIfInBounds_toArray, List.set_cons_zero, List.set_cons_succ])
    refine wpAnyE_take (i := 21) (oi := _) (v := .bool true) rfl (by kernel_rfl) (by kernel_rfl) (by kernel_rfl) (by kernel_rfl) (fun _ _ _ h => h) (Or.inl ⟨by kernel_rfl, ?_⟩) hz0 ?_
    · intro w' hSw
      (try simp only [List.getElem_toArray, List.getElem_cons_succ, List.getElem_cons_zero])
      go_simp
    (try simp only [List.getElem_toArray, List.getElem_cons_succ, List.getElem_cons_zero, Act.put, List.setIfInBounds_toArray, List.set_cons_zero, List.set_cons_succ])
    refine wpAnyE_take (i := 22) (oi := _) (v := .bool true) rfl (by kernel_rfl) (by kernel_rfl) (by kernel_rfl) (by kernel_rfl) (fun _ _ _ h => h) (Or.inl ⟨by kernel_rfl, ?_⟩) hz0 ?_
    · intro w' hSw
      (try simp only [List.getElem_toArray, List.getElem_cons_succ, List.getElem_cons_zero])
      go_simp
    (try simp only [List.getElem_toArray, List.getElem_cons_succ, List.getElem_cons_zero, Act.put, List.setIfInBounds_toArray, List.set_cons_zero, List.set_cons_succ])
    refine wpAnyE_take (i := 23) (oi := _) (v := .agg #[.slice A2 72 c2]) rfl (by kernel_rfl) (by kernel_rfl) (by kernel_rfl) (by kernel_rfl) (fun _ _ _ h => h) (Or.inl ⟨by kernel_rfl, ?_⟩) hz0 ?_
    · intro w' hSw
      (try simp only [List.getElem_toArray, List.getElem_cons_succ, List.getElem_cons_zero])
      simp only [execOp, Instr.loadAt, Instr.sureAddr, Sem.run_bind, Sem.run_pure]
      rw [show (Act.eval _ (Operand.tmp 14)) = Value.pointer (some ⟨bB, 0, none⟩) from rfl]
      simp only [Sem.run_pure, Result.andThen_ok, run_loadVar_row w' bB 33 33 #[.slice A2 72 c2] (0, 0) _ (kB.keep hSw) Try.underlying33 rfl (by kernel_rfl)]
    (try simp only [List.getElem_toArray, List.getElem_cons_succ, List.getElem_cons_zero, Act.put, List.setIfInBounds_toArray, List.set_cons_zero, List.set_cons_succ])
    refine wpAnyE_take (i := 24) (oi := _) (v := .agg (lyC l)) rfl (by kernel_rfl) (by kernel_rfl) (by kernel_rfl) (by kernel_rfl) (fun _ _ _ h => h) (Or.inl ⟨by kernel_rfl, ?_⟩) hz0 ?_
    · intro w' hSw
      (try simp only [List.getElem_toArray, List.getElem_cons_succ, List.getElem_cons_zero])
      simp only [execOp, Instr.loadAt, Instr.sureAddr, Sem.run_bind, Sem.run_pure]
      rw [show (Act.eval _ (Operand.tmp 8)) = Value.pointer (some ⟨bL, 0, none⟩) from rfl]
      simp only [Sem.run_pure, Result.andThen_ok, run_loadVar_row w' bL 40 40 (lyC l) (0, 0) _ (kL.keep hSw) Try.underlying40 rfl (by kernel_rfl)]
    (try simp only [List.getElem_toArray, List.getElem_cons_succ, List.getElem_cons_zero, Act.put, List.setIfInBounds_toArray, List.set_cons_zero, List.set_cons_succ])
    refine wpAnyE_take (i := 25) (oi := _) (v := .int .i64 s) rfl (by kernel_rfl) (by kernel_rfl) (by kernel_rfl) (by kernel_rfl) (fun _ _ _ h => h) (Or.inl ⟨by kernel_rfl, ?_⟩) hz0 ?_
    · intro w' hSw
      (try simp only [List.getElem_toArray, List.getElem_cons_succ, List.getElem_cons_zero])
      go_simp
    (try simp only [List.getElem_toArray, List.getElem_cons_succ, List.getElem_cons_zero, Act.put, List.setIfInBounds_toArray, List.set_cons_zero, List.set_cons_succ])
    refine wpAnyE_take (i := 28) (oi := _) (v := .int .u16 N) rfl (by kernel_rfl) (by kernel_rfl) (by kernel_rfl) (by kernel_rfl) (fun _ _ _ h => h) (Or.inl ⟨by kernel_rfl, ?_⟩) hz0 ?_
    · intro w' hSw
      (try simp only [List.getElem_toArray, List.getElem_cons_succ, List.getElem_cons_zero])
      go_simp
    (try simp only [List.getElem_toArray, List.getElem_cons_succ, List.getElem_cons_zero, Act.put, List.setIfInBounds_toArray, List.set_cons_zero, List.set_cons_succ])
    refine wpAnyE_take (i := 29) (oi := _) (v := .int .i64 N) rfl (by kernel_rfl) (by kernel_rfl) (by kernel_rfl) (by kernel_rfl) (fun _ _ _ h => h) (Or.inl ⟨by kernel_rfl, ?_⟩) hz0 ?_
    · intro w' hSw
      have hw0 := HW1.out.2.2
      (try simp only [List.getElem_toArray, List.getElem_cons_succ, List.getElem_cons_zero])
      go_simp
    (try simp only [List.getElem_toArray, List.getElem_cons_succ, List.getElem_cons_zero, Act.put, List.setIfInBounds_toArray, List.set_cons_zero, List.set_cons_succ])
    refine wpAnyE_take (i := 30) (oi := _) (v := .int .i64 (1 + N)) rfl (by kernel_rfl) (by kernel_rfl) (by kernel_rfl) (by kernel_rfl) (fun _ _ _ h => h) (Or.inl ⟨by kernel_rfl, ?_⟩) hz0 ?_
    · intro w' hSw
      have hw1 := HW1.out.1
      (try simp only [List.getElem_toArray, List.getElem_cons_succ, List.getElem_cons_zero])
      go_simp
    (try simp only [List.getElem_toArray, List.getElem_cons_succ, List.getElem_cons_zero, Act.put, List.setIfInBounds_toArray, List.set_cons_zero, List.set_cons_succ])
    refine wpAnyE_one (i := 26) (o := _) (by kernel_rfl) rfl (fun K hK => ?_)
    (try simp only [List.getElem_toArray, List.getElem_cons_succ, List.getElem_cons_zero])
    go_simp
    (with_reducible refine (rresv_any l 0 s _ HL.out.1).mono ?_)
    rintro e wy1 ⟨rfl, hy⟩
    have hz1 := below_tr hz0 hy
    clear hy
    rw [HI.out.rv]
    refine hK.out _ _ (fun _ => hz1) ?_
    clear hK K
    (try simp only [List.getElem_toArray, List.getElem_cons_succ, List.getElem_cons_zero, Act.put, List.setIfInBounds_toArray, List.set_cons_zero, List.set_cons_succ])
    refine wpAnyE_one (i := 27) (o := _) (by kernel_rfl) rfl (fun K hK => ?_)
    (try simp only [List.getElem_toArray, List.getElem_cons_succ, List.getElem_cons_zero])
    go_simp
    (with_reducible refine (cell_n A2 c2 72 M2 (8 + s) _ HI.out.len.2.1 (sl_slInt (hsl2.keepb hz1))).mono ?_)
    rintro e wy2 ⟨rfl, hy⟩
    have hz2 := below_tr hz1 hy
    clear hy
    rw [HI.out.c2]
    refine hK.out _ _ (fun _ => hz2) ?_
    clear hK K
    (try simp only [List.getElem_toArray, List.getElem_cons_succ, List.getElem_cons_zero, Act.put, List.setIfInBounds_toArray, List.set_cons_zero, List.set_cons_succ])
    refine wpAnyE_take (i := 31) (oi := _) (v := .bool true) rfl (by kernel_rfl) (by kernel_rfl) (by kernel_rfl) (by kernel_rfl) (fun _ _ _ h => h) (Or.inl ⟨by kernel_rfl, ?_⟩) hz2 ?_
    · intro w' hSw
      (try simp only [List.getElem_toArray, List.getElem_cons_succ, List.getElem_cons_zero])
      go_simp
    (try simp only [List.getElem_toArray, List.getElem_cons_succ, List.getElem_cons_zero, Act.put, List.setIfInBounds_toArray, List.set_cons_zero, List.set_cons_succ])
    refine wpAnyE_take (i := 32) (oi := _) (v := .bool true) rfl (by kernel_rfl) (by kernel_rfl) (by kernel_rfl) (by kernel_rfl) (fun _ _ _ h => h) (Or.inl ⟨by kernel_rfl, ?_⟩) hz2 ?_
    · intro w' hSw
      (try simp only [List.getElem_toArray, List.getElem_cons_succ, List.getElem_cons_zero])
      go_simp
    (try simp only [List.getElem_toArray, List.getElem_cons_succ, List.getElem_cons_zero, Act.put, List.setIfInBounds_toArray, List.set_cons_zero, List.set_cons_succ])
    refine wpAnyE_take (i := 33) (oi := _) (v := .bool true) rfl (by kernel_rfl) (by kernel_rfl) (by kernel_rfl) (by kernel_rfl) (fun _ _ _ h => h) (Or.inl ⟨by kernel_rfl, ?_⟩) hz2 ?_
    · intro w' hSw
      (try simp only [List.getElem_toArray, List.getElem_cons_succ, List.getElem_cons_zero])
      go_simp
    (try simp only [List.getElem_toArray, List.getElem_cons_succ, List.getElem_cons_zero, Act.put, List.setIfInBounds_toArray, List.set_cons_zero, List.set_cons_succ])
    refine wpAnyE_take (i := 34) (oi := _) (v := .int .i64 3) rfl (by kernel_rfl) (by kernel_rfl) (by kernel_rfl) (by kernel_rfl) (fun _ _ _ h => h) (Or.inl ⟨by kernel_rfl, ?_⟩) hz2 ?_
    · intro w' hSw
      (try simp only [List.getElem_toArray, List.getElem_cons_succ, List.getElem_cons_zero])
      go_simp
    (try simp only [List.getElem_toArray, List.getElem_cons_succ, List.getElem_cons_zero, Act.put, List.setIfInBounds_toArray, List.set_cons_zero, List.set_cons_succ])
    refine wpAnyE_take (i := 35) (oi := _) (v := .bool true) rfl (by kernel_rfl) (by kernel_rfl) (by kernel_rfl) (by kernel_rfl) (fun _ _ _ h => h) (Or.inl ⟨by kernel_rfl, ?_⟩) hz2 ?_
    · intro w' hSw
      (try simp only [List.getElem_toArray, List.getElem_cons_succ, List.getElem_cons_zero])
      go_simp
    (try simp only [List.getElem_toArray, List.getElem_cons_succ, List.getElem_cons_zero, Act.put, List.setIfInBounds_toArray, List.set_cons_zero, List.set_cons_succ])
    refine wpAnyE_take (i := 36) (oi := _) (v := .bool true) rfl (by kernel_rfl) (by kernel_rfl) (by kernel_rfl) (by kernel_rfl) (fun _ _ _ h => h) (Or.inl ⟨by kernel_rfl, ?_⟩) hz2 ?_
    · intro w' hSw
      (try simp only [List.getElem_toArray, List.getElem_cons_succ, List.getElem_cons_zero])
      go_simp
    (try simp only [List.getElem_toArray, List.getElem_cons_succ, List.getElem_cons_zero, Act.put, List.setIfInBounds_toArray, List.set_cons_zero, List.set_cons_succ])
    refine wpAnyE_take (i := 37) (oi := _) (v := .bool true) rfl (by kernel_rfl) (by kernel_rfl) (by kernel_rfl) (by kernel_rfl) (fun _ _ _ h => h) (Or.inl ⟨by kernel_rfl, ?_⟩) hz2 ?_
    · intro w' hSw
      (try simp only [List.getElem_toArray, List.getElem_cons_succ, List.getElem_cons_zero])
      go_simp
    (try simp only [List.getElem_toArray, List.getElem_cons_succ, List.getElem_cons_zero, Act.put, List.setIfInBounds_toArray, List.set_cons_zero, List.set_cons_succ])
    refine wpAnyE_take (i := 38) (oi := _) (v := .agg #[.slice A3 72 c3]) rfl (by kernel_rfl) (by kernel_rfl) (by kernel_rfl) (by kernel_rfl) (fun _ _ _ h => h) (Or.inl ⟨by kernel_rfl, ?_⟩) hz2 ?_
    · intro w' hSw
      (try simp only [List.getElem_toArray, List.getElem_cons_succ, List.getElem_cons_zero])
      simp only [execOp, Instr.loadAt, Instr.sureAddr, Sem.run_bind, Sem.run_pure]
      rw [show (Act.eval _ (Operand.tmp 17)) = Value.pointer (some ⟨bC, 0, none⟩) from rfl]
      simp only [Sem.run_pure, Result.andThen_ok, run_loadVar_row w' bC 33 33 #[.slice A3 72 c3] (0, 0) _ (kC.keep hSw) Try.underlying33 rfl (by kernel_rfl)]
    (try simp only [List.getElem_toArray, List.getElem_cons_succ, List.getElem_cons_zero, Act.put, List.setIfInBounds_toArray, List.set_cons_zero, List.set_cons_succ])
    refine wpAnyE_take (i := 39) (oi := _) (v := .agg (lyC l)) rfl (by kernel_rfl) (by kernel_rfl) (by kernel_rfl) (by kernel_rfl) (fun _ _ _ h => h) (Or.inl ⟨by kernel_rfl, ?_⟩) hz2 ?_
    · intro w' hSw
      (try simp only [List.getElem_toArray, List.getElem_cons_succ, List.getElem_cons_zero])
      simp only [execOp, Instr.loadAt, Instr.sureAddr, Sem.run_bind, Sem.run_pure]
      rw [show (Act.eval _ (Operand.tmp 8)) = Value.pointer (some ⟨bL, 0, none⟩) from rfl]
      simp only [Sem.run_pure, Result.andThen_ok, run_loadVar_row w' bL 40 40 (lyC l) (0, 0) _ (kL.keep hSw) Try.underlying40 rfl (by kernel_rfl)]
    (try simp only [List.getElem_toArray, List.getElem_cons_succ, List.getElem_cons_zero, Act.put, List.setIfInBounds_toArray, List.set_cons_zero, List.set_cons_succ])
    refine wpAnyE_take (i := 40) (oi := _) (v := .int .i64 s) rfl (by kernel_rfl) (by kernel_rfl) (by kernel_rfl) (by kernel_rfl) (fun _ _ _ h => h) (Or.inl ⟨by kernel_rfl, ?_⟩) hz2 ?_
    · intro w' hSw
      (try simp only [List.getElem_toArray, List.getElem_cons_succ, List.getElem_cons_zero])
      go_simp
    (try simp only [List.getElem_toArray, List.getElem_cons_succ, List.getElem_cons_zero, Act.put, List.setIfInBounds_toArray, List.set_cons_zero, List.set_cons_succ])
    refine wpAnyE_one (i := 41) (o := _) (by kernel_rfl) rfl (fun K hK => ?_)
    (try simp only [List.getElem_toArray, List.getElem_cons_succ, List.getElem_cons_zero])
    go_simp
    (with_reducible refine (rresv_any l 0 s _ HL.out.1).mono ?_)
    rintro e wy3 ⟨rfl, hy⟩
    have hz3 := below_tr hz2 hy
    clear hy
    rw [HI.out.rv]
    refine hK.out _ _ (fun _ => hz3) ?_
    clear hK K
    (try simp only [List.getElem_toArray, List.getElem_cons_succ, List.getElem_cons_zero, Act.put, List.setIfInBounds_toArray, List.set_cons_zero, List.set_cons_succ])
    refine wpAnyE_one (i := 42) (o := _) (by kernel_rfl) rfl (fun K hK => ?_)
    (try simp only [List.getElem_toArray, List.getElem_cons_succ, List.getElem_cons_zero])
    go_simp
    (with_reducible refine (cell_n A3 c3 72 M3 (8 + s) _ HI.out.len.2.2.1 (sl_slInt (hsl3.keepb hz3))).mono ?_)
    rintro e wy4 ⟨rfl, hy⟩
    have hz4 := below_tr hz3 hy
    clear hy
    rw [HI.out.c3]
    refine hK.out _ _ (fun _ => hz4) ?_
    clear hK K
    (try simp only [List.getElem_toArray, List.getElem_cons_succ, List.getElem_cons_zero, Act.put, List.setIfInBounds_toArray, List.set_cons_zero, List.set_cons_succ])
    refine wpAnyE_take (i := 43) (oi := _) (v := .bool true) rfl (by kernel_rfl) (by kernel_rfl) (by kernel_rfl) (by kernel_rfl) (fun _ _ _ h => h) (Or.inl ⟨by kernel_rfl, ?_⟩) hz4 ?_
    · intro w' hSw
      (try simp only [List.getElem_toArray, List.getElem_cons_succ, List.getElem_cons_zero])
      go_simp
    (try simp only [List.getElem_toArray, List.getElem_cons_succ, List.getElem_cons_zero, Act.put, List.setIfInBounds_toArray, List.set_cons_zero, List.set_cons_succ])
    refine wpAnyE_take (i := 44) (oi := _) (v := .bool true) rfl (by kernel_rfl) (by kernel_rfl) (by kernel_rfl) (by kernel_rfl) (fun _ _ _ h => h) (Or.inl ⟨by kernel_rfl, ?_⟩) hz4 ?_
    · intro w' hSw
      (try simp only [List.getElem_toArray, List.getElem_cons_succ, List.getElem_cons_zero])
      go_simp
    (try simp only [List.getElem_toArray, List.getElem_cons_succ, List.getElem_cons_zero, Act.put, List.setIfInBounds_toArray, List.set_cons_zero, List.set_cons_succ])
    refine wpAnyE_take (i := 45) (oi := _) (v := .bool true) rfl (by kernel_rfl) (by kernel_rfl) (by kernel_rfl) (by kernel_rfl) (fun _ _ _ h => h) (Or.inl ⟨by kernel_rfl, ?_⟩) hz4 ?_
    · intro w' hSw
      (try simp only [List.getElem_toArray, List.getElem_cons_succ, List.getElem_cons_zero])
      go_simp
    (try simp only [List.getElem_toArray, List.getElem_cons_succ, List.getElem_cons_zero, Act.put, List.setIfInBounds_toArray, List.set_cons_zero, List.set_cons_succ])
    refine wpAnyE_take (i := 46) (oi := _) (v := .int .i64 2) rfl (by kernel_rfl) (by kernel_rfl) (by kernel_rfl) (by kernel_rfl) (fun _ _ _ h => h) (Or.inl ⟨by kernel_rfl, ?_⟩) hz4 ?_
    · intro w' hSw
      (try simp only [List.getElem_toArray, List.getElem_cons_succ, List.getElem_cons_zero])
      go_simp
    (try simp only [List.getElem_toArray, List.getElem_cons_succ, List.getElem_cons_zero, Act.put, List.setIfInBounds_toArray, List.set_cons_zero, List.set_cons_succ])
    refine wpAnyE_take (i := 47) (oi := _) (v := .bool true) rfl (by kernel_rfl) (by kernel_rfl) (by kernel_rfl) (by kernel_rfl) (fun _ _ _ h => h) (Or.inl ⟨by kernel_rfl, ?_⟩) hz4 ?_
    · intro w' hSw
      (try simp only [List.getElem_toArray, List.getElem_cons_succ, List.getElem_cons_zero])
      go_simp
    (try simp only [List.getElem_toArray, List.getElem_cons_succ, List.getElem_cons_zero, Act.put, List.setIfInBounds_toArray, List.set_cons_zero, List.set_cons_succ])
    refine wpAnyE_take (i := 48) (oi := _) (v := .bool true) rfl (by kernel_rfl) (by kernel_rfl) (by kernel_rfl) (by kernel_rfl) (fun _ _ _ h => h) (Or.inl ⟨by kernel_rfl, ?_⟩) hz4 ?_
    · intro w' hSw
      (try simp only [List.getElem_toArray, List.getElem_cons_succ, List.getElem_cons_zero])
      go_simp
    (try simp only [List.getElem_toArray, List.getElem_cons_succ, List.getElem_cons_zero, Act.put, List.setIfInBounds_toArray, List.set_cons_zero, List.set_cons_succ])
    refine wpAnyE_take (i := 49) (oi := _) (v := .bool true) rfl (by kernel_rfl) (by kernel_rfl) (by kernel_rfl) (by kernel_rfl) (fun _ _ _ h => h) (Or.inl ⟨by kernel_rfl, ?_⟩) hz4 ?_
    · intro w' hSw
      (try simp only [List.getElem_toArray, List.getElem_cons_succ, List.getElem_cons_zero])
      go_simp
    (try simp only [List.getElem_toArray, List.getElem_cons_succ, List.getElem_cons_zero, Act.put, List.setIfInBounds_toArray, List.set_cons_zero, List.set_cons_succ])
    refine wpAnyE_take (i := 50) (oi := _) (v := .pointer (some ⟨bE, 4, none⟩)) rfl (by kernel_rfl) (by kernel_rfl) (by kernel_rfl) (by kernel_rfl) (fun _ _ _ h => h) (Or.inl ⟨by kernel_rfl, ?_⟩) hz4 ?_
    · intro w' hSw
      (try simp only [List.getElem_toArray, List.getElem_cons_succ, List.getElem_cons_zero])
      go_simp
    (try simp only [List.getElem_toArray, List.getElem_cons_succ, List.getElem_cons_zero, Act.put, List.setIfInBounds_toArray, List.set_cons_zero, List.set_cons_succ])
    refine wpAnyE_take (i := 51) (oi := _) (v := .slice (some ⟨bP, oP, none⟩) 2 c7) rfl (by kernel_rfl) (by kernel_rfl) (by kernel_rfl) (by kernel_rfl) (fun _ _ _ h => h) (Or.inl ⟨by kernel_rfl, ?_⟩) hz4 ?_
    · intro w' hSw
      have lO := (kE.keep hSw).lt
      have ff := (kE.keep hSw).cell 4
      (try simp at ff)
      (try simp only [List.getElem_toArray, List.getElem_cons_succ, List.getElem_cons_zero])
      go_simp
    (try simp only [List.getElem_toArray, List.getElem_cons_succ, List.getElem_cons_zero, Act.put, List.setIfInBounds_toArray, List.set_cons_zero, List.set_cons_succ])
    refine wpAnyE_take (i := 52) (oi := _) (v := .pointer (some ⟨bP, oP + 2, none⟩)) rfl (by kernel_rfl) (by kernel_rfl) (by kernel_rfl) (by kernel_rfl) (fun _ _ _ h => h) (Or.inl ⟨by kernel_rfl, ?_⟩) hz4 ?_
    · intro w' hSw
      (try simp only [List.getElem_toArray, List.getElem_cons_succ, List.getElem_cons_zero])
      go_simp
    (try simp only [List.getElem_toArray, List.getElem_cons_succ, List.getElem_cons_zero, Act.put, List.setIfInBounds_toArray, List.set_cons_zero, List.set_cons_succ])
    refine wpAnyE_take (i := 53) (oi := _) (v := .agg #[.int .i64 x, .int .i64 (1 + N)]) rfl (by kernel_rfl) (by kernel_rfl) (by kernel_rfl) (by kernel_rfl) (fun _ _ _ h => h) (Or.inl ⟨by kernel_rfl, ?_⟩) hz4 ?_
    · intro w' hSw
      (try simp only [List.getElem_toArray, List.getElem_cons_succ, List.getElem_cons_zero])
      simp only [execOp, Instr.loadAt, Instr.sureAddr, Sem.run_bind, Sem.run_pure]
      rw [show (Act.eval _ (Operand.tmp 172)) = Value.pointer (some ⟨bP, (oP + 2), none⟩) from rfl]
      simp only [Sem.run_pure, Result.andThen_ok, run_loadVar_sub w' bP (oP + 2) 51 #[.int .i64 x, .int .i64 (1 + N)] _ (pair_cells (cell_keep hSw HQ2.out.1) (cell_keep hSw HQ2.out.2)) Try.underlying51 rfl (by kernel_rfl)]
    (try simp only [List.getElem_toArray, List.getElem_cons_succ, List.getElem_cons_zero, Act.put, List.setIfInBounds_toArray, List.set_cons_zero, List.set_cons_succ])
    refine wpAnyE_take (i := 54) (oi := _) (v := .int .i64 x) rfl (by kernel_rfl) (by kernel_rfl) (by kernel_rfl) (by kernel_rfl) (fun _ _ _ h => h) (Or.inl ⟨by kernel_rfl, ?_⟩) hz4 ?_
    · intro w' hSw
      (try simp only [List.getElem_toArray, List.getElem_cons_succ, List.getElem_cons_zero])
      go_simp
    (try simp only [List.getElem_toArray, List.getElem_cons_succ, List.getElem_cons_zero, Act.put, List.setIfInBounds_toArray, List.set_cons_zero, List.set_cons_succ])
    refine wpAnyE_take (i := 55) (oi := _) (v := .int .u16 N) rfl (by kernel_rfl) (by kernel_rfl) (by kernel_rfl) (by kernel_rfl) (fun _ _ _ h => h) (Or.inl ⟨by kernel_rfl, ?_⟩) hz4 ?_
    · intro w' hSw
      (try simp only [List.getElem_toArray, List.getElem_cons_succ, List.getElem_cons_zero])
      go_simp
    (try simp only [List.getElem_toArray, List.getElem_cons_succ, List.getElem_cons_zero, Act.put, List.setIfInBounds_toArray, List.set_cons_zero, List.set_cons_succ])
    refine wpAnyE_take (i := 56) (oi := _) (v := .int .i64 N) rfl (by kernel_rfl) (by kernel_rfl) (by kernel_rfl) (by kernel_rfl) (fun _ _ _ h => h) (Or.inl ⟨by kernel_rfl, ?_⟩) hz4 ?_
    · intro w' hSw
      have hw0 := HW1.out.2.2
      (try simp only [List.getElem_toArray, List.getElem_cons_succ, List.getElem_cons_zero])
      go_simp
    (try simp only [List.getElem_toArray, List.getElem_cons_succ, List.getElem_cons_zero, Act.put, List.setIfInBounds_toArray, List.set_cons_zero, List.set_cons_succ])
    refine wpAnyE_take (i := 57) (oi := _) (v := .int .i64 (1 + N)) rfl (by kernel_rfl) (by kernel_rfl) (by kernel_rfl) (by kernel_rfl) (fun _ _ _ h => h) (Or.inl ⟨by kernel_rfl, ?_⟩) hz4 ?_
    · intro w' hSw
      have hw1 := HW1.out.1
      (try simp only [List.getElem_toArray, List.getElem_cons_succ, List.getElem_cons_zero])
      go_simp
    (try simp only [List.getElem_toArray, List.getElem_cons_succ, List.getElem_cons_zero, Act.put, List.setIfInBounds_toArray, List.set_cons_zero, List.set_cons_succ])
    refine wpAnyE_take (i := 58) (oi := _) (v := .agg #[.int .i64 x, .int .i64 (1 + N)]) rfl (by kernel_rfl) (by kernel_rfl) (by kernel_rfl) (by kernel_rfl) (fun _ _ _ h => h) (Or.inl ⟨by kernel_rfl, ?_⟩) hz4 ?_
    · intro w' hSw
      (try simp only [List.getElem_toArray, List.getElem_cons_succ, List.getElem_cons_zero])
      go_simp
    (try simp only [List.getElem_toArray, List.getElem_cons_succ, List.getElem_cons_zero, Act.put, List.setIfInBounds_toArray, List.set_cons_zero, List.set_cons_succ])
    refine wpAnyE_take (i := 59) (oi := _) (v := .bool true) rfl (by kernel_rfl) (by kernel_rfl) (by kernel_rfl) (by kernel_rfl) (fun _ _ _ h => h) (Or.inl ⟨by kernel_rfl, ?_⟩) hz4 ?_
    · intro w' hSw
      have heq := eq_pair x (1 + N) x (1 + N) w'
      (try simp only [List.getElem_toArray, List.getElem_cons_succ, List.getElem_cons_zero])
      go_simp
    (try simp only [List.getElem_toArray, List.getElem_cons_succ, List.getElem_cons_zero, Act.put, List.setIfInBounds_toArray, List.set_cons_zero, List.set_cons_succ])
    refine wpAnyE_take (i := 60) (oi := _) (v := .bool true) rfl (by kernel_rfl) (by kernel_rfl) (by kernel_rfl) (by kernel_rfl) (fun _ _ _ h => h) (Or.inl ⟨by kernel_rfl, ?_⟩) hz4 ?_
    · intro w' hSw
      (try simp only [List.getElem_toArray, List.getElem_cons_succ, List.getElem_cons_zero])
      go_simp
    (try simp only [List.getElem_toArray, List.getElem_cons_succ, List.getElem_cons_zero, Act.put, List.setIfInBounds_toArray, List.set_cons_zero, List.set_cons_succ])
    refine wpAnyE_take (i := 61) (oi := _) (v := .bool true) rfl (by kernel_rfl) (by kernel_rfl) (by kernel_rfl) (by kernel_rfl) (fun _ _ _ h => h) (Or.inl ⟨by kernel_rfl, ?_⟩) hz4 ?_
    · intro w' hSw
      (try simp only [List.getElem_toArray, List.getElem_cons_succ, List.getElem_cons_zero])
      go_simp
    (try simp only [List.getElem_toArray, List.getElem_cons_succ, List.getElem_cons_zero, Act.put, List.setIfInBounds_toArray, List.set_cons_zero, List.set_cons_succ])
    refine wpAnyE_take (i := 62) (oi := _) (v := .agg #[.slice A4 72 c4]) rfl (by kernel_rfl) (by kernel_rfl) (by kernel_rfl) (by kernel_rfl) (fun _ _ _ h => h) (Or.inl ⟨by kernel_rfl, ?_⟩) hz4 ?_
    · intro w' hSw
      (try simp only [List.getElem_toArray, List.getElem_cons_succ, List.getElem_cons_zero])
      simp only [execOp, Instr.loadAt, Instr.sureAddr, Sem.run_bind, Sem.run_pure]
      rw [show (Act.eval _ (Operand.tmp 21)) = Value.pointer (some ⟨bD, 0, none⟩) from rfl]
      simp only [Sem.run_pure, Result.andThen_ok, run_loadVar_row w' bD 33 33 #[.slice A4 72 c4] (0, 0) _ (kD.keep hSw) Try.underlying33 rfl (by kernel_rfl)]
    (try simp only [List.getElem_toArray, List.getElem_cons_succ, List.getElem_cons_zero, Act.put, List.setIfInBounds_toArray, List.set_cons_zero, List.set_cons_succ])
    refine wpAnyE_take (i := 63) (oi := _) (v := .pointer (some ⟨bL, 11, none⟩)) rfl (by kernel_rfl) (by kernel_rfl) (by kernel_rfl) (by kernel_rfl) (fun _ _ _ h => h) (Or.inl ⟨by kernel_rfl, ?_⟩) hz4 ?_
    · intro w' hSw
      (try simp only [List.getElem_toArray, List.getElem_cons_succ, List.getElem_cons_zero])
      go_simp
    (try simp only [List.getElem_toArray, List.getElem_cons_succ, List.getElem_cons_zero, Act.put, List.setIfInBounds_toArray, List.set_cons_zero, List.set_cons_succ])
    refine wpAnyE_take (i := 64) (oi := _) (v := .int .i64 2) rfl (by kernel_rfl) (by kernel_rfl) (by kernel_rfl) (by kernel_rfl) (fun _ _ _ h => h) (Or.inl ⟨by kernel_rfl, ?_⟩) hz4 ?_
    · intro w' hSw
      have lO := (kL.keep hSw).lt
      have hl2 := HL.out.2.2.2.1
      have ff := (kL.keep hSw).cell 11
      (try simp at ff)
      (try simp only [List.getElem_toArray, List.getElem_cons_succ, List.getElem_cons_zero])
      go_simp
    (try simp only [List.getElem_toArray, List.getElem_cons_succ, List.getElem_cons_zero, Act.put, List.setIfInBounds_toArray, List.set_cons_zero, List.set_cons_succ])
    refine wpAnyE_take (i := 66) (oi := _) (v := .int .u16 N) rfl (by kernel_rfl) (by kernel_rfl) (by kernel_rfl) (by kernel_rfl) (fun _ _ _ h => h) (Or.inl ⟨by kernel_rfl, ?_⟩) hz4 ?_
    · intro w' hSw
      (try simp only [List.getElem_toArray, List.getElem_cons_succ, List.getElem_cons_zero])
      go_simp
    (try simp only [List.getElem_toArray, List.getElem_cons_succ, List.getElem_cons_zero, Act.put, List.setIfInBounds_toArray, List.set_cons_zero, List.set_cons_succ])
    refine wpAnyE_take (i := 67) (oi := _) (v := .int .i64 N) rfl (by kernel_rfl) (by kernel_rfl) (by kernel_rfl) (by kernel_rfl) (fun _ _ _ h => h) (Or.inl ⟨by kernel_rfl, ?_⟩) hz4 ?_
    · intro w' hSw
      have hw0 := HW1.out.2.2
      (try simp only [List.getElem_toArray, List.getElem_cons_succ, List.getElem_cons_zero])
      go_simp
    (try simp only [List.getElem_toArray, List.getElem_cons_succ, List.getElem_cons_zero, Act.put, List.setIfInBounds_toArray, List.set_cons_zero, List.set_cons_succ])
    refine wpAnyE_take (i := 68) (oi := _) (v := .int .i64 (2 + N)) rfl (by kernel_rfl) (by kernel_rfl) (by kernel_rfl) (by kernel_rfl) (fun _ _ _ h => h) (Or.inl ⟨by kernel_rfl, ?_⟩) hz4 ?_
    · intro w' hSw
      have hw1 := HW1.out.2.1
      (try simp only [List.getElem_toArray, List.getElem_cons_succ, List.getElem_cons_zero])
      go_simp
    (try simp only [List.getElem_toArray, List.getElem_cons_succ, List.getElem_cons_zero, Act.put, List.setIfInBounds_toArray, List.set_cons_zero, List.set_cons_succ])
    refine wpAnyE_one (i := 65) (o := _) (by kernel_rfl) rfl (fun K hK => ?_)
    (try simp only [List.getElem_toArray, List.getElem_cons_succ, List.getElem_cons_zero])
    go_simp
    (with_reducible refine (cell_n A4 c4 72 M4 (2) _ HI.out.len.2.2.2 (sl_slInt (hsl4.keepb hz4))).mono ?_)
    rintro e wy5 ⟨rfl, hy⟩
    have hz5 := below_tr hz4 hy
    clear hy
    rw [HI.out.c4]
    refine hK.out _ _ (fun _ => hz5) ?_
    clear hK K
    (try simp only [List.getElem_toArray, List.getElem_cons_succ, List.getElem_cons_zero, Act.put, List.setIfInBounds_toArray, List.set_cons_zero, List.set_cons_succ])
    refine wpAnyE_take (i := 69) (oi := _) (v := .bool true) rfl (by kernel_rfl) (by kernel_rfl) (by kernel_rfl) (by kernel_rfl) (fun _ _ _ h => h) (Or.inl ⟨by kernel_rfl, ?_⟩) hz5 ?_
    · intro w' hSw
      (try simp only [List.getElem_toArray, List.getElem_cons_succ, List.getElem_cons_zero])
      go_simp
    (try simp only [List.getElem_toArray, List.getElem_cons_succ, List.getElem_cons_zero, Act.put, List.setIfInBounds_toArray, List.set_cons_zero, List.set_cons_succ])
    refine wpAnyE_take (i := 70) (oi := _) (v := .bool true) rfl (by kernel_rfl) (by kernel_rfl) (by kernel_rfl) (by kernel_rfl) (fun _ _ _ h => h) (Or.inl ⟨by kernel_rfl, ?_⟩) hz5 ?_
    · intro w' hSw
      (try simp only [List.getElem_toArray, List.getElem_cons_succ, List.getElem_cons_zero])
      go_simp
    (try simp only [List.getElem_toArray, List.getElem_cons_succ, List.getElem_cons_zero, Act.put, List.setIfInBounds_toArray, List.set_cons_zero, List.set_cons_succ])
    refine wpAnyE_take (i := 71) (oi := _) (v := .bool true) rfl (by kernel_rfl) (by kernel_rfl) (by kernel_rfl) (by kernel_rfl) (fun _ _ _ h => h) (Or.inl ⟨by kernel_rfl, ?_⟩) hz5 ?_
    · intro w' hSw
      (try simp only [List.getElem_toArray, List.getElem_cons_succ, List.getElem_cons_zero])
      go_simp
    (try simp only [List.getElem_toArray, List.getElem_cons_succ, List.getElem_cons_zero, Act.put, List.setIfInBounds_toArray, List.set_cons_zero, List.set_cons_succ])
    refine wpAnyE_done (by kernel_rfl) ?_ _
    replace hbl := below_tr hbl hz5
    have HB := Lib.hid hbl
    clear kL kM kA kO kB kC kE kD hsl2 hsl3 hsl4 hbl hz0
    go_wp2_with fail
    go_ret
    exact ⟨rfl, HB.out⟩
  · have i1 : decide (a = 2) = false := by simp [h2]
    have i1b : (a == 2) = false := by simp [h2]
    go_wp2_with (refine wpList_load_rowG (by first | rfl | (simp [Region.wanted, yielded]; done) | (simp [Region.wanted, yielded]; rfl)) 40 (.tmp 8) rfl bL rfl 40 (lyC l) (0, 0) _ kL Try.underlying40 rfl (by kernel_rfl) ?_)
    (with_reducible refine (rresv_any l 0 s _ HL.out.1).mono ?_)
    rintro e wH ⟨rfl, hb⟩
    rw [HI.out.rv]
    clear q11 lL
    replace kL := kL.keep hb
    replace kM := kM.keep hb
    replace kA := kA.keep hb
    replace kO := kO.keep hb
    replace kB := kB.keep hb
    replace kC := kC.keep hb
    replace kE := kE.keep hb
    replace kD := kD.keep hb
    replace hsl2 := hsl2.keepb hb
    replace hsl3 := hsl3.keepb hb
    replace hsl4 := hsl4.keepb hb
    replace hbl := below_tr hbl hb
    replace HR := Lib.hid (And.intro (cell_keep hb HR.out.1) (cell_keep hb HR.out.2))
    clear hb
    have q11 := kL.cell 11
    have lL := kL.lt
    by_cases h3 : a = 8 + s
    · have i2 : decide (a = 8 + s) = true := by simp [h3]
      have i2b : (a == 8 + s) = true := by simp [h3]
      go_upto_region 18 with fail
      clear i1 i1b i2 i2b h2 h3
      clear q11 lL
      refine wp_region_E (S := fun w' => Below wH.drew.heap.size wH.drew w') (E := fun _ => false) (by kernel_rfl) ?_
      simp only [List.append_eq, List.cons_append, List.nil_append]
      have hr2 : wH.drew.cell? ⟨bP, oP + 2, none⟩ = some (.int .i64 x) ∧ wH.drew.cell? ⟨bP, oP + 2 + 1, none⟩ = some (.int .i64 (1 + N)) := ⟨HR.out.1, HR.out.2⟩
      replace kL := kL.drew
      replace kM := kM.drew
      replace kA := kA.drew
      replace kO := kO.drew
      replace kB := kB.drew
      replace kC := kC.drew
      replace kE := kE.drew
      replace kD := kD.drew
      replace hbl := hbl.drew
      replace hsl2 := hsl2.keepb (below_drew' (Below.refl _ _))
      replace hsl3 := hsl3.keepb (below_drew' (Below.refl _ _))
      replace hsl4 := hsl4.keepb (below_drew' (Below.refl _ _))
      generalize wH.drew = wz at *
      have HQ2 := Lib.hid hr2
      clear hr2
      have hz0 : Below wz.heap.size wz wz := Below.refl _ _
      refine wpAnyE_take (i := 0) (oi := _) (v := .bool true) rfl (by kernel_rfl) (by kernel_rfl) (by kernel_rfl) (by kernel_rfl) (fun _ _ _ h => h) (Or.inl ⟨by kernel_rfl, ?_⟩) hz0 ?_
      · intro w' hSw
        (try simp only [List.getElem_toArray, List.getElem_cons_zero])
        go_simp
      (try simp only [List.getElem_toArray, List.getElem_cons_zero, Act.put, List.setIfInBounds_toArray, List.set_cons_zero, List.set_cons_succ])
      refine wpAnyE_take (i := 1) (oi := _) (v := .bool true) rfl (by kernel_rfl) (by kernel_rfl) (by kernel_rfl) (by kernel_rfl) (fun _ _ _ h => h) (Or.inl ⟨by kernel_rfl, ?_⟩) hz0 ?_
      · intro w' hSw
        (try simp only [List.getElem_toArray, List.getElem_cons_succ, List.getElem_cons_zero])
        go_simp
      (try simp only [List.getElem_toArray, List.getElem_cons_succ, List.getElem_cons_zero, Act.put, List.setIfInBounds_toArray, List.set_cons_zero, List.set_cons_succ])
      refine wpAnyE_take (i := 2) (oi := _) (v := .int .i64 5) rfl (by kernel_rfl) (by kernel_rfl) (by kernel_rfl) (by kernel_rfl) (fun _ _ _ h => h) (Or.inl ⟨by kernel_rfl, ?_⟩) hz0 ?_
      · intro w' hSw
        (try simp only [List.getElem_toArray, List.getElem_cons_succ, List.getElem_cons_zero])
        go_simp
      (try simp only [List.getElem_toArray, List.getElem_cons_succ, List.getElem_cons_zero, Act.put, List.setIfInBounds_toArray, List.set_cons_zero, List.set_cons_succ])
      refine wpAnyE_take (i := 3) (oi := _) (v := .bool true) rfl (by kernel_rfl) (by kernel_rfl) (by kernel_rfl) (by kernel_rfl) (fun _ _ _ h => h) (Or.inl ⟨by kernel_rfl, ?_⟩) hz0 ?_
      · intro w' hSw
        (try simp only [List.getElem_toArray, List.getElem_cons_succ, List.getElem_cons_zero])
        go_simp
      (try simp only [List.getElem_toArray, List.getElem_cons_succ, List.getElem_cons_zero, Act.put, List.setIfInBounds_toArray, List.set_cons_zero, List.set_cons_succ])
      refine wpAnyE_take (i := 4) (oi := _) (v := .bool true) rfl (by kernel_rfl) (by kernel_rfl) (by kernel_rfl) (by kernel_rfl) (fun _ _ _ h => h) (Or.inl ⟨by kernel_rfl, ?_⟩) hz0 ?_
      · intro w' hSw
        (try simp only [List.getElem_toArray, List.getElem_cons_succ, List.getElem_cons_zero])
        go_simp
      (try simp only [List.getElem_toArray, List.getElem_cons_succ, List.getElem_cons_zero, Act.put, List.setIfInBounds_toArray, List.set_cons_zero, List.set_cons_succ])
      refine wpAnyE_take (i := 5) (oi := _) (v := .bool true) rfl (by kernel_rfl) (by kernel_rfl) (by kernel_rfl) (by kernel_rfl) (fun _ _ _ h => h) (Or.inl ⟨by kernel_rfl, ?_⟩) hz0 ?_
      · intro w' hSw
        (try simp only [List.getElem_toArray, List.getElem_cons_succ, List.getElem_cons_zero])
        go_simp
      (try simp only [List.getElem_toArray, List.getElem_cons_succ, List.getElem_cons_zero, Act.put, List.setIfInBounds_toArray, List.set_cons_zero, List.set_cons_succ])
      refine wpAnyE_take (i := 6) (oi := _) (v := .pointer (some ⟨bO, 1, none⟩)) rfl (by kernel_rfl) (by kernel_rfl) (by kernel_rfl) (by kernel_rfl) (fun _ _ _ h => h) (Or.inl ⟨by kernel_rfl, ?_⟩) hz0 ?_
      · intro w' hSw
        (try simp only [List.getElem_toArray, List.getElem_cons_succ, List.getElem_cons_zero])
        go_simp
      (try simp only [List.getElem_toArray, List.getElem_cons_succ, List.getElem_cons_zero, Act.put, List.setIfInBounds_toArray, List.set_cons_zero, List.set_cons_succ])
      refine wpAnyE_take (i := 7) (oi := _) (v := .bool true) rfl (by kernel_rfl) (by kernel_rfl) (by kernel_rfl) (by kernel_rfl) (fun _ _ _ h => h) (Or.inl ⟨by kernel_rfl, ?_⟩) hz0 ?_
      · intro w' hSw
        have lO := (kO.keep hSw).lt
        have ff := (kO.keep hSw).cell 1
        (try simp at ff)
        (try simp only [List.getElem_toArray, List.getElem_cons_succ, List.getElem_cons_zero])
        go_simp
      (try simp only [List.getElem_toArray, List.getElem_cons_succ, List.getElem_cons_zero, Act.put, List.setIfInBounds_toArray, List.set_cons_zero, List.set_cons_succ])
      refine wpAnyE_take (i := 8) (oi := _) (v := .bool true) rfl (by kernel_rfl) (by kernel_rfl) (by kernel_rfl) (by kernel_rfl) (fun _ _ _ h => h) (Or.inl ⟨by kernel_rfl, ?_⟩) hz0 ?_
      · intro w' hSw
        (try simp only [List.getElem_toArray, List.getElem_cons_succ, List.getElem_cons_zero])
        go_simp
      (try simp only [List.getElem_toArray, List.getElem_cons_succ, List.getElem_cons_zero, Act.put, List.setIfInBounds_toArray, List.set_cons_zero, List.set_cons_succ])
      refine wpAnyE_take (i := 9) (oi := _) (v := .bool true) rfl (by kernel_rfl) (by kernel_rfl) (by kernel_rfl) (by kernel_rfl) (fun _ _ _ h => h) (Or.inl ⟨by kernel_rfl, ?_⟩) hz0 ?_
      · intro w' hSw
        (try simp only [List.getElem_toArray, List.getElem_cons_succ, List.getElem_cons_zero])
        go_simp
      (try simp only [List.getElem_toArray, List.getElem_cons_succ, List.getElem_cons_zero, Act.put, List.setIfInBounds_toArray, List.set_cons_zero, List.set_cons_succ])
      refine wpAnyE_take (i := 10) (oi := _) (v := .bool true) rfl (by kernel_rfl) (by kernel_rfl) (by kernel_rfl) (by kernel_rfl) (fun _ _ _ h => h) (Or.inl ⟨by kernel_rfl, ?_⟩) hz0 ?_
      · intro w' hSw
        (try simp only [List.getElem_toArray, List.getElem_cons_succ, List.getElem_cons_zero])
        go_simp
      (try simp only [List.getElem_toArray, List.getElem_cons_succ, List.getElem_cons_zero, Act.put, List.setIfInBounds_toArray, List.set_cons_zero, List.set_cons_succ])
      refine wpAnyE_take (i := 11) (oi := _) (v := .bool true) rfl (by kernel_rfl) (by kernel_rfl) (by kernel_rfl) (by kernel_rfl) (fun _ _ _ h => h) (Or.inl ⟨by kernel_rfl, ?_⟩) hz0 ?_
      · intro w' hSw
        (try simp only [List.getElem_toArray, List.getElem_cons_succ, List.getElem_cons_zero])
        go_simp
      (try simp only [List.getElem_toArray, List.getElem_cons_succ, List.getElem_cons_zero, Act.put, List.setIfInBounds_toArray, List.set_cons_zero, List.set_cons_succ])
      refine wpAnyE_take (i := 12) (oi := _) (v := undef) rfl (by kernel_rfl) (by kernel_rfl) (by kernel_rfl) (by kernel_rfl) (fun _ _ _ h => h) (Or.inr ⟨by kernel_rfl, rfl⟩) hz0 ?_
      (try simp only [List.getElem_toArray, List.getElem_cons_succ, List.getElem_cons_zero, Act.put, List.setIfInBounds_toArray, List.set_cons_zero, List.set_cons_succ])
      refine wpAnyE_take (i := 13) (oi := _) (v := undef) rfl (by kernel_rfl) (by kernel_rfl) (by kernel_rfl) (by kernel_rfl) (fun _ _ _ h => h) (Or.inr ⟨by kernel_rfl, rfl⟩) hz0 ?_
      (try simp only [List.getElem_toArray, List.getElem_cons_succ, List.getElem_cons_zero, Act.put, List.setIfInBounds_toArray, List.set_cons_zero, List.set_cons_succ])
      refine wpAnyE_take (i := 14) (oi := _) (v := undef) rfl (by kernel_rfl) (by kernel_rfl) (by kernel_rfl) (by kernel_rfl) (fun _ _ _ h => h) (Or.inr ⟨by kernel_rfl, rfl⟩) hz0 ?_
      (try simp only [List.getElem_toArray, List.getElem_cons_succ, List.getElem_cons_zero, Act.put, List.setIfInBounds_toArray, List.set_cons_zero, List.set_cons_succ])
      refine wpAnyE_take (i := 15) (oi := _) (v := undef) rfl (by kernel_rfl) (by kernel_rfl) (by kernel_rfl) (by kernel_rfl) (fun _ _ _ h => h) (Or.inr ⟨by kernel_rfl, rfl⟩) hz0 ?_
      (try simp only [List.getElem_toArray, List.getElem_cons_succ, List.getElem_cons_zero, Act.put, List.setIfInBounds_toArray, List.set_cons_zero, List.set_cons_succ])
      refine wpAnyE_take (i := 16) (oi := _) (v := undef) rfl (by kernel_rfl) (by kernel_rfl) (by kernel_rfl) (by kernel_rfl) (fun _ _ _ h => h) (Or.inr ⟨by kernel_rfl, rfl⟩) hz0 ?_
      (try simp only [List.getElem_toArray, List.getElem_cons_succ, List.getElem_cons_zero, Act.put, List.setIfInBounds_toArray, List.set_cons_zero, List.set_cons_succ])
      refine wpAnyE_take (i := 17) (oi := _) (v := undef) rfl (by kernel_rfl) (by kernel_rfl) (by kernel_rfl) (by kernel_rfl) (fun _ _ _ h => h) (Or.inr ⟨by kernel_rfl, rfl⟩) hz0 ?_
      (try simp only [List.getElem_toArray, List.getElem_cons_succ, List.getElem_cons_zero, Act.put, List.setIfInBounds_toArray, List.set_cons_zero, List.set_cons_succ])
      refine wpAnyE_take (i := 18) (oi := _) (v := undef) rfl (by kernel_rfl) (by kernel_rfl) (by kernel_rfl) (by kernel_rfl) (fun _ _ _ h => h) (Or.inr ⟨by kernel_rfl, rfl⟩) hz0 ?_
      (try simp only [List.getElem_toArray, List.getElem_cons_succ, List.getElem_cons_zero, Act.put, List.setIfInBounds_toArray, List.set_cons_zero, List.set_cons_succ])
      refine wpAnyE_take (i := 19) (oi := _) (v := undef) rfl (by kernel_rfl) (by kernel_rfl) (by kernel_rfl) (by kernel_rfl) (fun _ _ _ h => h) (Or.inr ⟨by kernel_rfl, rfl⟩) hz0 ?_
      (try simp only [List.getElem_toArray, List.getElem_cons_succ, List.getElem_cons_zero, Act.put, List.setIfInBounds_toArray, List.set_cons_zero, List.set_cons_succ])
      refine wpAnyE_take (i := 20) (oi := _) (v := .bool true) rfl (by kernel_rfl) (by kernel_rfl) (by kernel_rfl) (by kernel_rfl) (fun _ _ _ h => h) (Or.inl ⟨by kernel_rfl, ?_⟩) hz0 ?_
      · intro w' hSw
        (try simp only [List.getElem_toArray, List.getElem_cons_succ, List.getElem_cons_zero])
        go_simp
      (try simp only [List.getElem_toArray, List.getElem_cons_succ, List.getElem_cons_zero, Act.put, List.setIfInBounds_toArray, List.set_cons_zero, List.set_cons_succ])
      refine wpAnyE_take (i := 21) (oi := _) (v := .bool true) rfl (by kernel_rfl) (by kernel_rfl) (by kernel_rfl) (by kernel_rfl) (fun _ _ _ h => h) (Or.inl ⟨by kernel_rfl, ?_⟩) hz0 ?_
      · intro w' hSw
        (try simp only [List.getElem_toArray, List.getElem_cons_succ, List.getElem_cons_zero])
        go_simp
      (try simp only [List.getElem_toArray, List.getElem_cons_succ, List.getElem_cons_zero, Act.put, List.setIfInBounds_toArray, List.set_cons_zero, List.set_cons_succ])
      refine wpAnyE_take (i := 22) (oi := _) (v := .bool true) rfl (by kernel_rfl) (by kernel_rfl) (by kernel_rfl) (by kernel_rfl) (fun _ _ _ h => h) (Or.inl ⟨by kernel_rfl, ?_⟩) hz0 ?_
      · intro w' hSw
        (try simp only [List.getElem_toArray, List.getElem_cons_succ, List.getElem_cons_zero])
        go_simp
      (try simp only [List.getElem_toArray, List.getElem_cons_succ, List.getElem_cons_zero, Act.put, List.setIfInBounds_toArray, List.set_cons_zero, List.set_cons_succ])
      refine wpAnyE_take (i := 23) (oi := _) (v := .agg #[.slice A2 72 c2]) rfl (by kernel_rfl) (by kernel_rfl) (by kernel_rfl) (by kernel_rfl) (fun _ _ _ h => h) (Or.inl ⟨by kernel_rfl, ?_⟩) hz0 ?_
      · intro w' hSw
        (try simp only [List.getElem_toArray, List.getElem_cons_succ, List.getElem_cons_zero])
        simp only [execOp, Instr.loadAt, Instr.sureAddr, Sem.run_bind, Sem.run_pure]
        rw [show (Act.eval _ (Operand.tmp 14)) = Value.pointer (some ⟨bB, 0, none⟩) from rfl]
        simp only [Sem.run_pure, Result.andThen_ok, run_loadVar_row w' bB 33 33 #[.slice A2 72 c2] (0, 0) _ (kB.keep hSw) Try.underlying33 rfl (by kernel_rfl)]
      (try simp only [List.getElem_toArray, List.getElem_cons_succ, List.getElem_cons_zero, Act.put, List.setIfInBounds_toArray, List.set_cons_zero, List.set_cons_succ])
      refine wpAnyE_take (i := 24) (oi := _) (v := .agg (lyC l)) rfl (by kernel_rfl) (by kernel_rfl) (by kernel_rfl) (by kernel_rfl) (fun _ _ _ h => h) (Or.inl ⟨by kernel_rfl, ?_⟩) hz0 ?_
      · intro w' hSw
        (try simp only [List.getElem_toArray, List.getElem_cons_succ, List.getElem_cons_zero])
        simp only [execOp, Instr.loadAt, Instr.sureAddr, Sem.run_bind, Sem.run_pure]
        rw [show (Act.eval _ (Operand.tmp 8)) = Value.pointer (some ⟨bL, 0, none⟩) from rfl]
        simp only [Sem.run_pure, Result.andThen_ok, run_loadVar_row w' bL 40 40 (lyC l) (0, 0) _ (kL.keep hSw) Try.underlying40 rfl (by kernel_rfl)]
      (try simp only [List.getElem_toArray, List.getElem_cons_succ, List.getElem_cons_zero, Act.put, List.setIfInBounds_toArray, List.set_cons_zero, List.set_cons_succ])
      refine wpAnyE_take (i := 25) (oi := _) (v := .int .i64 s) rfl (by kernel_rfl) (by kernel_rfl) (by kernel_rfl) (by kernel_rfl) (fun _ _ _ h => h) (Or.inl ⟨by kernel_rfl, ?_⟩) hz0 ?_
      · intro w' hSw
        (try simp only [List.getElem_toArray, List.getElem_cons_succ, List.getElem_cons_zero])
        go_simp
      (try simp only [List.getElem_toArray, List.getElem_cons_succ, List.getElem_cons_zero, Act.put, List.setIfInBounds_toArray, List.set_cons_zero, List.set_cons_succ])
      refine wpAnyE_take (i := 28) (oi := _) (v := .int .u16 N) rfl (by kernel_rfl) (by kernel_rfl) (by kernel_rfl) (by kernel_rfl) (fun _ _ _ h => h) (Or.inl ⟨by kernel_rfl, ?_⟩) hz0 ?_
      · intro w' hSw
        (try simp only [List.getElem_toArray, List.getElem_cons_succ, List.getElem_cons_zero])
        go_simp
      (try simp only [List.getElem_toArray, List.getElem_cons_succ, List.getElem_cons_zero, Act.put, List.setIfInBounds_toArray, List.set_cons_zero, List.set_cons_succ])
      refine wpAnyE_take (i := 29) (oi := _) (v := .int .i64 N) rfl (by kernel_rfl) (by kernel_rfl) (by kernel_rfl) (by kernel_rfl) (fun _ _ _ h => h) (Or.inl ⟨by kernel_rfl, ?_⟩) hz0 ?_
      · intro w' hSw
        have hw0 := HW1.out.2.2
        (try simp only [List.getElem_toArray, List.getElem_cons_succ, List.getElem_cons_zero])
        go_simp
      (try simp only [List.getElem_toArray, List.getElem_cons_succ, List.getElem_cons_zero, Act.put, List.setIfInBounds_toArray, List.set_cons_zero, List.set_cons_succ])
      refine wpAnyE_take (i := 30) (oi := _) (v := .int .i64 (1 + N)) rfl (by kernel_rfl) (by kernel_rfl) (by kernel_rfl) (by kernel_rfl) (fun _ _ _ h => h) (Or.inl ⟨by kernel_rfl, ?_⟩) hz0 ?_
      · intro w' hSw
        have hw1 := HW1.out.1
        (try simp only [List.getElem_toArray, List.getElem_cons_succ, List.getElem_cons_zero])
        go_simp
      (try simp only [List.getElem_toArray, List.getElem_cons_succ, List.getElem_cons_zero, Act.put, List.setIfInBounds_toArray, List.set_cons_zero, List.set_cons_succ])
      refine wpAnyE_one (i := 26) (o := _) (by kernel_rfl) rfl (fun K hK => ?_)
      (try simp only [List.getElem_toArray, List.getElem_cons_succ, List.getElem_cons_zero])
      go_simp
      (with_reducible refine (rresv_any l 0 s _ HL.out.1).mono ?_)
      rintro e wy1 ⟨rfl, hy⟩
      have hz1 := below_tr hz0 hy
      clear hy
      rw [HI.out.rv]
      refine hK.out _ _ (fun _ => hz1) ?_
      clear hK K
      (try simp only [List.getElem_toArray, List.getElem_cons_succ, List.getElem_cons_zero, Act.put, List.setIfInBounds_toArray, List.set_cons_zero, List.set_cons_succ])
      refine wpAnyE_one (i := 27) (o := _) (by kernel_rfl) rfl (fun K hK => ?_)
      (try simp only [List.getElem_toArray, List.getElem_cons_succ, List.getElem_cons_zero])
      go_simp
      (with_reducible refine (cell_n A2 c2 72 M2 (8 + s) _ HI.out.len.2.1 (sl_slInt (hsl2.keepb hz1))).mono ?_)
      rintro e wy2 ⟨rfl, hy⟩
      have hz2 := below_tr hz1 hy
      clear hy
      rw [HI.out.c2]
      refine hK.out _ _ (fun _ => hz2) ?_
      clear hK K
      (try simp only [List.getElem_toArray, List.getElem_cons_succ, List.getElem_cons_zero, Act.put, List.setIfInBounds_toArray, List.set_cons_zero, List.set_cons_succ])
      refine wpAnyE_take (i := 31) (oi := _) (v := .bool true) rfl (by kernel_rfl) (by kernel_rfl) (by kernel_rfl) (by kernel_rfl) (fun _ _ _ h => h) (Or.inl ⟨by kernel_rfl, ?_⟩) hz2 ?_
      · intro w' hSw
        (try simp only [List.getElem_toArray, List.getElem_cons_succ, List.getElem_cons_zero])
        go_simp
      (try simp only [List.getElem_toArray, List.getElem_cons_succ, List.getElem_cons_zero, Act.put, List.setIfInBounds_toArray, List.set_cons_zero, List.set_cons_succ])
      refine wpAnyE_take (i := 32) (oi := _) (v := .bool true) rfl (by kernel_rfl) (by kernel_rfl) (by kernel_rfl) (by kernel_rfl) (fun _ _ _ h => h) (Or.inl ⟨by kernel_rfl, ?_⟩) hz2 ?_
      · intro w' hSw
        (try simp only [List.getElem_toArray, List.getElem_cons_succ, List.getElem_cons_zero])
        go_simp
      (try simp only [List.getElem_toArray, List.getElem_cons_succ, List.getElem_cons_zero, Act.put, List.setIfInBounds_toArray, List.set_cons_zero, List.set_cons_succ])
      refine wpAnyE_take (i := 33) (oi := _) (v := .bool true) rfl (by kernel_rfl) (by kernel_rfl) (by kernel_rfl) (by kernel_rfl) (fun _ _ _ h => h) (Or.inl ⟨by kernel_rfl, ?_⟩) hz2 ?_
      · intro w' hSw
        (try simp only [List.getElem_toArray, List.getElem_cons_succ, List.getElem_cons_zero])
        go_simp
      (try simp only [List.getElem_toArray, List.getElem_cons_succ, List.getElem_cons_zero, Act.put, List.setIfInBounds_toArray, List.set_cons_zero, List.set_cons_succ])
      refine wpAnyE_take (i := 34) (oi := _) (v := .int .i64 3) rfl (by kernel_rfl) (by kernel_rfl) (by kernel_rfl) (by kernel_rfl) (fun _ _ _ h => h) (Or.inl ⟨by kernel_rfl, ?_⟩) hz2 ?_
      · intro w' hSw
        (try simp only [List.getElem_toArray, List.getElem_cons_succ, List.getElem_cons_zero])
        go_simp
      (try simp only [List.getElem_toArray, List.getElem_cons_succ, List.getElem_cons_zero, Act.put, List.setIfInBounds_toArray, List.set_cons_zero, List.set_cons_succ])
      refine wpAnyE_take (i := 35) (oi := _) (v := .bool true) rfl (by kernel_rfl) (by kernel_rfl) (by kernel_rfl) (by kernel_rfl) (fun _ _ _ h => h) (Or.inl ⟨by kernel_rfl, ?_⟩) hz2 ?_
      · intro w' hSw
        (try simp only [List.getElem_toArray, List.getElem_cons_succ, List.getElem_cons_zero])
        go_simp
      (try simp only [List.getElem_toArray, List.getElem_cons_succ, List.getElem_cons_zero, Act.put, List.setIfInBounds_toArray, List.set_cons_zero, List.set_cons_succ])
      refine wpAnyE_take (i := 36) (oi := _) (v := .bool true) rfl (by kernel_rfl) (by kernel_rfl) (by kernel_rfl) (by kernel_rfl) (fun _ _ _ h => h) (Or.inl ⟨by kernel_rfl, ?_⟩) hz2 ?_
      · intro w' hSw
        (try simp only [List.getElem_toArray, List.getElem_cons_succ, List.getElem_cons_zero])
        go_simp
      (try simp only [List.getElem_toArray, List.getElem_cons_succ, List.getElem_cons_zero, Act.put, List.setIfInBounds_toArray, List.set_cons_zero, List.set_cons_succ])
      refine wpAnyE_take (i := 37) (oi := _) (v := .bool true) rfl (by kernel_rfl) (by kernel_rfl) (by kernel_rfl) (by kernel_rfl) (fun _ _ _ h => h) (Or.inl ⟨by kernel_rfl, ?_⟩) hz2 ?_
      · intro w' hSw
        (try simp only [List.getElem_toArray, List.getElem_cons_succ, List.getElem_cons_zero])
        go_simp
      (try simp only [List.getElem_toArray, List.getElem_cons_succ, List.getElem_cons_zero, Act.put, List.setIfInBounds_toArray, List.set_cons_zero, List.set_cons_succ])
      refine wpAnyE_take (i := 38) (oi := _) (v := .agg #[.slice A3 72 c3]) rfl (by kernel_rfl) (by kernel_rfl) (by kernel_rfl) (by kernel_rfl) (fun _ _ _ h => h) (Or.inl ⟨by kernel_rfl, ?_⟩) hz2 ?_
      · intro w' hSw
        (try simp only [List.getElem_toArray, List.getElem_cons_succ, List.getElem_cons_zero])
        simp only [execOp, Instr.loadAt, Instr.sureAddr, Sem.run_bind, Sem.run_pure]
        rw [show (Act.eval _ (Operand.tmp 17)) = Value.pointer (some ⟨bC, 0, none⟩) from rfl]
        simp only [Sem.run_pure, Result.andThen_ok, run_loadVar_row w' bC 33 33 #[.slice A3 72 c3] (0, 0) _ (kC.keep hSw) Try.underlying33 rfl (by kernel_rfl)]
      (try simp only [List.getElem_toArray, List.getElem_cons_succ, List.getElem_cons_zero, Act.put, List.setIfInBounds_toArray, List.set_cons_zero, List.set_cons_succ])
      refine wpAnyE_take (i := 39) (oi := _) (v := .agg (lyC l)) rfl (by kernel_rfl) (by kernel_rfl) (by kernel_rfl) (by kernel_rfl) (fun _ _ _ h => h) (Or.inl ⟨by kernel_rfl, ?_⟩) hz2 ?_
      · intro w' hSw
        (try simp only [List.getElem_toArray, List.getElem_cons_succ, List.getElem_cons_zero])
        simp only [execOp, Instr.loadAt, Instr.sureAddr, Sem.run_bind, Sem.run_pure]
        rw [show (Act.eval _ (Operand.tmp 8)) = Value.pointer (some ⟨bL, 0, none⟩) from rfl]
        simp only [Sem.run_pure, Result.andThen_ok, run_loadVar_row w' bL 40 40 (lyC l) (0, 0) _ (kL.keep hSw) Try.underlying40 rfl (by kernel_rfl)]
      (try simp only [List.getElem_toArray, List.getElem_cons_succ, List.getElem_cons_zero, Act.put, List.setIfInBounds_toArray, List.set_cons_zero, List.set_cons_succ])
      refine wpAnyE_take (i := 40) (oi := _) (v := .int .i64 s) rfl (by kernel_rfl) (by kernel_rfl) (by kernel_rfl) (by kernel_rfl) (fun _ _ _ h => h) (Or.inl ⟨by kernel_rfl, ?_⟩) hz2 ?_
      · intro w' hSw
        (try simp only [List.getElem_toArray, List.getElem_cons_succ, List.getElem_cons_zero])
        go_simp
      (try simp only [List.getElem_toArray, List.getElem_cons_succ, List.getElem_cons_zero, Act.put, List.setIfInBounds_toArray, List.set_cons_zero, List.set_cons_succ])
      refine wpAnyE_one (i := 41) (o := _) (by kernel_rfl) rfl (fun K hK => ?_)
      (try simp only [List.getElem_toArray, List.getElem_cons_succ, List.getElem_cons_zero])
      go_simp
      (with_reducible refine (rresv_any l 0 s _ HL.out.1).mono ?_)
      rintro e wy3 ⟨rfl, hy⟩
      have hz3 := below_tr hz2 hy
      clear hy
      rw [HI.out.rv]
      refine hK.out _ _ (fun _ => hz3) ?_
      clear hK K
      (try simp only [List.getElem_toArray, List.getElem_cons_succ, List.getElem_cons_zero, Act.put, List.setIfInBounds_toArray, List.set_cons_zero, List.set_cons_succ])
      refine wpAnyE_one (i := 42) (o := _) (by kernel_rfl) rfl (fun K hK => ?_)
      (try simp only [List.getElem_toArray, List.getElem_cons_succ, List.getElem_cons_zero])
      go_simp
      (with_reducible refine (cell_n A3 c3 72 M3 (8 + s) _ HI.out.len.2.2.1 (sl_slInt (hsl3.keepb hz3))).mono ?_)
      rintro e wy4 ⟨rfl, hy⟩
      have hz4 := below_tr hz3 hy
      clear hy
      rw [HI.out.c3]
      refine hK.out _ _ (fun _ => hz4) ?_
      clear hK K
      (try simp only [List.getElem_toArray, List.getElem_cons_succ, List.getElem_cons_zero, Act.put, List.setIfInBounds_toArray, List.set_cons_zero, List.set_cons_succ])
      refine wpAnyE_take (i := 43) (oi := _) (v := .bool true) rfl (by kernel_rfl) (by kernel_rfl) (by kernel_rfl) (by kernel_rfl) (fun _ _ _ h => h) (Or.inl ⟨by kernel_rfl, ?_⟩) hz4 ?_
      · intro w' hSw
        (try simp only [List.getElem_toArray, List.getElem_cons_succ, List.getElem_cons_zero])
        go_simp
      (try simp only [List.getElem_toArray, List.getElem_cons_succ, List.getElem_cons_zero, Act.put, List.setIfInBounds_toArray, List.set_cons_zero, List.set_cons_succ])
      refine wpAnyE_take (i := 44) (oi := _) (v := .bool true) rfl (by kernel_rfl) (by kernel_rfl) (by kernel_rfl) (by kernel_rfl) (fun _ _ _ h => h) (Or.inl ⟨by kernel_rfl, ?_⟩) hz4 ?_
      · intro w' hSw
        (try simp only [List.getElem_toArray, List.getElem_cons_succ, List.getElem_cons_zero])
        go_simp
      (try simp only [List.getElem_toArray, List.getElem_cons_succ, List.getElem_cons_zero, Act.put, List.setIfInBounds_toArray, List.set_cons_zero, List.set_cons_succ])
      refine wpAnyE_take (i := 45) (oi := _) (v := .bool true) rfl (by kernel_rfl) (by kernel_rfl) (by kernel_rfl) (by kernel_rfl) (fun _ _ _ h => h) (Or.inl ⟨by kernel_rfl, ?_⟩) hz4 ?_
      · intro w' hSw
        (try simp only [List.getElem_toArray, List.getElem_cons_succ, List.getElem_cons_zero])
        go_simp
      (try simp only [List.getElem_toArray, List.getElem_cons_succ, List.getElem_cons_zero, Act.put, List.setIfInBounds_toArray, List.set_cons_zero, List.set_cons_succ])
      refine wpAnyE_take (i := 46) (oi := _) (v := .int .i64 2) rfl (by kernel_rfl) (by kernel_rfl) (by kernel_rfl) (by kernel_rfl) (fun _ _ _ h => h) (Or.inl ⟨by kernel_rfl, ?_⟩) hz4 ?_
      · intro w' hSw
        (try simp only [List.getElem_toArray, List.getElem_cons_succ, List.getElem_cons_zero])
        go_simp
      (try simp only [List.getElem_toArray, List.getElem_cons_succ, List.getElem_cons_zero, Act.put, List.setIfInBounds_toArray, List.set_cons_zero, List.set_cons_succ])
      refine wpAnyE_take (i := 47) (oi := _) (v := .bool true) rfl (by kernel_rfl) (by kernel_rfl) (by kernel_rfl) (by kernel_rfl) (fun _ _ _ h => h) (Or.inl ⟨by kernel_rfl, ?_⟩) hz4 ?_
      · intro w' hSw
        (try simp only [List.getElem_toArray, List.getElem_cons_succ, List.getElem_cons_zero])
        go_simp
      (try simp only [List.getElem_toArray, List.getElem_cons_succ, List.getElem_cons_zero, Act.put, List.setIfInBounds_toArray, List.set_cons_zero, List.set_cons_succ])
      refine wpAnyE_take (i := 48) (oi := _) (v := .bool true) rfl (by kernel_rfl) (by kernel_rfl) (by kernel_rfl) (by kernel_rfl) (fun _ _ _ h => h) (Or.inl ⟨by kernel_rfl, ?_⟩) hz4 ?_
      · intro w' hSw
        (try simp only [List.getElem_toArray, List.getElem_cons_succ, List.getElem_cons_zero])
        go_simp
      (try simp only [List.getElem_toArray, List.getElem_cons_succ, List.getElem_cons_zero, Act.put, List.setIfInBounds_toArray, List.set_cons_zero, List.set_cons_succ])
      refine wpAnyE_take (i := 49) (oi := _) (v := .bool true) rfl (by kernel_rfl) (by kernel_rfl) (by kernel_rfl) (by kernel_rfl) (fun _ _ _ h => h) (Or.inl ⟨by kernel_rfl, ?_⟩) hz4 ?_
      · intro w' hSw
        (try simp only [List.getElem_toArray, List.getElem_cons_succ, List.getElem_cons_zero])
        go_simp
      (try simp only [List.getElem_toArray, List.getElem_cons_succ, List.getElem_cons_zero, Act.put, List.setIfInBounds_toArray, List.set_cons_zero, List.set_cons_succ])
      refine wpAnyE_take (i := 50) (oi := _) (v := .pointer (some ⟨bE, 4, none⟩)) rfl (by kernel_rfl) (by kernel_rfl) (by kernel_rfl) (by kernel_rfl) (fun _ _ _ h => h) (Or.inl ⟨by kernel_rfl, ?_⟩) hz4 ?_
      · intro w' hSw
        (try simp only [List.getElem_toArray, List.getElem_cons_succ, List.getElem_cons_zero])
        go_simp
      (try simp only [List.getElem_toArray, List.getElem_cons_succ, List.getElem_cons_zero, Act.put, List.setIfInBounds_toArray, List.set_cons_zero, List.set_cons_succ])
      refine wpAnyE_take (i := 51) (oi := _) (v := .slice (some ⟨bP, oP, none⟩) 2 c7) rfl (by kernel_rfl) (by kernel_rfl) (by kernel_rfl) (by kernel_rfl) (fun _ _ _ h => h) (Or.inl ⟨by kernel_rfl, ?_⟩) hz4 ?_
      · intro w' hSw
        have lO := (kE.keep hSw).lt
        have ff := (kE.keep hSw).cell 4
        (try simp at ff)
        (try simp only [List.getElem_toArray, List.getElem_cons_succ, List.getElem_cons_zero])
        go_simp
      (try simp only [List.getElem_toArray, List.getElem_cons_succ, List.getElem_cons_zero, Act.put, List.setIfInBounds_toArray, List.set_cons_zero, List.set_cons_succ])
      refine wpAnyE_take (i := 52) (oi := _) (v := .pointer (some ⟨bP, oP + 2, none⟩)) rfl (by kernel_rfl) (by kernel_rfl) (by kernel_rfl) (by kernel_rfl) (fun _ _ _ h => h) (Or.inl ⟨by kernel_rfl, ?_⟩) hz4 ?_
      · intro w' hSw
        (try simp only [List.getElem_toArray, List.getElem_cons_succ, List.getElem_cons_zero])
        go_simp
      (try simp only [List.getElem_toArray, List.getElem_cons_succ, List.getElem_cons_zero, Act.put, List.setIfInBounds_toArray, List.set_cons_zero, List.set_cons_succ])
      refine wpAnyE_take (i := 53) (oi := _) (v := .agg #[.int .i64 x, .int .i64 (1 + N)]) rfl (by kernel_rfl) (by kernel_rfl) (by kernel_rfl) (by kernel_rfl) (fun _ _ _ h => h) (Or.inl ⟨by kernel_rfl, ?_⟩) hz4 ?_
      · intro w' hSw
        (try simp only [List.getElem_toArray, List.getElem_cons_succ, List.getElem_cons_zero])
        simp only [execOp, Instr.loadAt, Instr.sureAddr, Sem.run_bind, Sem.run_pure]
        rw [show (Act.eval _ (Operand.tmp 172)) = Value.pointer (some ⟨bP, (oP + 2), none⟩) from rfl]
        simp only [Sem.run_pure, Result.andThen_ok, run_loadVar_sub w' bP (oP + 2) 51 #[.int .i64 x, .int .i64 (1 + N)] _ (pair_cells (cell_keep hSw HQ2.out.1) (cell_keep hSw HQ2.out.2)) Try.underlying51 rfl (by kernel_rfl)]
      (try simp only [List.getElem_toArray, List.getElem_cons_succ, List.getElem_cons_zero, Act.put, List.setIfInBounds_toArray, List.set_cons_zero, List.set_cons_succ])
      refine wpAnyE_take (i := 54) (oi := _) (v := .int .i64 x) rfl (by kernel_rfl) (by kernel_rfl) (by kernel_rfl) (by kernel_rfl) (fun _ _ _ h => h) (Or.inl ⟨by kernel_rfl, ?_⟩) hz4 ?_
      · intro w' hSw
        (try simp only [List.getElem_toArray, List.getElem_cons_succ, List.getElem_cons_zero])
        go_simp
      (try simp only [List.getElem_toArray, List.getElem_cons_succ, List.getElem_cons_zero, Act.put, List.setIfInBounds_toArray, List.set_cons_zero, List.set_cons_succ])
      refine wpAnyE_take (i := 55) (oi := _) (v := .int .u16 N) rfl (by kernel_rfl) (by kernel_rfl) (by kernel_rfl) (by kernel_rfl) (fun _ _ _ h => h) (Or.inl ⟨by kernel_rfl, ?_⟩) hz4 ?_
      · intro w' hSw
        (try simp only [List.getElem_toArray, List.getElem_cons_succ, List.getElem_cons_zero])
        go_simp
      (try simp only [List.getElem_toArray, List.getElem_cons_succ, List.getElem_cons_zero, Act.put, List.setIfInBounds_toArray, List.set_cons_zero, List.set_cons_succ])
      refine wpAnyE_take (i := 56) (oi := _) (v := .int .i64 N) rfl (by kernel_rfl) (by kernel_rfl) (by kernel_rfl) (by kernel_rfl) (fun _ _ _ h => h) (Or.inl ⟨by kernel_rfl, ?_⟩) hz4 ?_
      · intro w' hSw
        have hw0 := HW1.out.2.2
        (try simp only [List.getElem_toArray, List.getElem_cons_succ, List.getElem_cons_zero])
        go_simp
      (try simp only [List.getElem_toArray, List.getElem_cons_succ, List.getElem_cons_zero, Act.put, List.setIfInBounds_toArray, List.set_cons_zero, List.set_cons_succ])
      refine wpAnyE_take (i := 57) (oi := _) (v := .int .i64 (1 + N)) rfl (by kernel_rfl) (by kernel_rfl) (by kernel_rfl) (by kernel_rfl) (fun _ _ _ h => h) (Or.inl ⟨by kernel_rfl, ?_⟩) hz4 ?_
      · intro w' hSw
        have hw1 := HW1.out.1
        (try simp only [List.getElem_toArray, List.getElem_cons_succ, List.getElem_cons_zero])
        go_simp
      (try simp only [List.getElem_toArray, List.getElem_cons_succ, List.getElem_cons_zero, Act.put, List.setIfInBounds_toArray, List.set_cons_zero, List.set_cons_succ])
      refine wpAnyE_take (i := 58) (oi := _) (v := .agg #[.int .i64 x, .int .i64 (1 + N)]) rfl (by kernel_rfl) (by kernel_rfl) (by kernel_rfl) (by kernel_rfl) (fun _ _ _ h => h) (Or.inl ⟨by kernel_rfl, ?_⟩) hz4 ?_
      · intro w' hSw
        (try simp only [List.getElem_toArray, List.getElem_cons_succ, List.getElem_cons_zero])
        go_simp
      (try simp only [List.getElem_toArray, List.getElem_cons_succ, List.getElem_cons_zero, Act.put, List.setIfInBounds_toArray, List.set_cons_zero, List.set_cons_succ])
      refine wpAnyE_take (i := 59) (oi := _) (v := .bool true) rfl (by kernel_rfl) (by kernel_rfl) (by kernel_rfl) (by kernel_rfl) (fun _ _ _ h => h) (Or.inl ⟨by kernel_rfl, ?_⟩) hz4 ?_
      · intro w' hSw
        have heq := eq_pair x (1 + N) x (1 + N) w'
        (try simp only [List.getElem_toArray, List.getElem_cons_succ, List.getElem_cons_zero])
        go_simp
      (try simp only [List.getElem_toArray, List.getElem_cons_succ, List.getElem_cons_zero, Act.put, List.setIfInBounds_toArray, List.set_cons_zero, List.set_cons_succ])
      refine wpAnyE_take (i := 60) (oi := _) (v := .bool true) rfl (by kernel_rfl) (by kernel_rfl) (by kernel_rfl) (by kernel_rfl) (fun _ _ _ h => h) (Or.inl ⟨by kernel_rfl, ?_⟩) hz4 ?_
      · intro w' hSw
        (try simp only [List.getElem_toArray, List.getElem_cons_succ, List.getElem_cons_zero])
        go_simp
      (try simp only [List.getElem_toArray, List.getElem_cons_succ, List.getElem_cons_zero, Act.put, List.setIfInBounds_toArray, List.set_cons_zero, List.set_cons_succ])
      refine wpAnyE_take (i := 61) (oi := _) (v := .bool true) rfl (by kernel_rfl) (by kernel_rfl) (by kernel_rfl) (by kernel_rfl) (fun _ _ _ h => h) (Or.inl ⟨by kernel_rfl, ?_⟩) hz4 ?_
      · intro w' hSw
        (try simp only [List.getElem_toArray, List.getElem_cons_succ, List.getElem_cons_zero])
        go_simp
      (try simp only [List.getElem_toArray, List.getElem_cons_succ, List.getElem_cons_zero, Act.put, List.setIfInBounds_toArray, List.set_cons_zero, List.set_cons_succ])
      refine wpAnyE_take (i := 62) (oi := _) (v := .agg #[.slice A4 72 c4]) rfl (by kernel_rfl) (by kernel_rfl) (by kernel_rfl) (by kernel_rfl) (fun _ _ _ h => h) (Or.inl ⟨by kernel_rfl, ?_⟩) hz4 ?_
      · intro w' hSw
        (try simp only [List.getElem_toArray, List.getElem_cons_succ, List.getElem_cons_zero])
        simp only [execOp, Instr.loadAt, Instr.sureAddr, Sem.run_bind, Sem.run_pure]
        rw [show (Act.eval _ (Operand.tmp 21)) = Value.pointer (some ⟨bD, 0, none⟩) from rfl]
        simp only [Sem.run_pure, Result.andThen_ok, run_loadVar_row w' bD 33 33 #[.slice A4 72 c4] (0, 0) _ (kD.keep hSw) Try.underlying33 rfl (by kernel_rfl)]
      (try simp only [List.getElem_toArray, List.getElem_cons_succ, List.getElem_cons_zero, Act.put, List.setIfInBounds_toArray, List.set_cons_zero, List.set_cons_succ])
      refine wpAnyE_take (i := 63) (oi := _) (v := .pointer (some ⟨bL, 11, none⟩)) rfl (by kernel_rfl) (by kernel_rfl) (by kernel_rfl) (by kernel_rfl) (fun _ _ _ h => h) (Or.inl ⟨by kernel_rfl, ?_⟩) hz4 ?_
      · intro w' hSw
        (try simp only [List.getElem_toArray, List.getElem_cons_succ, List.getElem_cons_zero])
        go_simp
      (try simp only [List.getElem_toArray, List.getElem_cons_succ, List.getElem_cons_zero, Act.put, List.setIfInBounds_toArray, List.set_cons_zero, List.set_cons_succ])
      refine wpAnyE_take (i := 64) (oi := _) (v := .int .i64 2) rfl (by kernel_rfl) (by kernel_rfl) (by kernel_rfl) (by kernel_rfl) (fun _ _ _ h => h) (Or.inl ⟨by kernel_rfl, ?_⟩) hz4 ?_
      · intro w' hSw
        have lO := (kL.keep hSw).lt
        have hl2 := HL.out.2.2.2.1
        have ff := (kL.keep hSw).cell 11
        (try simp at ff)
        (try simp only [List.getElem_toArray, List.getElem_cons_succ, List.getElem_cons_zero])
        go_simp
      (try simp only [List.getElem_toArray, List.getElem_cons_succ, List.getElem_cons_zero, Act.put, List.setIfInBounds_toArray, List.set_cons_zero, List.set_cons_succ])
      refine wpAnyE_take (i := 66) (oi := _) (v := .int .u16 N) rfl (by kernel_rfl) (by kernel_rfl) (by kernel_rfl) (by kernel_rfl) (fun _ _ _ h => h) (Or.inl ⟨by kernel_rfl, ?_⟩) hz4 ?_
      · intro w' hSw
        (try simp only [List.getElem_toArray, List.getElem_cons_succ, List.getElem_cons_zero])
        go_simp
      (try simp only [List.getElem_toArray, List.getElem_cons_succ, List.getElem_cons_zero, Act.put, List.setIfInBounds_toArray, List.set_cons_zero, List.set_cons_succ])
      refine wpAnyE_take (i := 67) (oi := _) (v := .int .i64 N) rfl (by kernel_rfl) (by kernel_rfl) (by kernel_rfl) (by kernel_rfl) (fun _ _ _ h => h) (Or.inl ⟨by kernel_rfl, ?_⟩) hz4 ?_
      · intro w' hSw
        have hw0 := HW1.out.2.2
        (try simp only [List.getElem_toArray, List.getElem_cons_succ, List.getElem_cons_zero])
        go_simp
      (try simp only [List.getElem_toArray, List.getElem_cons_succ, List.getElem_cons_zero, Act.put, List.setIfInBounds_toArray, List.set_cons_zero, List.set_cons_succ])
      refine wpAnyE_take (i := 68) (oi := _) (v := .int .i64 (2 + N)) rfl (by kernel_rfl) (by kernel_rfl) (by kernel_rfl) (by kernel_rfl) (fun _ _ _ h => h) (Or.inl ⟨by kernel_rfl, ?_⟩) hz4 ?_
      · intro w' hSw
        have hw1 := HW1.out.2.1
        (try simp only [List.getElem_toArray, List.getElem_cons_succ, List.getElem_cons_zero])
        go_simp
      (try simp only [List.getElem_toArray, List.getElem_cons_succ, List.getElem_cons_zero, Act.put, List.setIfInBounds_toArray, List.set_cons_zero, List.set_cons_succ])
      refine wpAnyE_one (i := 65) (o := _) (by kernel_rfl) rfl (fun K hK => ?_)
      (try simp only [List.getElem_toArray, List.getElem_cons_succ, List.getElem_cons_zero])
      go_simp
      (with_reducible refine (cell_n A4 c4 72 M4 (2) _ HI.out.len.2.2.2 (sl_slInt (hsl4.keepb hz4))).mono ?_)
      rintro e wy5 ⟨rfl, hy⟩
      have hz5 := below_tr hz4 hy
      clear hy
      rw [HI.out.c4]
      refine hK.out _ _ (fun _ => hz5) ?_
      clear hK K
      (try simp only [List.getElem_toArray, List.getElem_cons_succ, List.getElem_cons_zero, Act.put, List.setIfInBounds_toArray, List.set_cons_zero, List.set_cons_succ])
      refine wpAnyE_take (i := 69) (oi := _) (v := .bool true) rfl (by kernel_rfl) (by kernel_rfl) (by kernel_rfl) (by kernel_rfl) (fun _ _ _ h => h) (Or.inl ⟨by kernel_rfl, ?_⟩) hz5 ?_
      · intro w' hSw
        (try simp only [List.getElem_toArray, List.getElem_cons_succ, List.getElem_cons_zero])
        go_simp
      (try simp only [List.getElem_toArray, List.getElem_cons_succ, List.getElem_cons_zero, Act.put, List.setIfInBounds_toArray, List.set_cons_zero, List.set_cons_succ])
      refine wpAnyE_take (i := 70) (oi := _) (v := .bool true) rfl (by kernel_rfl) (by kernel_rfl) (by kernel_rfl) (by kernel_rfl) (fun _ _ _ h => h) (Or.inl ⟨by kernel_rfl, ?_⟩) hz5 ?_
      · intro w' hSw
        (try simp only [List.getElem_toArray, List.getElem_cons_succ, List.getElem_cons_zero])
        go_simp
      (try simp only [List.getElem_toArray, List.getElem_cons_succ, List.getElem_cons_zero, Act.put, List.setIfInBounds_toArray, List.set_cons_zero, List.set_cons_succ])
      refine wpAnyE_take (i := 71) (oi := _) (v := .bool true) rfl (by kernel_rfl) (by kernel_rfl) (by kernel_rfl) (by kernel_rfl) (fun _ _ _ h => h) (Or.inl ⟨by kernel_rfl, ?_⟩) hz5 ?_
      · intro w' hSw
        (try simp only [List.getElem_toArray, List.getElem_cons_succ, List.getElem_cons_zero])
        go_simp
      (try simp only [List.getElem_toArray, List.getElem_cons_succ, List.getElem_cons_zero, Act.put, List.setIfInBounds_toArray, List.set_cons_zero, List.set_cons_succ])
      refine wpAnyE_done (by kernel_rfl) ?_ _
      replace hbl := below_tr hbl hz5
      have HB := Lib.hid hbl
      clear kL kM kA kO kB kC kE kD hsl2 hsl3 hsl4 hbl hz0
      go_wp2_with fail
      go_ret
      exact ⟨rfl, HB.out⟩
    · have i2 : decide (a = 8 + s) = false := by simp [h3]
      have i2b : (a == 8 + s) = false := by simp [h3]
      have HVA := Lib.hid (HI.out.own h2 h3)
      go_upto_region 18 with fail
      clear i1 i1b i2 i2b h2 h3
      clear q11 lL
      refine wp_region_E (S := fun w' => Below wH.drew.heap.size wH.drew w') (E := fun _ => false) (by kernel_rfl) ?_
      simp only [List.append_eq, List.cons_append, List.nil_append]
      have hr2 : wH.drew.cell? ⟨bP, oP + 2, none⟩ = some (.int .i64 x) ∧ wH.drew.cell? ⟨bP, oP + 2 + 1, none⟩ = some (.int .i64 (1 + N)) := ⟨HR.out.1, HR.out.2⟩
      replace kL := kL.drew
      replace kM := kM.drew
      replace kA := kA.drew
      replace kO := kO.drew
      replace kB := kB.drew
      replace kC := kC.drew
      replace kE := kE.drew
      replace kD := kD.drew
      replace hbl := hbl.drew
      replace hsl2 := hsl2.keepb (below_drew' (Below.refl _ _))
      replace hsl3 := hsl3.keepb (below_drew' (Below.refl _ _))
      replace hsl4 := hsl4.keepb (below_drew' (Below.refl _ _))
      generalize wH.drew = wz at *
      have HQ2 := Lib.hid hr2
      clear hr2
      have hz0 : Below wz.heap.size wz wz := Below.refl _ _
      refine wpAnyE_take (i := 0) (oi := _) (v := .bool true) rfl (by kernel_rfl) (by kernel_rfl) (by kernel_rfl) (by kernel_rfl) (fun _ _ _ h => h) (Or.inl ⟨by kernel_rfl, ?_⟩) hz0 ?_
      · intro w' hSw
        (try simp only [List.getElem_toArray, List.getElem_cons_zero])
        go_simp
      (try simp only [List.getElem_toArray, List.getElem_cons_zero, Act.put, List.setIfInBounds_toArray, List.set_cons_zero, List.set_cons_succ])
      refine wpAnyE_take (i := 1) (oi := _) (v := .bool true) rfl (by kernel_rfl) (by kernel_rfl) (by kernel_rfl) (by kernel_rfl) (fun _ _ _ h => h) (Or.inl ⟨by kernel_rfl, ?_⟩) hz0 ?_
      · intro w' hSw
        (try simp only [List.getElem_toArray, List.getElem_cons_succ, List.getElem_cons_zero])
        go_simp
      (try simp only [List.getElem_toArray, List.getElem_cons_succ, List.getElem_cons_zero, Act.put, List.setIfInBounds_toArray, List.set_cons_zero, List.set_cons_succ])
      refine wpAnyE_take (i := 2) (oi := _) (v := .int .i64 5) rfl (by kernel_rfl) (by kernel_rfl) (by kernel_rfl) (by kernel_rfl) (fun _ _ _ h => h) (Or.inl ⟨by kernel_rfl, ?_⟩) hz0 ?_
      · intro w' hSw
        (try simp only [List.getElem_toArray, List.getElem_cons_succ, List.getElem_cons_zero])
        go_simp
      (try simp only [List.getElem_toArray, List.getElem_cons_succ, List.getElem_cons_zero, Act.put, List.setIfInBounds_toArray, List.set_cons_zero, List.set_cons_succ])
      refine wpAnyE_take (i := 3) (oi := _) (v := .bool true) rfl (by kernel_rfl) (by kernel_rfl) (by kernel_rfl) (by kernel_rfl) (fun _ _ _ h => h) (Or.inl ⟨by kernel_rfl, ?_⟩) hz0 ?_
      · intro w' hSw
        (try simp only [List.getElem_toArray, List.getElem_cons_succ, List.getElem_cons_zero])
        go_simp
      (try simp only [List.getElem_toArray, List.getElem_cons_succ, List.getElem_cons_zero, Act.put, List.setIfInBounds_toArray, List.set_cons_zero, List.set_cons_succ])
      refine wpAnyE_take (i := 4) (oi := _) (v := .bool true) rfl (by kernel_rfl) (by kernel_rfl) (by kernel_rfl) (by kernel_rfl) (fun _ _ _ h => h) (Or.inl ⟨by kernel_rfl, ?_⟩) hz0 ?_
      · intro w' hSw
        (try simp only [List.getElem_toArray, List.getElem_cons_succ, List.getElem_cons_zero])
        go_simp
      (try simp only [List.getElem_toArray, List.getElem_cons_succ, List.getElem_cons_zero, Act.put, List.setIfInBounds_toArray, List.set_cons_zero, List.set_cons_succ])
      refine wpAnyE_take (i := 5) (oi := _) (v := .bool true) rfl (by kernel_rfl) (by kernel_rfl) (by kernel_rfl) (by kernel_rfl) (fun _ _ _ h => h) (Or.inl ⟨by kernel_rfl, ?_⟩) hz0 ?_
      · intro w' hSw
        (try simp only [List.getElem_toArray, List.getElem_cons_succ, List.getElem_cons_zero])
        go_simp
      (try simp only [List.getElem_toArray, List.getElem_cons_succ, List.getElem_cons_zero, Act.put, List.setIfInBounds_toArray, List.set_cons_zero, List.set_cons_succ])
      refine wpAnyE_take (i := 6) (oi := _) (v := .pointer (some ⟨bO, 1, none⟩)) rfl (by kernel_rfl) (by kernel_rfl) (by kernel_rfl) (by kernel_rfl) (fun _ _ _ h => h) (Or.inl ⟨by kernel_rfl, ?_⟩) hz0 ?_
      · intro w' hSw
        (try simp only [List.getElem_toArray, List.getElem_cons_succ, List.getElem_cons_zero])
        go_simp
      (try simp only [List.getElem_toArray, List.getElem_cons_succ, List.getElem_cons_zero, Act.put, List.setIfInBounds_toArray, List.set_cons_zero, List.set_cons_succ])
      refine wpAnyE_take (i := 7) (oi := _) (v := .bool true) rfl (by kernel_rfl) (by kernel_rfl) (by kernel_rfl) (by kernel_rfl) (fun _ _ _ h => h) (Or.inl ⟨by kernel_rfl, ?_⟩) hz0 ?_
      · intro w' hSw
        have lO := (kO.keep hSw).lt
        have ff := (kO.keep hSw).cell 1
        (try simp at ff)
        (try simp only [List.getElem_toArray, List.getElem_cons_succ, List.getElem_cons_zero])
        go_simp
      (try simp only [List.getElem_toArray, List.getElem_cons_succ, List.getElem_cons_zero, Act.put, List.setIfInBounds_toArray, List.set_cons_zero, List.set_cons_succ])
      refine wpAnyE_take (i := 8) (oi := _) (v := .bool true) rfl (by kernel_rfl) (by kernel_rfl) (by kernel_rfl) (by kernel_rfl) (fun _ _ _ h => h) (Or.inl ⟨by kernel_rfl, ?_⟩) hz0 ?_
      · intro w' hSw
        (try simp only [List.getElem_toArray, List.getElem_cons_succ, List.getElem_cons_zero])
        go_simp
      (try simp only [List.getElem_toArray, List.getElem_cons_succ, List.getElem_cons_zero, Act.put, List.setIfInBounds_toArray, List.set_cons_zero, List.set_cons_succ])
      refine wpAnyE_take (i := 9) (oi := _) (v := .bool true) rfl (by kernel_rfl) (by kernel_rfl) (by kernel_rfl) (by kernel_rfl) (fun _ _ _ h => h) (Or.inl ⟨by kernel_rfl, ?_⟩) hz0 ?_
      · intro w' hSw
        (try simp only [List.getElem_toArray, List.getElem_cons_succ, List.getElem_cons_zero])
        go_simp
      (try simp only [List.getElem_toArray, List.getElem_cons_succ, List.getElem_cons_zero, Act.put, List.setIfInBounds_toArray, List.set_cons_zero, List.set_cons_succ])
      refine wpAnyE_take (i := 10) (oi := _) (v := .bool false) rfl (by kernel_rfl) (by kernel_rfl) (by kernel_rfl) (by kernel_rfl) (fun _ _ _ h => h) (Or.inl ⟨by kernel_rfl, ?_⟩) hz0 ?_
      · intro w' hSw
        (try simp only [List.getElem_toArray, List.getElem_cons_succ, List.getElem_cons_zero])
        go_simp
      (try simp only [List.getElem_toArray, List.getElem_cons_succ, List.getElem_cons_zero, Act.put, List.setIfInBounds_toArray, List.set_cons_zero, List.set_cons_succ])
      refine wpAnyE_take (i := 11) (oi := _) (v := .bool false) rfl (by kernel_rfl) (by kernel_rfl) (by kernel_rfl) (by kernel_rfl) (fun _ _ _ h => h) (Or.inl ⟨by kernel_rfl, ?_⟩) hz0 ?_
      · intro w' hSw
        (try simp only [List.getElem_toArray, List.getElem_cons_succ, List.getElem_cons_zero])
        go_simp
      (try simp only [List.getElem_toArray, List.getElem_cons_succ, List.getElem_cons_zero, Act.put, List.setIfInBounds_toArray, List.set_cons_zero, List.set_cons_succ])
      refine wpAnyE_take (i := 12) (oi := _) (v := .pointer (some ⟨bO, 0, none⟩)) rfl (by kernel_rfl) (by kernel_rfl) (by kernel_rfl) (by kernel_rfl) (fun _ _ _ h => h) (Or.inl ⟨by kernel_rfl, ?_⟩) hz0 ?_
      · intro w' hSw
        (try simp only [List.getElem_toArray, List.getElem_cons_succ, List.getElem_cons_zero])
        go_simp
      (try simp only [List.getElem_toArray, List.getElem_cons_succ, List.getElem_cons_zero, Act.put, List.setIfInBounds_toArray, List.set_cons_zero, List.set_cons_succ])
      refine wpAnyE_take (i := 13) (oi := _) (v := .int .i64 val) rfl (by kernel_rfl) (by kernel_rfl) (by kernel_rfl) (by kernel_rfl) (fun _ _ _ h => h) (Or.inl ⟨by kernel_rfl, ?_⟩) hz0 ?_
      · intro w' hSw
        have lO := (kO.keep hSw).lt
        have ff := (kO.keep hSw).cell 0
        (try simp at ff)
        (try simp only [List.getElem_toArray, List.getElem_cons_succ, List.getElem_cons_zero])
        go_simp
      (try simp only [List.getElem_toArray, List.getElem_cons_succ, List.getElem_cons_zero, Act.put, List.setIfInBounds_toArray, List.set_cons_zero, List.set_cons_succ])
      refine wpAnyE_take (i := 14) (oi := _) (v := .pointer (some ⟨bM, 0, none⟩)) rfl (by kernel_rfl) (by kernel_rfl) (by kernel_rfl) (by kernel_rfl) (fun _ _ _ h => h) (Or.inl ⟨by kernel_rfl, ?_⟩) hz0 ?_
      · intro w' hSw
        (try simp only [List.getElem_toArray, List.getElem_cons_succ, List.getElem_cons_zero])
        go_simp
      (try simp only [List.getElem_toArray, List.getElem_cons_succ, List.getElem_cons_zero, Act.put, List.setIfInBounds_toArray, List.set_cons_zero, List.set_cons_succ])
      refine wpAnyE_take (i := 15) (oi := _) (v := .slice (some ⟨g0, 0, none⟩) 72 72) rfl (by kernel_rfl) (by kernel_rfl) (by kernel_rfl) (by kernel_rfl) (fun _ _ _ h => h) (Or.inl ⟨by kernel_rfl, ?_⟩) hz0 ?_
      · intro w' hSw
        have lO := (kM.keep hSw).lt
        have ff := (kM.keep hSw).cell 0
        (try simp at ff)
        (try simp only [List.getElem_toArray, List.getElem_cons_succ, List.getElem_cons_zero])
        go_simp
      (try simp only [List.getElem_toArray, List.getElem_cons_succ, List.getElem_cons_zero, Act.put, List.setIfInBounds_toArray, List.set_cons_zero, List.set_cons_succ])
      refine wpAnyE_take (i := 16) (oi := _) (v := .int .i64 a) rfl (by kernel_rfl) (by kernel_rfl) (by kernel_rfl) (by kernel_rfl) (fun _ _ _ h => h) (Or.inl ⟨by kernel_rfl, ?_⟩) hz0 ?_
      · intro w' hSw
        (try simp only [List.getElem_toArray, List.getElem_cons_succ, List.getElem_cons_zero])
        go_simp
      (try simp only [List.getElem_toArray, List.getElem_cons_succ, List.getElem_cons_zero, Act.put, List.setIfInBounds_toArray, List.set_cons_zero, List.set_cons_succ])
      refine wpAnyE_take (i := 17) (oi := _) (v := .pointer (some ⟨g0, a.toNat, none⟩)) rfl (by kernel_rfl) (by kernel_rfl) (by kernel_rfl) (by kernel_rfl) (fun _ _ _ h => h) (Or.inl ⟨by kernel_rfl, ?_⟩) hz0 ?_
      · intro w' hSw
        have ha0 := HBA.out
        (try simp only [List.getElem_toArray, List.getElem_cons_succ, List.getElem_cons_zero])
        go_simp
      (try simp only [List.getElem_toArray, List.getElem_cons_succ, List.getElem_cons_zero, Act.put, List.setIfInBounds_toArray, List.set_cons_zero, List.set_cons_succ])
      refine wpAnyE_take (i := 18) (oi := _) (v := .int .i64 val) rfl (by kernel_rfl) (by kernel_rfl) (by kernel_rfl) (by kernel_rfl) (fun _ _ _ h => h) (Or.inl ⟨by kernel_rfl, ?_⟩) hz0 ?_
      · intro w' hSw
        have lO := (kA.keep hSw).lt
        have ff := ((kA.keep hSw).cell a.toNat).trans (HCU.out _ _ HVA.out)
        (try simp at ff)
        (try simp only [List.getElem_toArray, List.getElem_cons_succ, List.getElem_cons_zero])
        go_simp
      (try simp only [List.getElem_toArray, List.getElem_cons_succ, List.getElem_cons_zero, Act.put, List.setIfInBounds_toArray, List.set_cons_zero, List.set_cons_succ])
      refine wpAnyE_take (i := 19) (oi := _) (v := .bool true) rfl (by kernel_rfl) (by kernel_rfl) (by kernel_rfl) (by kernel_rfl) (fun _ _ _ h => h) (Or.inl ⟨by kernel_rfl, ?_⟩) hz0 ?_
      · intro w' hSw
        (try simp only [List.getElem_toArray, List.getElem_cons_succ, List.getElem_cons_zero])
        go_simp
      (try simp only [List.getElem_toArray, List.getElem_cons_succ, List.getElem_cons_zero, Act.put, List.setIfInBounds_toArray, List.set_cons_zero, List.set_cons_succ])
      refine wpAnyE_take (i := 20) (oi := _) (v := .bool true) rfl (by kernel_rfl) (by kernel_rfl) (by kernel_rfl) (by kernel_rfl) (fun _ _ _ h => h) (Or.inl ⟨by kernel_rfl, ?_⟩) hz0 ?_
      · intro w' hSw
        (try simp only [List.getElem_toArray, List.getElem_cons_succ, List.getElem_cons_zero])
        go_simp
      (try simp only [List.getElem_toArray, List.getElem_cons_succ, List.getElem_cons_zero, Act.put, List.setIfInBounds_toArray, List.set_cons_zero, List.set_cons_succ])
      refine wpAnyE_take (i := 21) (oi := _) (v := .bool true) rfl (by kernel_rfl) (by kernel_rfl) (by kernel_rfl) (by kernel_rfl) (fun _ _ _ h => h) (Or.inl ⟨by kernel_rfl, ?_⟩) hz0 ?_
      · intro w' hSw
        (try simp only [List.getElem_toArray, List.getElem_cons_succ, List.getElem_cons_zero])
        go_simp
      (try simp only [List.getElem_toArray, List.getElem_cons_succ, List.getElem_cons_zero, Act.put, List.setIfInBounds_toArray, List.set_cons_zero, List.set_cons_succ])
      refine wpAnyE_take (i := 22) (oi := _) (v := .bool true) rfl (by kernel_rfl) (by kernel_rfl) (by kernel_rfl) (by kernel_rfl) (fun _ _ _ h => h) (Or.inl ⟨by kernel_rfl, ?_⟩) hz0 ?_
      · intro w' hSw
        (try simp only [List.getElem_toArray, List.getElem_cons_succ, List.getElem_cons_zero])
        go_simp
      (try simp only [List.getElem_toArray, List.getElem_cons_succ, List.getElem_cons_zero, Act.put, List.setIfInBounds_toArray, List.set_cons_zero, List.set_cons_succ])
      refine wpAnyE_take (i := 23) (oi := _) (v := .agg #[.slice A2 72 c2]) rfl (by kernel_rfl) (by kernel_rfl) (by kernel_rfl) (by kernel_rfl) (fun _ _ _ h => h) (Or.inl ⟨by kernel_rfl, ?_⟩) hz0 ?_
      · intro w' hSw
        (try simp only [List.getElem_toArray, List.getElem_cons_succ, List.getElem_cons_zero])
        simp only [execOp, Instr.loadAt, Instr.sureAddr, Sem.run_bind, Sem.run_pure]
        rw [show (Act.eval _ (Operand.tmp 14)) = Value.pointer (some ⟨bB, 0, none⟩) from rfl]
        simp only [Sem.run_pure, Result.andThen_ok, run_loadVar_row w' bB 33 33 #[.slice A2 72 c2] (0, 0) _ (kB.keep hSw) Try.underlying33 rfl (by kernel_rfl)]
      (try simp only [List.getElem_toArray, List.getElem_cons_succ, List.getElem_cons_zero, Act.put, List.setIfInBounds_toArray, List.set_cons_zero, List.set_cons_succ])
      refine wpAnyE_take (i := 24) (oi := _) (v := .agg (lyC l)) rfl (by kernel_rfl) (by kernel_rfl) (by kernel_rfl) (by kernel_rfl) (fun _ _ _ h => h) (Or.inl ⟨by kernel_rfl, ?_⟩) hz0 ?_
      · intro w' hSw
        (try simp only [List.getElem_toArray, List.getElem_cons_succ, List.getElem_cons_zero])
        simp only [execOp, Instr.loadAt, Instr.sureAddr, Sem.run_bind, Sem.run_pure]
        rw [show (Act.eval _ (Operand.tmp 8)) = Value.pointer (some ⟨bL, 0, none⟩) from rfl]
        simp only [Sem.run_pure, Result.andThen_ok, run_loadVar_row w' bL 40 40 (lyC l) (0, 0) _ (kL.keep hSw) Try.underlying40 rfl (by kernel_rfl)]
      (try simp only [List.getElem_toArray, List.getElem_cons_succ, List.getElem_cons_zero, Act.put, List.setIfInBounds_toArray, List.set_cons_zero, List.set_cons_succ])
      refine wpAnyE_take (i := 25) (oi := _) (v := .int .i64 s) rfl (by kernel_rfl) (by kernel_rfl) (by kernel_rfl) (by kernel_rfl) (fun _ _ _ h => h) (Or.inl ⟨by kernel_rfl, ?_⟩) hz0 ?_
      · intro w' hSw
        (try simp only [List.getElem_toArray, List.getElem_cons_succ, List.getElem_cons_zero])
        go_simp
      (try simp only [List.getElem_toArray, List.getElem_cons_succ, List.getElem_cons_zero, Act.put, List.setIfInBounds_toArray, List.set_cons_zero, List.set_cons_succ])
      refine wpAnyE_take (i := 28) (oi := _) (v := .int .u16 N) rfl (by kernel_rfl) (by kernel_rfl) (by kernel_rfl) (by kernel_rfl) (fun _ _ _ h => h) (Or.inl ⟨by kernel_rfl, ?_⟩) hz0 ?_
      · intro w' hSw
        (try simp only [List.getElem_toArray, List.getElem_cons_succ, List.getElem_cons_zero])
        go_simp
      (try simp only [List.getElem_toArray, List.getElem_cons_succ, List.getElem_cons_zero, Act.put, List.setIfInBounds_toArray, List.set_cons_zero, List.set_cons_succ])
      refine wpAnyE_take (i := 29) (oi := _) (v := .int .i64 N) rfl (by kernel_rfl) (by kernel_rfl) (by kernel_rfl) (by kernel_rfl) (fun _ _ _ h => h) (Or.inl ⟨by kernel_rfl, ?_⟩) hz0 ?_
      · intro w' hSw
        have hw0 := HW1.out.2.2
        (try simp only [List.getElem_toArray, List.getElem_cons_succ, List.getElem_cons_zero])
        go_simp
      (try simp only [List.getElem_toArray, List.getElem_cons_succ, List.getElem_cons_zero, Act.put, List.setIfInBounds_toArray, List.set_cons_zero, List.set_cons_succ])
      refine wpAnyE_take (i := 30) (oi := _) (v := .int .i64 (1 + N)) rfl (by kernel_rfl) (by kernel_rfl) (by kernel_rfl) (by kernel_rfl) (fun _ _ _ h => h) (Or.inl ⟨by kernel_rfl, ?_⟩) hz0 ?_
      · intro w' hSw
        have hw1 := HW1.out.1
        (try simp only [List.getElem_toArray, List.getElem_cons_succ, List.getElem_cons_zero])
        go_simp
      (try simp only [List.getElem_toArray, List.getElem_cons_succ, List.getElem_cons_zero, Act.put, List.setIfInBounds_toArray, List.set_cons_zero, List.set_cons_succ])
      refine wpAnyE_one (i := 26) (o := _) (by kernel_rfl) rfl (fun K hK => ?_)
      (try simp only [List.getElem_toArray, List.getElem_cons_succ, List.getElem_cons_zero])
      go_simp
      (with_reducible refine (rresv_any l 0 s _ HL.out.1).mono ?_)
      rintro e wy1 ⟨rfl, hy⟩
      have hz1 := below_tr hz0 hy
      clear hy
      rw [HI.out.rv]
      refine hK.out _ _ (fun _ => hz1) ?_
      clear hK K
      (try simp only [List.getElem_toArray, List.getElem_cons_succ, List.getElem_cons_zero, Act.put, List.setIfInBounds_toArray, List.set_cons_zero, List.set_cons_succ])
      refine wpAnyE_one (i := 27) (o := _) (by kernel_rfl) rfl (fun K hK => ?_)
      (try simp only [List.getElem_toArray, List.getElem_cons_succ, List.getElem_cons_zero])
      go_simp
      (with_reducible refine (cell_n A2 c2 72 M2 (8 + s) _ HI.out.len.2.1 (sl_slInt (hsl2.keepb hz1))).mono ?_)
      rintro e wy2 ⟨rfl, hy⟩
      have hz2 := below_tr hz1 hy
      clear hy
      rw [HI.out.c2]
      refine hK.out _ _ (fun _ => hz2) ?_
      clear hK K
      (try simp only [List.getElem_toArray, List.getElem_cons_succ, List.getElem_cons_zero, Act.put, List.setIfInBounds_toArray, List.set_cons_zero, List.set_cons_succ])
      refine wpAnyE_take (i := 31) (oi := _) (v := .bool true) rfl (by kernel_rfl) (by kernel_rfl) (by kernel_rfl) (by kernel_rfl) (fun _ _ _ h => h) (Or.inl ⟨by kernel_rfl, ?_⟩) hz2 ?_
      · intro w' hSw
        (try simp only [List.getElem_toArray, List.getElem_cons_succ, List.getElem_cons_zero])
        go_simp
      (try simp only [List.getElem_toArray, List.getElem_cons_succ, List.getElem_cons_zero, Act.put, List.setIfInBounds_toArray, List.set_cons_zero, List.set_cons_succ])
      refine wpAnyE_take (i := 32) (oi := _) (v := .bool true) rfl (by kernel_rfl) (by kernel_rfl) (by kernel_rfl) (by kernel_rfl) (fun _ _ _ h => h) (Or.inl ⟨by kernel_rfl, ?_⟩) hz2 ?_
      · intro w' hSw
        (try simp only [List.getElem_toArray, List.getElem_cons_succ, List.getElem_cons_zero])
        go_simp
      (try simp only [List.getElem_toArray, List.getElem_cons_succ, List.getElem_cons_zero, Act.put, List.setIfInBounds_toArray, List.set_cons_zero, List.set_cons_succ])
      refine wpAnyE_take (i := 33) (oi := _) (v := .bool true) rfl (by kernel_rfl) (by kernel_rfl) (by kernel_rfl) (by kernel_rfl) (fun _ _ _ h => h) (Or.inl ⟨by kernel_rfl, ?_⟩) hz2 ?_
      · intro w' hSw
        (try simp only [List.getElem_toArray, List.getElem_cons_succ, List.getElem_cons_zero])
        go_simp
      (try simp only [List.getElem_toArray, List.getElem_cons_succ, List.getElem_cons_zero, Act.put, List.setIfInBounds_toArray, List.set_cons_zero, List.set_cons_succ])
      refine wpAnyE_take (i := 34) (oi := _) (v := .int .i64 3) rfl (by kernel_rfl) (by kernel_rfl) (by kernel_rfl) (by kernel_rfl) (fun _ _ _ h => h) (Or.inl ⟨by kernel_rfl, ?_⟩) hz2 ?_
      · intro w' hSw
        (try simp only [List.getElem_toArray, List.getElem_cons_succ, List.getElem_cons_zero])
        go_simp
      (try simp only [List.getElem_toArray, List.getElem_cons_succ, List.getElem_cons_zero, Act.put, List.setIfInBounds_toArray, List.set_cons_zero, List.set_cons_succ])
      refine wpAnyE_take (i := 35) (oi := _) (v := .bool true) rfl (by kernel_rfl) (by kernel_rfl) (by kernel_rfl) (by kernel_rfl) (fun _ _ _ h => h) (Or.inl ⟨by kernel_rfl, ?_⟩) hz2 ?_
      · intro w' hSw
        (try simp only [List.getElem_toArray, List.getElem_cons_succ, List.getElem_cons_zero])
        go_simp
      (try simp only [List.getElem_toArray, List.getElem_cons_succ, List.getElem_cons_zero, Act.put, List.setIfInBounds_toArray, List.set_cons_zero, List.set_cons_succ])
      refine wpAnyE_take (i := 36) (oi := _) (v := .bool true) rfl (by kernel_rfl) (by kernel_rfl) (by kernel_rfl) (by kernel_rfl) (fun _ _ _ h => h) (Or.inl ⟨by kernel_rfl, ?_⟩) hz2 ?_
      · intro w' hSw
        (try simp only [List.getElem_toArray, List.getElem_cons_succ, List.getElem_cons_zero])
        go_simp
      (try simp only [List.getElem_toArray, List.getElem_cons_succ, List.getElem_cons_zero, Act.put, List.setIfInBounds_toArray, List.set_cons_zero, List.set_cons_succ])
      refine wpAnyE_take (i := 37) (oi := _) (v := .bool true) rfl (by kernel_rfl) (by kernel_rfl) (by kernel_rfl) (by kernel_rfl) (fun _ _ _ h => h) (Or.inl ⟨by kernel_rfl, ?_⟩) hz2 ?_
      · intro w' hSw
        (try simp only [List.getElem_toArray, List.getElem_cons_succ, List.getElem_cons_zero])
        go_simp
      (try simp only [List.getElem_toArray, List.getElem_cons_succ, List.getElem_cons_zero, Act.put, List.setIfInBounds_toArray, List.set_cons_zero, List.set_cons_succ])
      refine wpAnyE_take (i := 38) (oi := _) (v := .agg #[.slice A3 72 c3]) rfl (by kernel_rfl) (by kernel_rfl) (by kernel_rfl) (by kernel_rfl) (fun _ _ _ h => h) (Or.inl ⟨by kernel_rfl, ?_⟩) hz2 ?_
      · intro w' hSw
        (try simp only [List.getElem_toArray, List.getElem_cons_succ, List.getElem_cons_zero])
        simp only [execOp, Instr.loadAt, Instr.sureAddr, Sem.run_bind, Sem.run_pure]
        rw [show (Act.eval _ (Operand.tmp 17)) = Value.pointer (some ⟨bC, 0, none⟩) from rfl]
        simp only [Sem.run_pure, Result.andThen_ok, run_loadVar_row w' bC 33 33 #[.slice A3 72 c3] (0, 0) _ (kC.keep hSw) Try.underlying33 rfl (by kernel_rfl)]
      (try simp only [List.getElem_toArray, List.getElem_cons_succ, List.getElem_cons_zero, Act.put, List.setIfInBounds_toArray, List.set_cons_zero, List.set_cons_succ])
      refine wpAnyE_take (i := 39) (oi := _) (v := .agg (lyC l)) rfl (by kernel_rfl) (by kernel_rfl) (by kernel_rfl) (by kernel_rfl) (fun _ _ _ h => h) (Or.inl ⟨by kernel_rfl, ?_⟩) hz2 ?_
      · intro w' hSw
        (try simp only [List.getElem_toArray, List.getElem_cons_succ, List.getElem_cons_zero])
        simp only [execOp, Instr.loadAt, Instr.sureAddr, Sem.run_bind, Sem.run_pure]
        rw [show (Act.eval _ (Operand.tmp 8)) = Value.pointer (some ⟨bL, 0, none⟩) from rfl]
        simp only [Sem.run_pure, Result.andThen_ok, run_loadVar_row w' bL 40 40 (lyC l) (0, 0) _ (kL.keep hSw) Try.underlying40 rfl (by kernel_rfl)]
      (try simp only [List.getElem_toArray, List.getElem_cons_succ, List.getElem_cons_zero, Act.put, List.setIfInBounds_toArray, List.set_cons_zero, List.set_cons_succ])
      refine wpAnyE_take (i := 40) (oi := _) (v := .int .i64 s) rfl (by kernel_rfl) (by kernel_rfl) (by kernel_rfl) (by kernel_rfl) (fun _ _ _ h => h) (Or.inl ⟨by kernel_rfl, ?_⟩) hz2 ?_
      · intro w' hSw
        (try simp only [List.getElem_toArray, List.getElem_cons_succ, List.getElem_cons_zero])
        go_simp
      (try simp only [List.getElem_toArray, List.getElem_cons_succ, List.getElem_cons_zero, Act.put, List.setIfInBounds_toArray, List.set_cons_zero, List.set_cons_succ])
      refine wpAnyE_one (i := 41) (o := _) (by kernel_rfl) rfl (fun K hK => ?_)
      (try simp only [List.getElem_toArray, List.getElem_cons_succ, List.getElem_cons_zero])
      go_simp
      (with_reducible refine (rresv_any l 0 s _ HL.out.1).mono ?_)
      rintro e wy3 ⟨rfl, hy⟩
      have hz3 := below_tr hz2 hy
      clear hy
      rw [HI.out.rv]
      refine hK.out _ _ (fun _ => hz3) ?_
      clear hK K
      (try simp only [List.getElem_toArray, List.getElem_cons_succ, List.getElem_cons_zero, Act.put, List.setIfInBounds_toArray, List.set_cons_zero, List.set_cons_succ])
      refine wpAnyE_one (i := 42) (o := _) (by kernel_rfl) rfl (fun K hK => ?_)
      (try simp only [List.getElem_toArray, List.getElem_cons_succ, List.getElem_cons_zero])
      go_simp
      (with_reducible refine (cell_n A3 c3 72 M3 (8 + s) _ HI.out.len.2.2.1 (sl_slInt (hsl3.keepb hz3))).mono ?_)
      rintro e wy4 ⟨rfl, hy⟩
      have hz4 := below_tr hz3 hy
      clear hy
      rw [HI.out.c3]
      refine hK.out _ _ (fun _ => hz4) ?_
      clear hK K
      (try simp only [List.getElem_toArray, List.getElem_cons_succ, List.getElem_cons_zero, Act.put, List.setIfInBounds_toArray, List.set_cons_zero, List.set_cons_succ])
      refine wpAnyE_take (i := 43) (oi := _) (v := .bool true) rfl (by kernel_rfl) (by kernel_rfl) (by kernel_rfl) (by kernel_rfl) (fun _ _ _ h => h) (Or.inl ⟨by kernel_rfl, ?_⟩) hz4 ?_
      · intro w' hSw
        (try simp only [List.getElem_toArray, List.getElem_cons_succ, List.getElem_cons_zero])
        go_simp
      (try simp only [List.getElem_toArray, List.getElem_cons_succ, List.getElem_cons_zero, Act.put, List.setIfInBounds_toArray, List.set_cons_zero, List.set_cons_succ])
      refine wpAnyE_take (i := 44) (oi := _) (v := .bool true) rfl (by kernel_rfl) (by kernel_rfl) (by kernel_rfl) (by kernel_rfl) (fun _ _ _ h => h) (Or.inl ⟨by kernel_rfl, ?_⟩) hz4 ?_
      · intro w' hSw
        (try simp only [List.getElem_toArray, List.getElem_cons_succ, List.getElem_cons_zero])
        go_simp
      (try simp only [List.getElem_toArray, List.getElem_cons_succ, List.getElem_cons_zero, Act.put, List.setIfInBounds_toArray, List.set_cons_zero, List.set_cons_succ])
      refine wpAnyE_take (i := 45) (oi := _) (v := .bool true) rfl (by kernel_rfl) (by kernel_rfl) (by kernel_rfl) (by kernel_rfl) (fun _ _ _ h => h) (Or.inl ⟨by kernel_rfl, ?_⟩) hz4 ?_
      · intro w' hSw
        (try simp only [List.getElem_toArray, List.getElem_cons_succ, List.getElem_cons_zero])
        go_simp
      (try simp only [List.getElem_toArray, List.getElem_cons_succ, List.getElem_cons_zero, Act.put, List.setIfInBounds_toArray, List.set_cons_zero, List.set_cons_succ])
      refine wpAnyE_take (i := 46) (oi := _) (v := .int .i64 2) rfl (by kernel_rfl) (by kernel_rfl) (by kernel_rfl) (by kernel_rfl) (fun _ _ _ h => h) (Or.inl ⟨by kernel_rfl, ?_⟩) hz4 ?_
      · intro w' hSw
        (try simp only [List.getElem_toArray, List.getElem_cons_succ, List.getElem_cons_zero])
        go_simp
      (try simp only [List.getElem_toArray, List.getElem_cons_succ, List.getElem_cons_zero, Act.put, List.setIfInBounds_toArray, List.set_cons_zero, List.set_cons_succ])
      refine wpAnyE_take (i := 47) (oi := _) (v := .bool true) rfl (by kernel_rfl) (by kernel_rfl) (by kernel_rfl) (by kernel_rfl) (fun _ _ _ h => h) (Or.inl ⟨by kernel_rfl, ?_⟩) hz4 ?_
      · intro w' hSw
        (try simp only [List.getElem_toArray, List.getElem_cons_succ, List.getElem_cons_zero])
        go_simp
      (try simp only [List.getElem_toArray, List.getElem_cons_succ, List.getElem_cons_zero, Act.put, List.setIfInBounds_toArray, List.set_cons_zero, List.set_cons_succ])
      refine wpAnyE_take (i := 48) (oi := _) (v := .bool true) rfl (by kernel_rfl) (by kernel_rfl) (by kernel_rfl) (by kernel_rfl) (fun _ _ _ h => h) (Or.inl ⟨by kernel_rfl, ?_⟩) hz4 ?_
      · intro w' hSw
        (try simp only [List.getElem_toArray, List.getElem_cons_succ, List.getElem_cons_zero])
        go_simp
      (try simp only [List.getElem_toArray, List.getElem_cons_succ, List.getElem_cons_zero, Act.put, List.setIfInBounds_toArray, List.set_cons_zero, List.set_cons_succ])
      refine wpAnyE_take (i := 49) (oi := _) (v := .bool true) rfl (by kernel_rfl) (by kernel_rfl) (by kernel_rfl) (by kernel_rfl) (fun _ _ _ h => h) (Or.inl ⟨by kernel_rfl, ?_⟩) hz4 ?_
      · intro w' hSw
        (try simp only [List.getElem_toArray, List.getElem_cons_succ, List.getElem_cons_zero])
        go_simp
      (try simp only [List.getElem_toArray, List.getElem_cons_succ, List.getElem_cons_zero, Act.put, List.setIfInBounds_toArray, List.set_cons_zero, List.set_cons_succ])
      refine wpAnyE_take (i := 50) (oi := _) (v := .pointer (some ⟨bE, 4, none⟩)) rfl (by kernel_rfl) (by kernel_rfl) (by kernel_rfl) (by kernel_rfl) (fun _ _ _ h => h) (Or.inl ⟨by kernel_rfl, ?_⟩) hz4 ?_
      · intro w' hSw
        (try simp only [List.getElem_toArray, List.getElem_cons_succ, List.getElem_cons_zero])
        go_simp
      (try simp only [List.getElem_toArray, List.getElem_cons_succ, List.getElem_cons_zero, Act.put, List.setIfInBounds_toArray, List.set_cons_zero, List.set_cons_succ])
      refine wpAnyE_take (i := 51) (oi := _) (v := .slice (some ⟨bP, oP, none⟩) 2 c7) rfl (by kernel_rfl) (by kernel_rfl) (by kernel_rfl) (by kernel_rfl) (fun _ _ _ h => h) (Or.inl ⟨by kernel_rfl, ?_⟩) hz4 ?_
      · intro w' hSw
        have lO := (kE.keep hSw).lt
        have ff := (kE.keep hSw).cell 4
        (try simp at ff)
        (try simp only [List.getElem_toArray, List.getElem_cons_succ, List.getElem_cons_zero])
        go_simp
      (try simp only [List.getElem_toArray, List.getElem_cons_succ, List.getElem_cons_zero, Act.put, List.setIfInBounds_toArray, List.set_cons_zero, List.set_cons_succ])
      refine wpAnyE_take (i := 52) (oi := _) (v := .pointer (some ⟨bP, oP + 2, none⟩)) rfl (by kernel_rfl) (by kernel_rfl) (by kernel_rfl) (by kernel_rfl) (fun _ _ _ h => h) (Or.inl ⟨by kernel_rfl, ?_⟩) hz4 ?_
      · intro w' hSw
        (try simp only [List.getElem_toArray, List.getElem_cons_succ, List.getElem_cons_zero])
        go_simp
      (try simp only [List.getElem_toArray, List.getElem_cons_succ, List.getElem_cons_zero, Act.put, List.setIfInBounds_toArray, List.set_cons_zero, List.set_cons_succ])
      refine wpAnyE_take (i := 53) (oi := _) (v := .agg #[.int .i64 x, .int .i64 (1 + N)]) rfl (by kernel_rfl) (by kernel_rfl) (by kernel_rfl) (by kernel_rfl) (fun _ _ _ h => h) (Or.inl ⟨by kernel_rfl, ?_⟩) hz4 ?_
      · intro w' hSw
        (try simp only [List.getElem_toArray, List.getElem_cons_succ, List.getElem_cons_zero])
        simp only [execOp, Instr.loadAt, Instr.sureAddr, Sem.run_bind, Sem.run_pure]
        rw [show (Act.eval _ (Operand.tmp 172)) = Value.pointer (some ⟨bP, (oP + 2), none⟩) from rfl]
        simp only [Sem.run_pure, Result.andThen_ok, run_loadVar_sub w' bP (oP + 2) 51 #[.int .i64 x, .int .i64 (1 + N)] _ (pair_cells (cell_keep hSw HQ2.out.1) (cell_keep hSw HQ2.out.2)) Try.underlying51 rfl (by kernel_rfl)]
      (try simp only [List.getElem_toArray, List.getElem_cons_succ, List.getElem_cons_zero, Act.put, List.setIfInBounds_toArray, List.set_cons_zero, List.set_cons_succ])
      refine wpAnyE_take (i := 54) (oi := _) (v := .int .i64 x) rfl (by kernel_rfl) (by kernel_rfl) (by kernel_rfl) (by kernel_rfl) (fun _ _ _ h => h) (Or.inl ⟨by kernel_rfl, ?_⟩) hz4 ?_
      · intro w' hSw
        (try simp only [List.getElem_toArray, List.getElem_cons_succ, List.getElem_cons_zero])
        go_simp
      (try simp only [List.getElem_toArray, List.getElem_cons_succ, List.getElem_cons_zero, Act.put, List.setIfInBounds_toArray, List.set_cons_zero, List.set_cons_succ])
      refine wpAnyE_take (i := 55) (oi := _) (v := .int .u16 N) rfl (by kernel_rfl) (by kernel_rfl) (by kernel_rfl) (by kernel_rfl) (fun _ _ _ h => h) (Or.inl ⟨by kernel_rfl, ?_⟩) hz4 ?_
      · intro w' hSw
        (try simp only [List.getElem_toArray, List.getElem_cons_succ, List.getElem_cons_zero])
        go_simp
      (try simp only [List.getElem_toArray, List.getElem_cons_succ, List.getElem_cons_zero, Act.put, List.setIfInBounds_toArray, List.set_cons_zero, List.set_cons_succ])
      refine wpAnyE_take (i := 56) (oi := _) (v := .int .i64 N) rfl (by kernel_rfl) (by kernel_rfl) (by kernel_rfl) (by kernel_rfl) (fun _ _ _ h => h) (Or.inl ⟨by kernel_rfl, ?_⟩) hz4 ?_
      · intro w' hSw
        have hw0 := HW1.out.2.2
        (try simp only [List.getElem_toArray, List.getElem_cons_succ, List.getElem_cons_zero])
        go_simp
      (try simp only [List.getElem_toArray, List.getElem_cons_succ, List.getElem_cons_zero, Act.put, List.setIfInBounds_toArray, List.set_cons_zero, List.set_cons_succ])
      refine wpAnyE_take (i := 57) (oi := _) (v := .int .i64 (1 + N)) rfl (by kernel_rfl) (by kernel_rfl) (by kernel_rfl) (by kernel_rfl) (fun _ _ _ h => h) (Or.inl ⟨by kernel_rfl, ?_⟩) hz4 ?_
      · intro w' hSw
        have hw1 := HW1.out.1
        (try simp only [List.getElem_toArray, List.getElem_cons_succ, List.getElem_cons_zero])
        go_simp
      (try simp only [List.getElem_toArray, List.getElem_cons_succ, List.getElem_cons_zero, Act.put, List.setIfInBounds_toArray, List.set_cons_zero, List.set_cons_succ])
      refine wpAnyE_take (i := 58) (oi := _) (v := .agg #[.int .i64 x, .int .i64 (1 + N)]) rfl (by kernel_rfl) (by kernel_rfl) (by kernel_rfl) (by kernel_rfl) (fun _ _ _ h => h) (Or.inl ⟨by kernel_rfl, ?_⟩) hz4 ?_
      · intro w' hSw
        (try simp only [List.getElem_toArray, List.getElem_cons_succ, List.getElem_cons_zero])
        go_simp
      (try simp only [List.getElem_toArray, List.getElem_cons_succ, List.getElem_cons_zero, Act.put, List.setIfInBounds_toArray, List.set_cons_zero, List.set_cons_succ])
      refine wpAnyE_take (i := 59) (oi := _) (v := .bool true) rfl (by kernel_rfl) (by kernel_rfl) (by kernel_rfl) (by kernel_rfl) (fun _ _ _ h => h) (Or.inl ⟨by kernel_rfl, ?_⟩) hz4 ?_
      · intro w' hSw
        have heq := eq_pair x (1 + N) x (1 + N) w'
        (try simp only [List.getElem_toArray, List.getElem_cons_succ, List.getElem_cons_zero])
        go_simp
      (try simp only [List.getElem_toArray, List.getElem_cons_succ, List.getElem_cons_zero, Act.put, List.setIfInBounds_toArray, List.set_cons_zero, List.set_cons_succ])
      refine wpAnyE_take (i := 60) (oi := _) (v := .bool true) rfl (by kernel_rfl) (by kernel_rfl) (by kernel_rfl) (by kernel_rfl) (fun _ _ _ h => h) (Or.inl ⟨by kernel_rfl, ?_⟩) hz4 ?_
      · intro w' hSw
        (try simp only [List.getElem_toArray, List.getElem_cons_succ, List.getElem_cons_zero])
        go_simp
      (try simp only [List.getElem_toArray, List.getElem_cons_succ, List.getElem_cons_zero, Act.put, List.setIfInBounds_toArray, List.set_cons_zero, List.set_cons_succ])
      refine wpAnyE_take (i := 61) (oi := _) (v := .bool true) rfl (by kernel_rfl) (by kernel_rfl) (by kernel_rfl) (by kernel_rfl) (fun _ _ _ h => h) (Or.inl ⟨by kernel_rfl, ?_⟩) hz4 ?_
      · intro w' hSw
        (try simp only [List.getElem_toArray, List.getElem_cons_succ, List.getElem_cons_zero])
        go_simp
      (try simp only [List.getElem_toArray, List.getElem_cons_succ, List.getElem_cons_zero, Act.put, List.setIfInBounds_toArray, List.set_cons_zero, List.set_cons_succ])
      refine wpAnyE_take (i := 62) (oi := _) (v := .agg #[.slice A4 72 c4]) rfl (by kernel_rfl) (by kernel_rfl) (by kernel_rfl) (by kernel_rfl) (fun _ _ _ h => h) (Or.inl ⟨by kernel_rfl, ?_⟩) hz4 ?_
      · intro w' hSw
        (try simp only [List.getElem_toArray, List.getElem_cons_succ, List.getElem_cons_zero])
        simp only [execOp, Instr.loadAt, Instr.sureAddr, Sem.run_bind, Sem.run_pure]
        rw [show (Act.eval _ (Operand.tmp 21)) = Value.pointer (some ⟨bD, 0, none⟩) from rfl]
        simp only [Sem.run_pure, Result.andThen_ok, run_loadVar_row w' bD 33 33 #[.slice A4 72 c4] (0, 0) _ (kD.keep hSw) Try.underlying33 rfl (by kernel_rfl)]
      (try simp only [List.getElem_toArray, List.getElem_cons_succ, List.getElem_cons_zero, Act.put, List.setIfInBounds_toArray, List.set_cons_zero, List.set_cons_succ])
      refine wpAnyE_take (i := 63) (oi := _) (v := .pointer (some ⟨bL, 11, none⟩)) rfl (by kernel_rfl) (by kernel_rfl) (by kernel_rfl) (by kernel_rfl) (fun _ _ _ h => h) (Or.inl ⟨by kernel_rfl, ?_⟩) hz4 ?_
      · intro w' hSw
        (try simp only [List.getElem_toArray, List.getElem_cons_succ, List.getElem_cons_zero])
        go_simp
      (try simp only [List.getElem_toArray, List.getElem_cons_succ, List.getElem_cons_zero, Act.put, List.setIfInBounds_toArray, List.set_cons_zero, List.set_cons_succ])
      refine wpAnyE_take (i := 64) (oi := _) (v := .int .i64 2) rfl (by kernel_rfl) (by kernel_rfl) (by kernel_rfl) (by kernel_rfl) (fun _ _ _ h => h) (Or.inl ⟨by kernel_rfl, ?_⟩) hz4 ?_
      · intro w' hSw
        have lO := (kL.keep hSw).lt
        have hl2 := HL.out.2.2.2.1
        have ff := (kL.keep hSw).cell 11
        (try simp at ff)
        (try simp only [List.getElem_toArray, List.getElem_cons_succ, List.getElem_cons_zero])
        go_simp
      (try simp only [List.getElem_toArray, List.getElem_cons_succ, List.getElem_cons_zero, Act.put, List.setIfInBounds_toArray, List.set_cons_zero, List.set_cons_succ])
      refine wpAnyE_take (i := 66) (oi := _) (v := .int .u16 N) rfl (by kernel_rfl) (by kernel_rfl) (by kernel_rfl) (by kernel_rfl) (fun _ _ _ h => h) (Or.inl ⟨by kernel_rfl, ?_⟩) hz4 ?_
      · intro w' hSw
        (try simp only [List.getElem_toArray, List.getElem_cons_succ, List.getElem_cons_zero])
        go_simp
      (try simp only [List.getElem_toArray, List.getElem_cons_succ, List.getElem_cons_zero, Act.put, List.setIfInBounds_toArray, List.set_cons_zero, List.set_cons_succ])
      refine wpAnyE_take (i := 67) (oi := _) (v := .int .i64 N) rfl (by kernel_rfl) (by kernel_rfl) (by kernel_rfl) (by kernel_rfl) (fun _ _ _ h => h) (Or.inl ⟨by kernel_rfl, ?_⟩) hz4 ?_
      · intro w' hSw
        have hw0 := HW1.out.2.2
        (try simp only [List.getElem_toArray, List.getElem_cons_succ, List.getElem_cons_zero])
        go_simp
      (try simp only [List.getElem_toArray, List.getElem_cons_succ, List.getElem_cons_zero, Act.put, List.setIfInBounds_toArray, List.set_cons_zero, List.set_cons_succ])
      refine wpAnyE_take (i := 68) (oi := _) (v := .int .i64 (2 + N)) rfl (by kernel_rfl) (by kernel_rfl) (by kernel_rfl) (by kernel_rfl) (fun _ _ _ h => h) (Or.inl ⟨by kernel_rfl, ?_⟩) hz4 ?_
      · intro w' hSw
        have hw1 := HW1.out.2.1
        (try simp only [List.getElem_toArray, List.getElem_cons_succ, List.getElem_cons_zero])
        go_simp
      (try simp only [List.getElem_toArray, List.getElem_cons_succ, List.getElem_cons_zero, Act.put, List.setIfInBounds_toArray, List.set_cons_zero, List.set_cons_succ])
      refine wpAnyE_one (i := 65) (o := _) (by kernel_rfl) rfl (fun K hK => ?_)
      (try simp only [List.getElem_toArray, List.getElem_cons_succ, List.getElem_cons_zero])
      go_simp
      (with_reducible refine (cell_n A4 c4 72 M4 (2) _ HI.out.len.2.2.2 (sl_slInt (hsl4.keepb hz4))).mono ?_)
      rintro e wy5 ⟨rfl, hy⟩
      have hz5 := below_tr hz4 hy
      clear hy
      rw [HI.out.c4]
      refine hK.out _ _ (fun _ => hz5) ?_
      clear hK K
      (try simp only [List.getElem_toArray, List.getElem_cons_succ, List.getElem_cons_zero, Act.put, List.setIfInBounds_toArray, List.set_cons_zero, List.set_cons_succ])
      refine wpAnyE_take (i := 69) (oi := _) (v := .bool true) rfl (by kernel_rfl) (by kernel_rfl) (by kernel_rfl) (by kernel_rfl) (fun _ _ _ h => h) (Or.inl ⟨by kernel_rfl, ?_⟩) hz5 ?_
      · intro w' hSw
        (try simp only [List.getElem_toArray, List.getElem_cons_succ, List.getElem_cons_zero])
        go_simp
      (try simp only [List.getElem_toArray, List.getElem_cons_succ, List.getElem_cons_zero, Act.put, List.setIfInBounds_toArray, List.set_cons_zero, List.set_cons_succ])
      refine wpAnyE_take (i := 70) (oi := _) (v := .bool true) rfl (by kernel_rfl) (by kernel_rfl) (by kernel_rfl) (by kernel_rfl) (fun _ _ _ h => h) (Or.inl ⟨by kernel_rfl, ?_⟩) hz5 ?_
      · intro w' hSw
        (try simp only [List.getElem_toArray, List.getElem_cons_succ, List.getElem_cons_zero])
        go_simp
      (try simp only [List.getElem_toArray, List.getElem_cons_succ, List.getElem_cons_zero, Act.put, List.setIfInBounds_toArray, List.set_cons_zero, List.set_cons_succ])
      refine wpAnyE_take (i := 71) (oi := _) (v := .bool true) rfl (by kernel_rfl) (by kernel_rfl) (by kernel_rfl) (by kernel_rfl) (fun _ _ _ h => h) (Or.inl ⟨by kernel_rfl, ?_⟩) hz5 ?_
      · intro w' hSw
        (try simp only [List.getElem_toArray, List.getElem_cons_succ, List.getElem_cons_zero])
        go_simp
      (try simp only [List.getElem_toArray, List.getElem_cons_succ, List.getElem_cons_zero, Act.put, List.setIfInBounds_toArray, List.set_cons_zero, List.set_cons_succ])
      refine wpAnyE_done (by kernel_rfl) ?_ _
      replace hbl := below_tr hbl hz5
      have HB := Lib.hid hbl
      clear kL kM kA kO kB kC kE kD hsl2 hsl3 hsl4 hbl hz0
      go_wp2_with fail
      go_ret
      exact ⟨rfl, HB.out⟩
end Go.Proofs.Ytgjdjgainjedhaa
