/- How what EraGuards takes is read; its layout. -/
import Derived.Test.YtgjdjgainjedhaaEGp
namespace Go.Proofs.Ytgjdjgainjedhaa
open Go.RowKit
section
open Go.ChangeShapes Go.WideShapes Go.ChangeAt Go.Joins Go.Deep
variable {H : Type} {enc : TypeId × Value → H} {W : World} {base b0 : Nat} {v : Value} {d : DataW H} {p : List MemPlace}
set_option maxRecDepth 100000 in
theorem o_guards (hv : Value.okWide Try.prog W .any base 55 v) (h : DataW.Trod enc Try.prog W 0 (fun _ => true) true 55 v d p) :
    ∃ (S F : Int) (A : Option Addr) (n c : Nat) (V : Int) (passed : List Nat), v = .agg #[.int .u8 S, .int .u8 F, .slice A n c, .int .u16 V] ∧ (0 ≤ S ∧ S < 256) ∧ (0 ≤ F ∧ F < 256) ∧ (0 ≤ V ∧ V < 65536) ∧ passed.length = n ∧ SlU8 W W.heap.size A passed := by
  obtain ⟨cs, rfl, hsz⟩ := okWide_struct Try.underlying55 hv
  obtain ⟨fuel, hf⟩ := h
  have hc : Try.prog.cellsOf 55 = 4 := by kernel_rfl
  have hf' : DataW.trod enc Try.prog W 0 (fun _ => true) true fuel 55 cs.toList = some (d, p) := by simpa [Value.cells] using hf
  obtain ⟨S, h0, w0⟩ := fld_int Try.underlying55 (by kernel_rfl) (by kernel_rfl) hf' 0 _ rfl Try.underlying5
  obtain ⟨F, h1, w1⟩ := fld_int Try.underlying55 (by kernel_rfl) (by kernel_rfl) hf' 1 _ rfl Try.underlying5
  obtain ⟨v2, n2, y2, h2, g2⟩ := fld Try.underlying55 (by kernel_rfl) (by kernel_rfl) hf' 2 _ rfl
  obtain ⟨V, h3, w3⟩ := fld_int Try.underlying55 (by kernel_rfl) (by kernel_rfl) hf' 3 _ rfl Try.underlying53
  obtain ⟨A, n, c, rfl⟩ := slice_shape Try.underlying23 g2
  obtain ⟨passed, a1, a2⟩ := u8s_of_trod g2
  have b0 := bounds_u8 w0
  have b1 := bounds_u8 w1
  have b3 := bounds_u16 w3
  exact ⟨S, F, A, n, c, V, passed, by rw [← Array.toArray_toList (xs := cs), arr4 (by simp [hsz, hc]) h0 h1 h2 h3], by omega, by omega, by omega, a1, a2⟩
end
def gdL : Ly := lyOf ⟨2, 2, 1, 1, 1, 1, 0, 0, 0⟩
theorem gdCf_can : Cf.can ⟨2, 2, 1, 1, 1, 1, 0, 0, 0⟩ := by
  refine ⟨⟨fun j hj => ?_, rfl⟩, by decide, by decide⟩
  have hc : j = 0 ∨ j = 1 ∨ j = 2 ∨ j = 3 ∨ j = 4 ∨ j = 5 ∨ j = 6 ∨ j = 7 := by omega
  rcases hc with rfl | rfl | rfl | rfl | rfl | rfl | rfl | rfl <;> simp [Cf.rowOk]
theorem gd_lay : (gdL.size = 49 ∧ gdL.era = 2 ∧ gdL.c.seats = 2 ∧ gdL.c.nodes = 2) ∧ cellAt gdL 0 = 32 ∧ (∀ i, i < 3 → resvAt gdL 1 ((i : Nat) : Int) = ((11 + i : Nat) : Int)) := by
  refine ⟨by decide +kernel, by decide +kernel, fun i hi => ?_⟩
  have hc : i = 0 ∨ i = 1 ∨ i = 2 := by omega
  rcases hc with rfl | rfl | rfl <;> decide +kernel
def gdM0 (F V : Int) : List Int := ((List.replicate 49 (0 : Int)).set 2 (1 + F)).set 32 V
/-- The pass ahead of access k. -/
def gdPass (passed : List Nat) (k : Nat) : Bool := decide (k < passed.length) && decide (passed.getD k 0 % 3 = 0)
theorem gd_is (S : Nat) (F V : Int) (passed : List Nat) (hS : S < 3) (hF : 0 ≤ F ∧ F < 256) (hp : passed.length ≤ 20) :
    ∃ K, K ≤ 30 ∧ (∀ k, k < K → (∀ x p, ePh gdL ⟨1, 0, (S : Int), 32⟩ [] (gdS gdL 1 (S : Int) 32 2 (gdPass passed) (gdM0 F V) k).2 ≠ .gz x p) ∧ GdI 49 2 (11 + S) 32 V (256 + (min k 20 : Nat)) k (gdS gdL 1 (S : Int) 32 2 (gdPass passed) (gdM0 F V) k).1 (ePh gdL ⟨1, 0, (S : Int), 32⟩ [] (gdS gdL 1 (S : Int) 32 2 (gdPass passed) (gdM0 F V) k).2) (gdS gdL 1 (S : Int) 32 2 (gdPass passed) (gdM0 F V) k).2) ∧
      (∃ p, ePh gdL ⟨1, 0, (S : Int), 32⟩ [] (gdS gdL 1 (S : Int) 32 2 (gdPass passed) (gdM0 F V) K).2 = .gz V p) ∧ GdI 49 2 (11 + S) 32 V (256 + (min K 20 : Nat)) K (gdS gdL 1 (S : Int) 32 2 (gdPass passed) (gdM0 F V) K).1 (ePh gdL ⟨1, 0, (S : Int), 32⟩ [] (gdS gdL 1 (S : Int) 32 2 (gdPass passed) (gdM0 F V) K).2) (gdS gdL 1 (S : Int) 32 2 (gdPass passed) (gdM0 F V) K).2 := by
  obtain ⟨⟨l1, l2, l3, l4⟩, hc, hr⟩ := gd_lay
  have n1 : (gdM0 F V).length = 49 := by simp [gdM0]
  have g1 : (gdM0 F V).getD 32 0 = V := by rw [gdM0, set_at (by simp), if_pos rfl]
  have g2 : (gdM0 F V).getD 2 0 = 1 + F := by rw [gdM0, set_at (by simp), if_neg (by omega), set_at (by simp), if_pos rfl]
  have g3 : (gdM0 F V).getD (11 + S) 0 = 0 := by
    rw [gdM0, set_at (by simp), if_neg (by omega), set_at (by simp), if_neg (by omega), List.getD_eq_getElem?_getD, List.getElem?_replicate, if_pos (by omega)]
    rfl
  exact gd_run (l := gdL) (me := 1) (s := (S : Int)) (c := 32) (gdPass passed) (fun k hk => by simp [gdPass]; omega) n1 g1 (by omega) (by omega) g3 ⟨by omega, by omega⟩ ⟨by omega, by omega⟩ rfl l2 (hr S hS) (by omega) (by omega) (by omega) (by omega) (by omega) (by omega)
theorem cellN_in {zs : List Int} {k : Nat} (h : k < zs.length) : cellN zs (k : Nat) = zs.getD k 0 := by
  unfold cellN
  rw [if_neg (by omega), Int.toNat_natCast]
section
variable {w : World}
theorem own_cells' {B n c : Nat} {A : Option Addr} {zs : List Int} (h : OwnInts w B (.slice A n c) zs) (hn : zs.length = n) (h0 : 0 < n) : ∃ gR cur, (A = some ⟨gR, 0, none⟩ ∧ Bk w gR 3 cur) ∧ B ≤ gR ∧ ∀ (k : Nat) (r : Int), zs[k]? = some r → cur[k]? = some (.int .i64 r) := by
  rcases h.2 with ⟨_, h0⟩ | ⟨g, cap, cur, h1, h2, h3, _, _, _, h4⟩
  · omega
  · injection h1 with h1 _ _
    refine ⟨g, cur, ⟨h1, h3⟩, h2, fun k r hk => ?_⟩
    have h5 : (ints zs)[k]? = some (.int .i64 r) := by simp [ints, hk]
    rw [← h4, List.getElem?_take] at h5
    split at h5
    · simpa using h5
    · cases h5
theorem sl_cur {g n : Nat} {cur : Array Value} {zs : List Int} (k : Bk w g 3 cur) (hn : zs.length = n) (h : ∀ (k : Nat) (r : Int), zs[k]? = some r → cur[k]? = some (.int .i64 r)) : Sl w w.heap.size (some ⟨g, 0, none⟩) n (ints zs) := by
  refine ⟨by simp [ints, hn], fun _ => ⟨g, 0, rfl, k.lt, fun j u hu => ?_⟩⟩
  rw [Nat.zero_add, k.cell]
  simp only [ints, List.getElem?_map] at hu
  cases e : zs[j]? with
  | none => rw [e] at hu; cases hu
  | some z => rw [e] at hu; cases hu; exact h j z e
theorem cur_set {cur : Array Value} {zs : List Int} {i : Nat} {v : Int} (hi : i < zs.length) (h : ∀ (k : Nat) (r : Int), zs[k]? = some r → cur[k]? = some (.int .i64 r)) : ∀ (k : Nat) (r : Int), (zs.set i v)[k]? = some r → (cur.setIfInBounds i (.int .i64 v))[k]? = some (.int .i64 r) := by
  intro k r hk
  rw [List.getElem?_set] at hk
  have hc := h i zs[i] (List.getElem?_eq_getElem hi)
  have hlt := (Array.getElem?_eq_some_iff.1 hc).1
  by_cases e : i = k
  · subst e
    rw [if_pos rfl, if_pos hi] at hk
    cases hk
    simp [hlt]
  · rw [if_neg e] at hk
    rw [Array.getElem?_setIfInBounds, if_neg e]
    exact h k r hk
theorem sl_slInt {B n : Nat} {A : Option Addr} {zs : List Int} (h : Sl w B A n (ints zs)) : SlInt w B A zs := by
  intro hl
  have hn := h.1
  simp [ints] at hn
  obtain ⟨b, o, e, hb, hc⟩ := h.2 (by omega)
  exact ⟨b, o, e, hb, fun k r hk => hc k _ (by simp [ints, hk])⟩
end
theorem wpList_load_rowG {P : Program} {ops : Array Oper} {rest : List Oper} {o : Oper} {a : Act} {w : World} {Q : Exit → Act → World → Prop} (hgd : Region.wanted o (yielded ops a.tmps) = true) (ty : TypeId) (x : Operand) (ho : o.op = .load ty x)
    (g : Nat) (hx : a.eval x = .pointer (some ⟨g, 0, none⟩)) (t : TypeId) (cs : Array Value) (fr : Nat × Nat) (d : TypeDesc) (hg : w.heap[g]? = some (.cells cs t fr))
    (hu : P.underlying ty = some d) (hd : (match d with | .struct _ | .array _ _ => true | _ => false) = true) (hi : (P.info? ty).map (·.size) = some cs.size)
    (h : wpList P ops Q rest (a.put o.dst (.agg cs)) w) : wpList P ops Q (o :: rest) a w := by
  simp only [wpList, hgd, if_true]
  exact .inl (wp_load_row ty x ho g hx t cs fr d hg hu hd hi h)
/-- A round, in numbers. -/
theorem gd_next {l : Ly} {S k : Nat} {V B : Int} {pass : Nat → Bool} {m0 mk : List Int} {log : Log} {qk qc qo qv : Int} (hst : gdS l 1 (S : Int) 32 2 pass m0 k = (mk, log)) (hi : GdI 49 2 (11 + S) 32 V B k mk (ePh l ⟨1, 0, (S : Int), 32⟩ [] log) log) (hne : ∀ x p, ePh l ⟨1, 0, (S : Int), 32⟩ [] log ≠ .gz x p) (he : l.era = 2) (hr : resvAt l 1 (S : Int) = ((11 + S : Nat) : Int)) (hS : S < 3) (hN : eraR l 1 ⟨1, 0, (S : Int), 32⟩ [] log = .ask qk qc qo qv) (m1 : List Int) (hm1 : m1 = if pass k then mk.set 2 (mk.getD 2 0 + 1) else mk) :
    gdS l 1 (S : Int) 32 2 pass m0 (k + 1) = ((⟨qk, qc, qo, qv⟩ : Acc).make m1, log ++ [((⟨qk, qc, qo, qv⟩ : Acc).had m1, true)]) ∧ (⟨qk, qc, qo, qv⟩ : Acc).err m1.length = 0 ∧ (⟨qk, qc, qo, qv⟩ : Acc).ok ((⟨qk, qc, qo, qv⟩ : Acc).had m1) = true ∧ m1.length = 49 := by
  have hg : ∃ B', GdI 49 2 (11 + S) 32 V B' k m1 (ePh l ⟨1, 0, (S : Int), 32⟩ [] log) log := by
    rw [hm1]
    by_cases h : pass k = true
    · rw [if_pos h]
      exact ⟨_, gd_pass hi (by omega) (by omega) (by omega)⟩
    · rw [if_neg h]
      exact ⟨_, hi⟩
  obtain ⟨B', hg⟩ := hg
  obtain ⟨g1, g2, g3, -, -⟩ := gd_step (l := l) (me := 1) (s := (S : Int)) (c := 32) hg hne rfl he hr (by omega) (by omega) (by omega) (by omega) (by omega) (by omega)
  rw [← eraR_eq _ rfl, hN] at g1
  injection g1 with e1 e2 e3 e4
  have ha : (⟨qk, qc, qo, qv⟩ : Acc) = gdAcc l 1 (S : Int) 32 (ePh l ⟨1, 0, (S : Int), 32⟩ [] log) := by rw [e1, e2, e3, e4]
  rw [ha]
  refine ⟨?_, g2, g3, hg.ml⟩
  rw [gdS, hst, hm1]
/-- One more era. -/
theorem do_era (A : Option Addr) (c : Nat) (zs : List Int) (w : World) (hn : zs.length = 49) (h : Sl w w.heap.size A 49 (ints zs)) (he : 0 ≤ zs.getD 2 0 ∧ zs.getD 2 0 ≤ 1000) :
    Calls Try.prog 18 #[.agg #[.slice A 49 c], .agg #[.int .i64 4, .int .i64 2, .int .i64 0, .int .i64 1]] w (fun e w' => ∃ g cap h1 b1, e = .returned (.tuple #[.agg #[.slice (some ⟨g, 0, none⟩) 49 cap], .agg #[.int .i64 h1, .bool b1], .int .i64 0]) ∧ OwnInts w' w.heap.size (.slice (some ⟨g, 0, none⟩) 49 cap) (zs.set 2 (zs.getD 2 0 + 1)) ∧ Below w.heap.size w w') := by
  refine (do_okn A c 49 zs ⟨4, 2, 0, 1⟩ w hn h (by omega) (by rw [hn]; decide)).mono ?_
  rintro e w' ⟨g, cap, rfl, ho, hb⟩
  obtain ⟨a1, -, -⟩ := acc_add (c := 2) (v := 1) (m := zs)
  rw [show (2 : Int).toNat = 2 from rfl, wrapE_in (by omega) (by omega)] at a1
  rw [a1] at ho
  exact ⟨g, cap, _, _, rfl, ho, hb⟩
end Go.Proofs.Ytgjdjgainjedhaa
