/- How what LayoutEnough is asked of is read. -/
import Derived.Test.YthaieabhlodajaaOpenB
import Derived.Test.YthaieabhlodajaaLayG
import Derived.Test.YthaieabhlodajaaRows
namespace Go.Proofs.Ythaieabhlodajaa
open Go.ChangeShapes Go.WideShapes Go.ChangeAt Go.RowKit Go.Joins Go.Deep
section
variable {H : Type} {enc : TypeId × Value → H} {W : World} {base : Nat} {v : Value} {d : DataW H} {p : List MemPlace}

theorem fld_sl {P : Program} {b0 : Nat} {spare : Nat → Bool} {held : Bool} {t e : TypeId} {fs : Array Field} {fuel : Nat} {cs : List Value} {x : DataW H × List MemPlace} (hs : P.underlying t = some (.struct fs)) (hone : oneCellFields P fs = true) (hC : P.cellsOf t = fs.size)
    (h : DataW.trod enc P W b0 spare held fuel t cs = some x) (i : Nat) (f : Field) (hf : fs[i]? = some f) (hk : P.underlying f.type = some (.slice e)) : ∃ A n c m y, cs[i]? = some (.slice A n c) ∧ DataW.trod enc P W b0 spare held m f.type [.slice A n c] = some y := by
  obtain ⟨v, n, y, hv, hy⟩ := fld hs hone hC h i f hf
  obtain ⟨A, m, c, rfl⟩ := slice_shape hk hy
  exact ⟨A, m, c, n, y, hv, hy⟩
theorem sub {P : Program} {b0 : Nat} {spare : Nat → Bool} {held : Bool} {t : TypeId} {fs : Array Field} {fuel : Nat} {cs : List Value} {x : DataW H × List MemPlace} (hs : P.underlying t = some (.struct fs))
    (h : DataW.trod enc P W b0 spare held fuel t cs = some x) (i : Nat) (f : Field) (hf : fs[i]? = some f) (o z : Nat) (ho : f.offset = o) (hz : P.cellsOf f.type = z) : ∃ n y, DataW.trod enc P W b0 spare held n f.type ((cs.drop o).take z) = some y := by
  obtain ⟨xs, n, _, _, hl, hxl, hg⟩ := DataW.trod_struct hs h
  have h1 := hg i f hf
  have hi : i < fs.size := (Array.getElem?_eq_some_iff.1 hf).1
  rw [ho, hz, List.getElem?_eq_getElem (by omega)] at h1
  exact ⟨n, _, h1⟩
theorem sub_int {P : Program} {b0 : Nat} {spare : Nat → Bool} {held : Bool} {t : TypeId} {fs : Array Field} {fuel : Nat} {cs : List Value} {x : DataW H × List MemPlace} {k : IntKind} (hs : P.underlying t = some (.struct fs))
    (h : DataW.trod enc P W b0 spare held fuel t cs = some x) (i : Nat) (f : Field) (hf : fs[i]? = some f) (o : Nat) (ho : f.offset = o) (hz : P.cellsOf f.type = 1) (hk : P.underlying f.type = some (.int k)) : ∃ m, cs[o]? = some (.int k m) ∧ (Lit.int k m).wf = true := by
  obtain ⟨n, y, hy⟩ := sub hs h i f hf o 1 ho hz
  obtain ⟨m, hm, _, hw⟩ := DataW.trod_int hk hy
  refine ⟨m, ?_, hw⟩
  have := congrArg (·[0]?) hm
  simpa [List.getElem?_take, List.getElem?_drop] using this
theorem sub_bool {P : Program} {b0 : Nat} {spare : Nat → Bool} {held : Bool} {t : TypeId} {fs : Array Field} {fuel : Nat} {cs : List Value} {x : DataW H × List MemPlace} (hs : P.underlying t = some (.struct fs))
    (h : DataW.trod enc P W b0 spare held fuel t cs = some x) (i : Nat) (f : Field) (hf : fs[i]? = some f) (o : Nat) (ho : f.offset = o) (hz : P.cellsOf f.type = 1) (hk : P.underlying f.type = some .bool) : ∃ m, cs[o]? = some (.bool m) := by
  obtain ⟨n, y, hy⟩ := sub hs h i f hf o 1 ho hz
  obtain ⟨m, hm, _⟩ := DataW.trod_bool hk hy
  refine ⟨m, ?_⟩
  have := congrArg (·[0]?) hm
  simpa [List.getElem?_take, List.getElem?_drop] using this
theorem sub_sl {P : Program} {b0 : Nat} {spare : Nat → Bool} {held : Bool} {t e : TypeId} {fs : Array Field} {fuel : Nat} {cs : List Value} {x : DataW H × List MemPlace} (hs : P.underlying t = some (.struct fs))
    (h : DataW.trod enc P W b0 spare held fuel t cs = some x) (i : Nat) (f : Field) (hf : fs[i]? = some f) (o : Nat) (ho : f.offset = o) (hz : P.cellsOf f.type = 1) (hk : P.underlying f.type = some (.slice e)) (hlt : o < cs.length) : ∃ A m c, cs[o]? = some (.slice A m c) := by
  obtain ⟨n, y, hy⟩ := sub hs h i f hf o 1 ho hz
  have e1 : (cs.drop o).take 1 = [cs[o]] := by rw [List.drop_eq_getElem_cons hlt]; rfl
  rw [e1] at hy
  obtain ⟨A, m, c, hA⟩ := slice_shape hk hy
  exact ⟨A, m, c, by rw [List.getElem?_eq_getElem hlt, hA]⟩
theorem len10 {α : Type} {l : List α} {a0 a1 a2 a3 a4 a5 a6 a7 a8 a9 : α} (hl : l.length = 10) (h0 : l[0]? = some a0) (h1 : l[1]? = some a1) (h2 : l[2]? = some a2) (h3 : l[3]? = some a3) (h4 : l[4]? = some a4) (h5 : l[5]? = some a5) (h6 : l[6]? = some a6) (h7 : l[7]? = some a7) (h8 : l[8]? = some a8) (h9 : l[9]? = some a9) : l = [a0, a1, a2, a3, a4, a5, a6, a7, a8, a9] := by
  match l, hl with
  | [x0, x1, x2, x3, x4, x5, x6, x7, x8, x9], _ => simp at h0 h1 h2 h3 h4 h5 h6 h7 h8 h9; simp [h0, h1, h2, h3, h4, h5, h6, h7, h8, h9]
theorem len11 {α : Type} {l : List α} {a0 a1 a2 a3 a4 a5 a6 a7 a8 a9 a10 : α} (hl : l.length = 11) (h0 : l[0]? = some a0) (h1 : l[1]? = some a1) (h2 : l[2]? = some a2) (h3 : l[3]? = some a3) (h4 : l[4]? = some a4) (h5 : l[5]? = some a5) (h6 : l[6]? = some a6) (h7 : l[7]? = some a7) (h8 : l[8]? = some a8) (h9 : l[9]? = some a9) (h10 : l[10]? = some a10) : l = [a0, a1, a2, a3, a4, a5, a6, a7, a8, a9, a10] := by
  match l, hl with
  | [x0, x1, x2, x3, x4, x5, x6, x7, x8, x9, x10], _ => simp at h0 h1 h2 h3 h4 h5 h6 h7 h8 h9 h10; simp [h0, h1, h2, h3, h4, h5, h6, h7, h8, h9, h10]
theorem len6 {α : Type} {l : List α} {a0 a1 a2 a3 a4 a5 : α} (hl : l.length = 6) (h0 : l[0]? = some a0) (h1 : l[1]? = some a1) (h2 : l[2]? = some a2) (h3 : l[3]? = some a3) (h4 : l[4]? = some a4) (h5 : l[5]? = some a5) : l = [a0, a1, a2, a3, a4, a5] := by
  match l, hl with
  | [x0, x1, x2, x3, x4, x5], _ => simp at h0 h1 h2 h3 h4 h5; simp [h0, h1, h2, h3, h4, h5]

theorem us_of {fuel : Nat} {cs : List Value} {x : DataW H × List MemPlace} (h : DataW.trod enc Try.prog W 0 (fun _ => true) true fuel 45 cs = some x) : ∃ u : Us, cs = (usC u).toList := by
  have hl : cs.length = 10 := by
    obtain ⟨_, _, _, _, hl, _⟩ := DataW.trod_struct Try.underlying45 h
    rw [hl]; kernel_rfl
  obtain ⟨x0, h0, _⟩ := sub_int Try.underlying45 h 0 _ rfl 0 rfl (by kernel_rfl) Try.underlying3
  obtain ⟨A, n, c, h1⟩ := sub_sl Try.underlying45 h 1 _ rfl 1 rfl (by kernel_rfl) Try.underlying33 (by omega)
  obtain ⟨x2, h2, _⟩ := sub_int Try.underlying45 h 2 _ rfl 2 rfl (by kernel_rfl) Try.underlying3
  obtain ⟨x3, h3, _⟩ := sub_int Try.underlying45 h 3 _ rfl 3 rfl (by kernel_rfl) Try.underlying3
  obtain ⟨n4, y4, hop⟩ := sub Try.underlying45 h 4 _ rfl 4 4 rfl (by kernel_rfl)
  obtain ⟨x4, h4, _⟩ := sub_int Try.underlying43 hop 0 _ rfl 0 rfl (by kernel_rfl) Try.underlying3
  obtain ⟨x5, h5, _⟩ := sub_int Try.underlying43 hop 1 _ rfl 1 rfl (by kernel_rfl) Try.underlying3
  obtain ⟨x6, h6, _⟩ := sub_int Try.underlying43 hop 2 _ rfl 2 rfl (by kernel_rfl) Try.underlying3
  obtain ⟨x7, h7, _⟩ := sub_int Try.underlying43 hop 3 _ rfl 3 rfl (by kernel_rfl) Try.underlying3
  obtain ⟨x8, h8, _⟩ := sub_int Try.underlying45 h 5 _ rfl 8 rfl (by kernel_rfl) Try.underlying3
  obtain ⟨x9, h9⟩ := sub_bool Try.underlying45 h 6 _ rfl 9 rfl (by kernel_rfl) Try.underlying4
  simp [List.getElem?_drop] at h4 h5 h6 h7
  exact ⟨⟨x0, A, n, c, x2, x3, x4, x5, x6, x7, x8, x9⟩, len10 hl h0 h1 h2 h3 h4 h5 h6 h7 h8 h9⟩
theorem cd_of {fuel : Nat} {cs : List Value} {x : DataW H × List MemPlace} (h : DataW.trod enc Try.prog W 0 (fun _ => true) true fuel 35 cs = some x) : ∃ u : Cd, cs = (cdC u).toList := by
  have hl : cs.length = 6 := by
    obtain ⟨_, _, _, _, hl, _⟩ := DataW.trod_struct Try.underlying35 h
    rw [hl]; kernel_rfl
  obtain ⟨A0, n0, c0, h0⟩ := sub_sl Try.underlying35 h 0 _ rfl 0 rfl (by kernel_rfl) Try.underlying32 (by omega)
  obtain ⟨A1, n1, c1, h1⟩ := sub_sl Try.underlying35 h 1 _ rfl 1 rfl (by kernel_rfl) Try.underlying33 (by omega)
  obtain ⟨x2, h2, _⟩ := sub_int Try.underlying35 h 2 _ rfl 2 rfl (by kernel_rfl) Try.underlying3
  obtain ⟨x3, h3, _⟩ := sub_int Try.underlying35 h 3 _ rfl 3 rfl (by kernel_rfl) Try.underlying3
  obtain ⟨x4, h4, _⟩ := sub_int Try.underlying35 h 4 _ rfl 4 rfl (by kernel_rfl) Try.underlying3
  obtain ⟨x5, h5, _⟩ := sub_int Try.underlying35 h 5 _ rfl 5 rfl (by kernel_rfl) Try.underlying3
  exact ⟨⟨A0, n0, c0, A1, n1, c1, x2, x3, x4, x5⟩, len6 hl h0 h1 h2 h3 h4 h5⟩
theorem uses_of {fuel : Nat} {A : Option Addr} {n cap : Nat} {x : DataW H × List MemPlace} (h : DataW.trod enc Try.prog W 0 (fun _ => true) true fuel 37 [.slice A n cap] = some x) : ∃ l : List Us, l.length = n ∧ SlUse W W.heap.size A l ∧ (A = none → l.length = 0 ∧ cap = 0) := by
  have hnil : A = none → n = 0 ∧ cap = 0 := by
    rintro rfl
    rcases open_slice Try.underlying37 h with ⟨h0, _⟩ | ⟨a, len, c, _, _, _, _, h0, _⟩
    · simp at h0; exact ⟨h0.1, h0.2⟩
    · simp at h0
  obtain ⟨_, hs⟩ := sl_struct Try.underlying37 (show Try.prog.cellsOf 45 = 10 by kernel_rfl) (by omega) h
  by_cases hn : 0 < n
  · obtain ⟨b, o, hA, hb, hk⟩ := hs hn
    have hx : ∀ k : Nat, ∃ u : Us, k < n → ∀ j v, (usC u)[j]? = some v → W.cell? ⟨b, o + k * 10 + j, none⟩ = some v := by
      intro k
      by_cases hkn : k < n
      · obtain ⟨cs, m, y, hl, hc, ht⟩ := hk k hkn
        obtain ⟨u, hu⟩ := us_of ht
        refine ⟨u, fun _ j v hv => ?_⟩
        have hj : j < 10 := by
          have := (Array.getElem?_eq_some_iff.1 hv).1
          simpa using this
        rw [hc j hj, hu, Array.getElem?_toList]
        exact hv
      · exact ⟨⟨0, none, 0, 0, 0, 0, 0, 0, 0, 0, 0, false⟩, fun h => absurd h hkn⟩
    obtain ⟨F, hF⟩ : ∃ F : Nat → Us, ∀ k, k < n → ∀ j v, (usC (F k))[j]? = some v → W.cell? ⟨b, o + k * 10 + j, none⟩ = some v := ⟨fun k => Classical.choose (hx k), fun k => Classical.choose_spec (hx k)⟩
    refine ⟨(List.range n).map F, by simp, fun _ => ⟨b, o, hA, hb, fun k u hu j v hv => ?_⟩, by simpa using hnil⟩
    have hkn : k < n := by
      have := (List.getElem?_eq_some_iff.1 hu).1
      simpa using this
    simp [hkn] at hu
    subst hu
    exact hF k hkn j v hv
  · exact ⟨[], by simp; omega, fun h => absurd h (by simp), fun h => ⟨rfl, (hnil h).2⟩⟩
theorem el_of {fuel : Nat} {cs : List Value} {x : DataW H × List MemPlace} (h : DataW.trod enc Try.prog W 0 (fun _ => true) true fuel 41 cs = some x) : ∃ (e : El) (U : Option Addr) (uc : Nat) (l : List Us), cs = (elC e U l.length uc).toList ∧ SlUse W W.heap.size U l ∧ (U = none → l.length = 0 ∧ uc = 0) := by
  have hl : cs.length = 11 := by
    obtain ⟨_, _, _, _, hl, _⟩ := DataW.trod_struct Try.underlying41 h
    rw [hl]; kernel_rfl
  obtain ⟨x0, h0, _⟩ := sub_int Try.underlying41 h 0 _ rfl 0 rfl (by kernel_rfl) Try.underlying27
  obtain ⟨x1, h1, _⟩ := sub_int Try.underlying41 h 1 _ rfl 1 rfl (by kernel_rfl) Try.underlying3
  obtain ⟨A2, n2, c2, h2⟩ := sub_sl Try.underlying41 h 2 _ rfl 2 rfl (by kernel_rfl) Try.underlying33 (by omega)
  obtain ⟨A3, n3, c3, h3⟩ := sub_sl Try.underlying41 h 3 _ rfl 3 rfl (by kernel_rfl) Try.underlying36 (by omega)
  obtain ⟨A4, n4, c4, h4⟩ := sub_sl Try.underlying41 h 4 _ rfl 4 rfl (by kernel_rfl) Try.underlying36 (by omega)
  obtain ⟨A5, n5, c5, h5⟩ := sub_sl Try.underlying41 h 5 _ rfl 5 rfl (by kernel_rfl) Try.underlying36 (by omega)
  obtain ⟨A7, n7, c7, h7⟩ := sub_sl Try.underlying41 h 7 _ rfl 7 rfl (by kernel_rfl) Try.underlying38 (by omega)
  obtain ⟨x8, h8, _⟩ := sub_int Try.underlying41 h 8 _ rfl 8 rfl (by kernel_rfl) Try.underlying3
  obtain ⟨x9, h9, _⟩ := sub_int Try.underlying41 h 9 _ rfl 9 rfl (by kernel_rfl) Try.underlying3
  obtain ⟨A10, n10, c10, h10⟩ := sub_sl Try.underlying41 h 10 _ rfl 10 rfl (by kernel_rfl) Try.underlying39 (by omega)
  obtain ⟨A6, n6, c6, m6, y6, h6, t6⟩ := fld_sl Try.underlying41 (by kernel_rfl) (by kernel_rfl) h 6 _ rfl Try.underlying37
  obtain ⟨l, hln, hsl, hnl⟩ := uses_of t6
  subst hln
  exact ⟨⟨x0, x1, A2, n2, c2, A3, n3, c3, A4, n4, c4, A5, n5, c5, A7, n7, c7, x8, x9, A10, n10, c10⟩, A6, c6, l, len11 hl h0 h1 h2 h3 h4 h5 h6 h7 h8 h9 h10, hsl, hnl⟩
/-- All of it, as cells. -/
abbrev inC (c : Cd) (e : El) (U : Option Addr) (n uc : Nat) (u : Us) (s : Int) : Array Value := #[.slice c.fA c.fn c.fc, .slice c.cA c.cn c.cc, .int .i64 c.maps, .int .i64 c.stacks, .int .i64 c.chans, .int .i64 c.main,
  .int .i64 e.err, .int .i64 e.value, .slice e.cA e.cn e.cc, .slice e.mA e.mn e.mc, .slice e.sA e.sn e.sc, .slice e.hA e.hn e.hc, .slice U n uc, .slice e.pA e.pn e.pc, .int .i64 e.steps, .int .i64 e.tasks, .slice e.xA e.xn e.xc,
  .int .i64 u.strand, .slice u.tA u.tn u.tc, .int .i64 u.thing, .int .i64 u.obj, .int .i64 u.kind, .int .i64 u.obj2, .int .i64 u.a, .int .i64 u.b, .int .i64 u.val, .bool u.ok, .int .i64 s]
theorem o_in (hv : Value.okWide Try.prog W .any base 47 v) (h : DataW.Trod enc Try.prog W 0 (fun _ => true) true 47 v d p) :
    ∃ (c : Cd) (e : El) (U : Option Addr) (uc : Nat) (l : List Us) (u : Us) (s : Int), v = .agg (inC c e U l.length uc u s) ∧ SlUse W W.heap.size U l ∧ (U = none → l.length = 0 ∧ uc = 0) ∧ -9223372036854775808 ≤ s ∧ s ≤ 9223372036854775807 := by
  obtain ⟨cs, rfl, hsz⟩ := okWide_struct Try.underlying47 hv
  obtain ⟨fuel, hf⟩ := h
  have hc : Try.prog.cellsOf 47 = 28 := by kernel_rfl
  have hf' : DataW.trod enc Try.prog W 0 (fun _ => true) true fuel 47 cs.toList = some (d, p) := by simpa [Value.cells] using hf
  have hl : cs.toList.length = 28 := by simp [hsz, hc]
  obtain ⟨_, _, t0⟩ := sub Try.underlying47 hf' 0 _ rfl 0 6 rfl (by kernel_rfl)
  obtain ⟨_, _, t1⟩ := sub Try.underlying47 hf' 1 _ rfl 6 11 rfl (by kernel_rfl)
  obtain ⟨_, _, t2⟩ := sub Try.underlying47 hf' 2 _ rfl 17 10 rfl (by kernel_rfl)
  obtain ⟨s, h27, hw⟩ := sub_int Try.underlying47 hf' 3 _ rfl 27 rfl (by kernel_rfl) Try.underlying3
  obtain ⟨c, e0⟩ := cd_of t0
  obtain ⟨e, U, uc, l, e1, hsl, hnl⟩ := el_of t1
  obtain ⟨u, e2⟩ := us_of t2
  refine ⟨c, e, U, uc, l, u, s, ?_, hsl, hnl, (bounds_i64 hw).1, (bounds_i64 hw).2⟩
  have hd : cs.toList = (cs.toList.drop 0).take 6 ++ ((cs.toList.drop 6).take 11 ++ ((cs.toList.drop 17).take 10 ++ [.int .i64 s])) := by
    have hlast : cs.toList.drop 27 = [.int .i64 s] := by
      rw [List.drop_eq_getElem_cons (by omega)]
      rw [List.getElem?_eq_getElem (by omega)] at h27
      injection h27 with h27
      rw [h27, List.drop_of_length_le (by omega)]
    rw [← hlast, List.drop_zero]
    have d1 : (cs.toList.drop 17).take 10 ++ cs.toList.drop 27 = cs.toList.drop 17 := by
      have := List.take_append_drop 10 (cs.toList.drop 17)
      rwa [List.drop_drop] at this
    rw [d1]
    have d2 : (cs.toList.drop 6).take 11 ++ cs.toList.drop 17 = cs.toList.drop 6 := by
      have := List.take_append_drop 11 (cs.toList.drop 6)
      rwa [List.drop_drop] at this
    rw [d2, List.take_append_drop]
  rw [← Array.toArray_toList (xs := cs), hd, e0, e1, e2]
  rfl
end
end Go.Proofs.Ythaieabhlodajaa
