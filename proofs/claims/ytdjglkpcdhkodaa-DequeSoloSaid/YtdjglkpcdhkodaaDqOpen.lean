/- How a play is read, and a list of bytes. -/
import Derived.Test.YtdjglkpcdhkodaaOpenB
import Derived.Test.YtdjglkpcdhkodaaOpenC
import Derived.Test.YtdjglkpcdhkodaaDqW
namespace Go.Proofs.Ytdjglkpcdhkodaa
open Go.ChangeShapes Go.WideShapes Go.ChangeAt Go.RowKit Go.Joins Go.Deep
section
variable {H : Type} {enc : TypeId × Value → H} {W : World} {base b0 : Nat} {spare : Nat → Bool} {held : Bool} {v : Value} {d : DataW H} {p : List MemPlace}
/-- A list by its elements. -/
theorem list_of {α : Type} [Inhabited α] {n : Nat} {P : Nat → α → Prop} (h : ∀ k, k < n → ∃ a, P k a) : ∃ l : List α, l.length = n ∧ ∀ k a, l[k]? = some a → P k a := by
  have hex : ∀ k, ∃ a, k < n → P k a := fun k => by
    by_cases hk : k < n
    · obtain ⟨a, ha⟩ := h k hk
      exact ⟨a, fun _ => ha⟩
    · exact ⟨default, fun hh => absurd hh hk⟩
  refine ⟨(List.range n).map fun k => Classical.choose (hex k), by simp, fun k a ha => ?_⟩
  have hkn : k < n := by
    have := (List.getElem?_eq_some_iff.1 ha).1
    simpa using this
  have hspec := Classical.choose_spec (hex k) hkn
  have e : Classical.choose (hex k) = a := by
    rw [List.getElem?_map, List.getElem?_range hkn] at ha
    simpa using ha
  rwa [e] at hspec
set_option maxRecDepth 100000 in
theorem u8s_of_trod {fuel : Nat} {A : Option Addr} {n cap : Nat} {x : DataW H × List MemPlace} (hf : DataW.trod enc Try.prog W b0 spare held fuel 22 [.slice A n cap] = some x) :
    ∃ l : List Nat, l.length = n ∧ SlU8 W W.heap.size A l := by
  obtain ⟨_, hs⟩ := sl_struct (sz := 1) Try.underlying22 (by kernel_rfl) (by omega) hf
  by_cases hn : 0 < n
  · obtain ⟨b, o, rfl, hb, hk⟩ := hs hn
    obtain ⟨l, hl, hP⟩ := list_of (α := Nat) (n := n) (P := fun k t => W.cell? ⟨b, o + k, none⟩ = some (.int .u8 (t : Nat)) ∧ t < 256) (by
      intro k hkn
      obtain ⟨cs, m, y, hl, hc, hr⟩ := hk k hkn
      obtain ⟨v, rfl⟩ : ∃ v, cs = [v] := by
        match cs, hl with
        | [v], _ => exact ⟨v, rfl⟩
      obtain ⟨z, hz, _, hw⟩ := DataW.trod_int Try.underlying5 hr
      simp at hz
      subst hz
      have hbz := bounds_u8 hw
      have := hc 0 (by omega)
      rw [Nat.mul_one, Nat.add_zero] at this
      refine ⟨z.toNat, ?_, by omega⟩
      rw [this]
      simp
      omega)
    exact ⟨l, hl, fun _ => ⟨b, o, rfl, hb, fun k t ht => hP k t ht⟩⟩
  · obtain rfl : n = 0 := by omega
    exact ⟨[], rfl, fun h => absurd h (by simp)⟩
set_option maxRecDepth 100000 in
theorem o_u8s (hv : Value.okWide Try.prog W .any base 22 v) (h : DataW.Trod enc Try.prog W 0 (fun _ => true) true 22 v d p) : ∃ (A : Option Addr) (n c : Nat) (l : List Nat), v = .slice A n c ∧ l.length = n ∧ SlU8 W W.heap.size A l := by
  obtain ⟨A, n, cap, rfl⟩ := okWide_slice Try.underlying22 hv
  obtain ⟨fuel, hf⟩ := h
  obtain ⟨l, h1, h2⟩ := u8s_of_trod (by simpa [Value.cells] using hf)
  exact ⟨A, n, cap, l, rfl, h1, h2⟩
theorem sub {P : Program} {b0 : Nat} {spare : Nat → Bool} {held : Bool} {t : TypeId} {fs : Array Field} {fuel : Nat} {cs : List Value} {x : DataW H × List MemPlace} (hs : P.underlying t = some (.struct fs))
    (h : DataW.trod enc P W b0 spare held fuel t cs = some x) (i : Nat) (f : Field) (hf : fs[i]? = some f) (o z : Nat) (ho : f.offset = o) (hz : P.cellsOf f.type = z) : ∃ n y, DataW.trod enc P W b0 spare held n f.type ((cs.drop o).take z) = some y := by
  obtain ⟨xs, n, _, _, hl, hxl, hg⟩ := DataW.trod_struct hs h
  have h1 := hg i f hf
  have hi : i < fs.size := (Array.getElem?_eq_some_iff.1 hf).1
  rw [ho, hz, List.getElem?_eq_getElem (by omega)] at h1
  exact ⟨n, _, h1⟩
theorem sub_int {P : Program} {b0 : Nat} {spare : Nat → Bool} {held : Bool} {t : TypeId} {fs : Array Field} {fuel : Nat} {cs : List Value} {x : DataW H × List MemPlace} {k : IntKind} (hs : P.underlying t = some (.struct fs))
    (h : DataW.trod enc P W b0 spare held fuel t cs = some x) (i : Nat) (f : Field) (hf : fs[i]? = some f) (o : Nat) (ho : f.offset = o) (hz : P.cellsOf f.type = 1) (hk : P.underlying f.type = some (.int k)) : ∃ m, cs[o]? = some (.int k m) ∧ (Lit.int k m).wf = true := by
  obtain ⟨n, y, hy⟩ := sub hs h i f hf o 1 ho hz
  obtain ⟨m, hm, _, hw⟩ := DataW.trod_int hk hy
  refine ⟨m, ?_, hw⟩
  have := congrArg (·[0]?) hm
  simpa [List.getElem?_take, List.getElem?_drop] using this
theorem sub_slT {P : Program} {b0 : Nat} {spare : Nat → Bool} {held : Bool} {t e : TypeId} {fs : Array Field} {fuel : Nat} {cs : List Value} {x : DataW H × List MemPlace} (hs : P.underlying t = some (.struct fs))
    (h : DataW.trod enc P W b0 spare held fuel t cs = some x) (i : Nat) (f : Field) (hf : fs[i]? = some f) (o : Nat) (ho : f.offset = o) (hz : P.cellsOf f.type = 1) (hk : P.underlying f.type = some (.slice e)) (hlt : o < cs.length) : ∃ A m c n y, cs[o]? = some (.slice A m c) ∧ DataW.trod enc P W b0 spare held n f.type [.slice A m c] = some y := by
  obtain ⟨n, y, hy⟩ := sub hs h i f hf o 1 ho hz
  have e1 : (cs.drop o).take 1 = [cs[o]] := by rw [List.drop_eq_getElem_cons hlt]; rfl
  rw [e1] at hy
  obtain ⟨A, m, c, hA⟩ := slice_shape hk hy
  rw [hA] at hy
  exact ⟨A, m, c, n, y, by rw [List.getElem?_eq_getElem hlt, hA], hy⟩
theorem arr5 {α : Type} {l : List α} {a0 a1 a2 a3 a4 : α} (hl : l.length = 5) (h0 : l[0]? = some a0) (h1 : l[1]? = some a1) (h2 : l[2]? = some a2) (h3 : l[3]? = some a3) (h4 : l[4]? = some a4) : l = [a0, a1, a2, a3, a4] := by
  match l, hl with
  | [x0, x1, x2, x3, x4], _ => simp at h0 h1 h2 h3 h4; simp [h0, h1, h2, h3, h4]
set_option maxRecDepth 100000 in
theorem o_play (hv : Value.okWide Try.prog W .any base 25 v) (h : DataW.Trod enc Try.prog W 0 (fun _ => true) true 25 v d p) :
    ∃ (q : PlayD) (O : Option Addr) (co : Nat) (tk : Int) (T : Option Addr) (d : Nat) (turns : List Nat), v = .agg (playC O q.own.length co q.s1 q.s2 tk T turns.length d) ∧ 0 ≤ tk ∧ tk < 256 ∧ q.s1 < 256 ∧ q.s2 < 256 ∧ SlU8 W W.heap.size O q.own ∧ SlU8 W W.heap.size T turns := by
  obtain ⟨cs, rfl, hsz⟩ := okWide_struct Try.underlying25 hv
  obtain ⟨fuel, hf⟩ := h
  have hc : Try.prog.cellsOf 25 = 5 := by kernel_rfl
  have hl : cs.toList.length = 5 := by simp [hsz, hc]
  have hf' : DataW.trod enc Try.prog W 0 (fun _ => true) true fuel 25 cs.toList = some (d, p) := by simpa [Value.cells] using hf
  obtain ⟨O, n, co, n0, y0, h0, g0⟩ := sub_slT Try.underlying25 hf' 0 _ rfl 0 rfl (by kernel_rfl) Try.underlying22 (by omega)
  obtain ⟨n1, y1, hst⟩ := sub Try.underlying25 hf' 1 _ rfl 1 2 rfl (by kernel_rfl)
  obtain ⟨tk, h3, w3⟩ := sub_int Try.underlying25 hf' 2 _ rfl 3 rfl (by kernel_rfl) Try.underlying5
  obtain ⟨T, m, e, n4, y4, h4, g4⟩ := sub_slT Try.underlying25 hf' 3 _ rfl 4 rfl (by kernel_rfl) Try.underlying22 (by omega)
  have hls : ((cs.toList.drop 1).take 2).length = 2 := by simp only [List.length_take, List.length_drop]; omega
  obtain ⟨a, h1, w1⟩ := arr_int Try.underlying23 Try.underlying5 (by kernel_rfl) hls hst 0 (by omega)
  obtain ⟨b, h2, w2⟩ := arr_int Try.underlying23 Try.underlying5 (by kernel_rfl) hls hst 1 (by omega)
  rw [List.getElem?_take_of_lt (by omega), List.getElem?_drop] at h1 h2
  obtain ⟨own, a1, a2⟩ := u8s_of_trod g0
  obtain ⟨turns, b1, b2⟩ := u8s_of_trod g4
  have c1 := bounds_u8 w1
  have c2 := bounds_u8 w2
  have c3 := bounds_u8 w3
  refine ⟨⟨own, a.toNat, b.toNat⟩, O, co, tk, T, e, turns, ?_, by omega, by omega, by dsimp only; omega, by dsimp only; omega, a2, b2⟩
  dsimp only
  rw [a1, b1, ← Array.toArray_toList (xs := cs), arr5 hl h0 h1 h2 h3 h4]
  show _ = Value.agg #[.slice O n co, .int .u8 ((a.toNat : Nat) : Int), .int .u8 ((b.toNat : Nat) : Int), .int .u8 tk, .slice T m e]
  rw [show ((a.toNat : Nat) : Int) = a by omega, show ((b.toNat : Nat) : Int) = b by omega]
end
end Go.Proofs.Ytdjglkpcdhkodaa
